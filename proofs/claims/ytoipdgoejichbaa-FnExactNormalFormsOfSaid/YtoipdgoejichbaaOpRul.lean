/- Ours: what rules that came in read as. -/
import Derived.Test.YtoipdgoejichbaaOpKin
import Derived.Test.YtoipdgoejichbaaEnt
namespace Go.Proofs.Ytoipdgoejichbaa
set_option linter.unusedVariables false
set_option linter.unusedSimpArgs false
open Go.RowKit

theorem opTxt : Opens Try.prog 9 ByteArray := opens_string Try.underlying9
theorem opRul : Opens Try.prog 62 Rul := opens_struct (N := 5) Try.underlying62 (by kernel_rfl) (opensF_cons rfl (by kernel_rfl) opTxt (opensF_cons rfl (by kernel_rfl) opInt (opensF_cons rfl (by kernel_rfl) opInt (opensF_cons rfl (by kernel_rfl) opStps (opensF_one rfl (by kernel_rfl) opStps)))))
theorem opRules : Opens Try.prog 22 (List Rul) := opens_slice Try.underlying22 (by kernel_rfl) (by decide) opRul
end Go.Proofs.Ytoipdgoejichbaa
