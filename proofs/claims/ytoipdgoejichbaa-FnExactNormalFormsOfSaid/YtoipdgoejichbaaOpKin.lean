/- Ours: what kin types that came in read as. -/
import Derived.Test.YtoipdgoejichbaaOpTy
import Derived.Test.YtoipdgoejichbaaBase
namespace Go.Proofs.Ytoipdgoejichbaa
set_option linter.unusedVariables false
set_option linter.unusedSimpArgs false
open Go.RowKit

theorem opStp : Opens Try.prog 106 Stp := opens_struct (N := 2) Try.underlying106 (by kernel_rfl) (opensF_cons rfl (by kernel_rfl) opInt (opensF_one rfl (by kernel_rfl) opInt))
theorem opStps : Opens Try.prog 41 (List Stp) := opens_slice Try.underlying41 (by kernel_rfl) (by decide) opStp
theorem opKin : Opens Try.prog 43 (Int × List Stp) := opens_struct (N := 2) Try.underlying43 (by kernel_rfl) (opensF_cons rfl (by kernel_rfl) opInt (opensF_one rfl (by kernel_rfl) opStps))
end Go.Proofs.Ytoipdgoejichbaa
