/- Ours: what rules that came in read as. -/
import Derived.Test.YtaeghinbpkleaaaOpKin
import Derived.Test.YtaeghinbpkleaaaEnt
namespace Go.Proofs.Ytaeghinbpkleaaa
set_option linter.unusedVariables false
set_option linter.unusedSimpArgs false
open Go.RowKit

theorem opTxt : Opens Try.prog 9 ByteArray := opens_string Try.underlying9
theorem opRul : Opens Try.prog 51 Rul := opens_struct (N := 5) Try.underlying51 (by kernel_rfl) (opensF_cons rfl (by kernel_rfl) opTxt (opensF_cons rfl (by kernel_rfl) opInt (opensF_cons rfl (by kernel_rfl) opInt (opensF_cons rfl (by kernel_rfl) opStps (opensF_one rfl (by kernel_rfl) opStps)))))
theorem opRules : Opens Try.prog 22 (List Rul) := opens_slice Try.underlying22 (by kernel_rfl) (by decide) opRul
theorem opTPr : Opens Try.prog 56 TPr := opens_struct (N := 4) Try.underlying56 (by kernel_rfl) (opensF_cons rfl (by kernel_rfl) opKin (opensF_one rfl (by kernel_rfl) opKin))
theorem opPairs : Opens Try.prog 23 (List TPr) := opens_slice Try.underlying23 (by kernel_rfl) (by decide) opTPr
end Go.Proofs.Ytaeghinbpkleaaa
