/- Ours: what kin types that came in read as. -/
import Derived.Test.YtaeghinbpkleaaaOpTy
import Derived.Test.YtaeghinbpkleaaaBase
namespace Go.Proofs.Ytaeghinbpkleaaa
set_option linter.unusedVariables false
set_option linter.unusedSimpArgs false
open Go.RowKit

theorem opStp : Opens Try.prog 115 Stp := opens_struct (N := 2) Try.underlying115 (by kernel_rfl) (opensF_cons rfl (by kernel_rfl) opInt (opensF_one rfl (by kernel_rfl) opInt))
theorem opStps : Opens Try.prog 49 (List Stp) := opens_slice Try.underlying49 (by kernel_rfl) (by decide) opStp
theorem opKin : Opens Try.prog 54 (Int × List Stp) := opens_struct (N := 2) Try.underlying54 (by kernel_rfl) (opensF_cons rfl (by kernel_rfl) opInt (opensF_one rfl (by kernel_rfl) opStps))
end Go.Proofs.Ytaeghinbpkleaaa
