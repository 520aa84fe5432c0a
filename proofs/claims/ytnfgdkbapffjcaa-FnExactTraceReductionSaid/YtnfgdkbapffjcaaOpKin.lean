/- Ours: what kin types that came in read as. -/
import Derived.Test.YtnfgdkbapffjcaaOpTy
import Derived.Test.YtnfgdkbapffjcaaBase
namespace Go.Proofs.Ytnfgdkbapffjcaa
set_option linter.unusedVariables false
set_option linter.unusedSimpArgs false
open Go.RowKit

theorem opStp : Opens Try.prog 122 Stp := opens_struct (N := 2) Try.underlying122 (by kernel_rfl) (opensF_cons rfl (by kernel_rfl) opInt (opensF_one rfl (by kernel_rfl) opInt))
theorem opStps : Opens Try.prog 43 (List Stp) := opens_slice Try.underlying43 (by kernel_rfl) (by decide) opStp
theorem opKin : Opens Try.prog 45 (Int × List Stp) := opens_struct (N := 2) Try.underlying45 (by kernel_rfl) (opensF_cons rfl (by kernel_rfl) opInt (opensF_one rfl (by kernel_rfl) opStps))
end Go.Proofs.Ytnfgdkbapffjcaa
