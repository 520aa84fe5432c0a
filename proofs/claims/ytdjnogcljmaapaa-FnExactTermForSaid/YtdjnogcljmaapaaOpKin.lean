/- Ours: what kin types that came in read as. -/
import Derived.Test.YtdjnogcljmaapaaOpTy
import Derived.Test.YtdjnogcljmaapaaKin
namespace Go.Proofs.Ytdjnogcljmaapaa
set_option linter.unusedVariables false
set_option linter.unusedSimpArgs false
open Go.RowKit

theorem opStp : Opens Try.prog 138 Stp := opens_struct (N := 2) Try.underlying138 (by kernel_rfl) (opensF_cons rfl (by kernel_rfl) opInt (opensF_one rfl (by kernel_rfl) opInt))
theorem opStps : Opens Try.prog 25 (List Stp) := opens_slice Try.underlying25 (by kernel_rfl) (by decide) opStp
theorem opKin : Opens Try.prog 27 (Int × List Stp) := opens_struct (N := 2) Try.underlying27 (by kernel_rfl) (opensF_cons rfl (by kernel_rfl) opInt (opensF_one rfl (by kernel_rfl) opStps))
end Go.Proofs.Ytdjnogcljmaapaa
