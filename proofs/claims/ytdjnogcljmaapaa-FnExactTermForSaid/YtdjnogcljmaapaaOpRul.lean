/- Ours: what rules that came in read as. -/
import Derived.Test.YtdjnogcljmaapaaOpKin
import Derived.Test.YtdjnogcljmaapaaEnt
namespace Go.Proofs.Ytdjnogcljmaapaa
set_option linter.unusedVariables false
set_option linter.unusedSimpArgs false
open Go.RowKit

theorem opTxt : Opens Try.prog 9 ByteArray := opens_string Try.underlying9
theorem opRul : Opens Try.prog 107 Rul := opens_struct (N := 5) Try.underlying107 (by kernel_rfl) (opensF_cons rfl (by kernel_rfl) opTxt (opensF_cons rfl (by kernel_rfl) opInt (opensF_cons rfl (by kernel_rfl) opInt (opensF_cons rfl (by kernel_rfl) opStps (opensF_one rfl (by kernel_rfl) opStps)))))
theorem opRules : Opens Try.prog 51 (List Rul) := opens_slice Try.underlying51 (by kernel_rfl) (by decide) opRul
theorem opEnt : Opens Try.prog 152 Ent := opens_struct (N := 3) Try.underlying152 (by kernel_rfl) (opensF_cons rfl (by kernel_rfl) opKin (opensF_one rfl (by kernel_rfl) opTxt))
theorem opEnts : Opens Try.prog 63 (List Ent) := opens_slice Try.underlying63 (by kernel_rfl) (by decide) opEnt
theorem opTrm : Opens Try.prog 65 (List Rul × List Ent) := opens_struct (N := 2) Try.underlying65 (by kernel_rfl) (opensF_cons rfl (by kernel_rfl) opRules (opensF_one rfl (by kernel_rfl) opEnts))
end Go.Proofs.Ytdjnogcljmaapaa
