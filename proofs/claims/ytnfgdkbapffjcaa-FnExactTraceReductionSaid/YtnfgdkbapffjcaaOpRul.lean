/- Ours: what rules that came in read as. -/
import Derived.Test.YtnfgdkbapffjcaaOpKin
import Derived.Test.YtnfgdkbapffjcaaEnt
namespace Go.Proofs.Ytnfgdkbapffjcaa
set_option linter.unusedVariables false
set_option linter.unusedSimpArgs false
open Go.RowKit

theorem opTxt : Opens Try.prog 9 ByteArray := opens_string Try.underlying9
theorem opRul : Opens Try.prog 86 Rul := opens_struct (N := 5) Try.underlying86 (by kernel_rfl) (opensF_cons rfl (by kernel_rfl) opTxt (opensF_cons rfl (by kernel_rfl) opInt (opensF_cons rfl (by kernel_rfl) opInt (opensF_cons rfl (by kernel_rfl) opStps (opensF_one rfl (by kernel_rfl) opStps)))))
theorem opRules : Opens Try.prog 22 (List Rul) := opens_slice Try.underlying22 (by kernel_rfl) (by decide) opRul
theorem opEnt : Opens Try.prog 103 Ent := opens_struct (N := 3) Try.underlying103 (by kernel_rfl) (opensF_cons rfl (by kernel_rfl) opKin (opensF_one rfl (by kernel_rfl) opTxt))
theorem opEnts : Opens Try.prog 23 (List Ent) := opens_slice Try.underlying23 (by kernel_rfl) (by decide) opEnt
theorem opTrm : Opens Try.prog 25 (List Rul × List Ent) := opens_struct (N := 2) Try.underlying25 (by kernel_rfl) (opensF_cons rfl (by kernel_rfl) opRules (opensF_one rfl (by kernel_rfl) opEnts))
end Go.Proofs.Ytnfgdkbapffjcaa
