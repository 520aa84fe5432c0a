/- Ours: what families that came in read as. -/
import Derived.Test.YtiingmngeiakgaaOpTy
import Derived.Test.YtiingmngeiakgaaFam
namespace Go.Proofs.Ytiingmngeiakgaa
set_option linter.unusedVariables false
set_option linter.unusedSimpArgs false
open Go.RowKit

theorem opStr : Opens Try.prog 9 ByteArray := opens_string Try.underlying9
theorem opPer : Opens Try.prog 78 Per := opens_struct (N := 6) Try.underlying78 (by kernel_rfl) (opensF_cons rfl (by kernel_rfl) opStr (opensF_cons rfl (by kernel_rfl) opInt (opensF_cons rfl (by kernel_rfl) opInt (opensF_cons rfl (by kernel_rfl) opInt (opensF_cons rfl (by kernel_rfl) opInt (opensF_one rfl (by kernel_rfl) opInt))))))
theorem opUni : Opens Try.prog 82 Uni := opens_struct (N := 4) Try.underlying82 (by kernel_rfl) (opensF_cons rfl (by kernel_rfl) opInt (opensF_cons rfl (by kernel_rfl) opInt (opensF_cons rfl (by kernel_rfl) opInt (opensF_one rfl (by kernel_rfl) opInt))))
theorem opPers : Opens Try.prog 22 (List Per) := opens_slice Try.underlying22 (by kernel_rfl) (by decide) opPer
theorem opUnis : Opens Try.prog 23 (List Uni) := opens_slice Try.underlying23 (by kernel_rfl) (by decide) opUni
theorem opFam : Opens Try.prog 25 (List Per × List Uni) := opens_struct (N := 2) Try.underlying25 (by kernel_rfl) (opensF_cons rfl (by kernel_rfl) opPers (opensF_one rfl (by kernel_rfl) opUnis))
end Go.Proofs.Ytiingmngeiakgaa
