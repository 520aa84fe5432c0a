/- Texts laid one behind the other (merge.py): OpTy, OpFam, OpKin, OpRul, OpFR. -/
import Derived.Test.YtcbhdmmohdnjbaaGreatOpens
import Derived.Test.YtcbhdmmohdnjbaaGreatBase
import Derived.Test.YtcbhdmmohdnjbaaGreatEnt
namespace Go.Proofs.YtcbhdmmohdnjbaaGreat
set_option linter.unusedVariables false
set_option linter.unusedSimpArgs false
open Go.RowKit

/-! ### OpTy -/
section

theorem arr1 {cs : Array Value} (h : cs.size = 1) : ∃ a, cs = #[a] := by
  match cs, h with
  | ⟨[a]⟩, _ => exact ⟨a, rfl⟩
theorem arr2 {cs : Array Value} (h : cs.size = 2) : ∃ a b, cs = #[a, b] := by
  match cs, h with
  | ⟨[a, b]⟩, _ => exact ⟨a, b, rfl⟩
theorem arr3 {cs : Array Value} (h : cs.size = 3) : ∃ a b c, cs = #[a, b, c] := by
  match cs, h with
  | ⟨[a, b, c]⟩, _ => exact ⟨a, b, c, rfl⟩
theorem arr5 {cs : Array Value} (h : cs.size = 5) : ∃ a b c d e, cs = #[a, b, c, d, e] := by
  match cs, h with
  | ⟨[a, b, c, d, e]⟩, _ => exact ⟨a, b, c, d, e, rfl⟩

theorem opInt : Opens Tryz.prog 3 Int := opens_int Tryz.underlying3
theorem opInts : Opens Tryz.prog 54 (List Int) := opens_slice Tryz.underlying54 (by kernel_rfl) (by decide) opInt

end

/-! ### OpFam -/
section

theorem opStr : Opens Tryz.prog 9 ByteArray := opens_string Tryz.underlying9
theorem opPer : Opens Tryz.prog 113 Per := opens_struct (N := 6) Tryz.underlying113 (by kernel_rfl) (opensF_cons rfl (by kernel_rfl) opStr (opensF_cons rfl (by kernel_rfl) opInt (opensF_cons rfl (by kernel_rfl) opInt (opensF_cons rfl (by kernel_rfl) opInt (opensF_cons rfl (by kernel_rfl) opInt (opensF_one rfl (by kernel_rfl) opInt))))))
theorem opUni : Opens Tryz.prog 133 Uni := opens_struct (N := 4) Tryz.underlying133 (by kernel_rfl) (opensF_cons rfl (by kernel_rfl) opInt (opensF_cons rfl (by kernel_rfl) opInt (opensF_cons rfl (by kernel_rfl) opInt (opensF_one rfl (by kernel_rfl) opInt))))
theorem opPers : Opens Tryz.prog 22 (List Per) := opens_slice Tryz.underlying22 (by kernel_rfl) (by decide) opPer
theorem opUnis : Opens Tryz.prog 23 (List Uni) := opens_slice Tryz.underlying23 (by kernel_rfl) (by decide) opUni
theorem opFam : Opens Tryz.prog 25 (List Per × List Uni) := opens_struct (N := 2) Tryz.underlying25 (by kernel_rfl) (opensF_cons rfl (by kernel_rfl) opPers (opensF_one rfl (by kernel_rfl) opUnis))

end

/-! ### OpKin -/
section

theorem opStp : Opens Tryz.prog 203 Stp := opens_struct (N := 2) Tryz.underlying203 (by kernel_rfl) (opensF_cons rfl (by kernel_rfl) opInt (opensF_one rfl (by kernel_rfl) opInt))
theorem opStps : Opens Tryz.prog 115 (List Stp) := opens_slice Tryz.underlying115 (by kernel_rfl) (by decide) opStp
theorem opKin : Opens Tryz.prog 120 (Int × List Stp) := opens_struct (N := 2) Tryz.underlying120 (by kernel_rfl) (opensF_cons rfl (by kernel_rfl) opInt (opensF_one rfl (by kernel_rfl) opStps))

end

/-! ### OpRul -/
section

theorem opTxt : Opens Tryz.prog 9 ByteArray := opens_string Tryz.underlying9
theorem opRul : Opens Tryz.prog 117 Rul := opens_struct (N := 5) Tryz.underlying117 (by kernel_rfl) (opensF_cons rfl (by kernel_rfl) opTxt (opensF_cons rfl (by kernel_rfl) opInt (opensF_cons rfl (by kernel_rfl) opInt (opensF_cons rfl (by kernel_rfl) opStps (opensF_one rfl (by kernel_rfl) opStps)))))
theorem opRules : Opens Tryz.prog 26 (List Rul) := opens_slice Tryz.underlying26 (by kernel_rfl) (by decide) opRul
theorem opEnt : Opens Tryz.prog 122 Ent := opens_struct (N := 3) Tryz.underlying122 (by kernel_rfl) (opensF_cons rfl (by kernel_rfl) opKin (opensF_one rfl (by kernel_rfl) opTxt))
theorem opEnts : Opens Tryz.prog 27 (List Ent) := opens_slice Tryz.underlying27 (by kernel_rfl) (by decide) opEnt
theorem opTrm : Opens Tryz.prog 29 (List Rul × List Ent) := opens_struct (N := 2) Tryz.underlying29 (by kernel_rfl) (opensF_cons rfl (by kernel_rfl) opRules (opensF_one rfl (by kernel_rfl) opEnts))

end

/-! ### OpFR -/
section

theorem opFamTrm : True := trivial

end

end Go.Proofs.YtcbhdmmohdnjbaaGreat
