/- Contracts of the laws' helpers on terminologies: size, copy, compare. -/
import Derived.Test.YtdpkldapobbnpaaGreatDoorRulM
import Derived.Test.YtdpkldapobbnpaaGreatDoorDEntry
import Derived.Test.YtdpkldapobbnpaaGreatDoorEnt
namespace Go.Proofs.YtdpkldapobbnpaaGreatDoor
set_option linter.unusedVariables false
set_option linter.unusedSimpArgs false
open Go.RowKit

def trmSz (y : Trm) : Nat := sszRul y.1 + sszEnt y.2
instance decEqTrm : DecidableEq (List Rul × List Ent) := instDecidableEqProd
theorem Rd.trm {z : Bool} {lo hi : Nat} {w : World} {a b : Value} {f : Trm} (h : Rd z lo hi w [a, b] f) : Rd z lo hi w [a] f.1 ∧ Rd z lo hi w [b] f.2 := h.two rfl
theorem shapeTrm {z : Bool} {lo hi : Nat} {w : World} {a b : Value} {f : Trm} (h : Rd z lo hi w [a, b] f) : ∃ ao n cap bo m dap, a = .slice ao n cap ∧ b = .slice bo m dap := by
  obtain ⟨h1, h2⟩ := h.trm
  obtain ⟨ao, n, cap, rfl, -⟩ := h1.shape
  obtain ⟨bo, m, dap, rfl, -⟩ := h2.shape
  exact ⟨ao, n, cap, bo, m, dap, rfl, rfl⟩



set_option maxHeartbeats 1000000 in
theorem eqTerminology_b {z z' : Bool} {lo hi lo' hi' : Nat} (w : World) (u1 u2 v1 v2 : Value) (x y : Trm) (h : Rd z lo hi w [u1, u2] x) (h' : Rd z' lo' hi' w [v1, v2] y) (b : Bool) (hb : b = decide (x = y)) :
    Calls Tryz.prog 7 #[.agg #[u1, u2], .agg #[v1, v2]] w (PostB w b) := by
  obtain ⟨x1, x2⟩ := x
  obtain ⟨y1, y2⟩ := y
  obtain ⟨hx1, hx2⟩ := h.trm
  obtain ⟨hy1, hy2⟩ := h'.trm
  obtain ⟨r1, hlet_r1⟩ : ∃ r, r = decide (x1 = y1) := ⟨_, rfl⟩
  have H1 := Lib.hid hlet_r1
  clear hlet_r1
  obtain ⟨r2, hlet_r2⟩ : ∃ r, r = decide (x2 = y2) := ⟨_, rfl⟩
  have H2 := Lib.hid hlet_r2
  clear hlet_r2
  have HR := Lib.hid (show b = (r1 && r2) by rw [hb, H1.out, H2.out]; simp [Prod.mk.injEq])
  clear hb h h'
  dsimp only at hx1 hx2 hy1 hy2
  go_enter Tryz.func7, Tryz.ntmps7
  go_wp2_with fail
  refine (eqRuleS_b _ _ _ x1 y1 (hx1.below bwT) (hy1.below bwT) _ H1.out).mono ?_
  rintro e3 w3 ⟨rfl, hbw3⟩
  have hpw3 : Below w.heap.size w w3 := Below.after bwT hbw3 szT
  have sw3 := hpw3.size
  have hBw3 : Below w.heap.size w w3 := hpw3
  have l_a : w.heap.size < w3.heap.size := by have := hbw3.size; simp at this; omega
  have q_a0 : w3.cell? ⟨w.heap.size, 0, none⟩ = some (u1) := oldc hbw3 ltT (by simp [go_sem])
  have q_a1 : w3.cell? ⟨w.heap.size, 1, none⟩ = some (u2) := oldc hbw3 ltT (by simp [go_sem])
  have l_b : w.heap.size + 1 < w3.heap.size := by have := hbw3.size; simp at this; omega
  have q_b0 : w3.cell? ⟨w.heap.size + 1, 0, none⟩ = some (v1) := oldc hbw3 ltT (by simp [go_sem])
  have q_b1 : w3.cell? ⟨w.heap.size + 1, 1, none⟩ = some (v2) := oldc hbw3 ltT (by simp [go_sem])
  clear hbw3 hpw3
  cases r1
  · go_wp2
    go_ret
    exact ⟨ret_bool (by rw [HR.out]; rfl), hBw3⟩
  go_wp2_with fail
  refine (eqEntryS_b _ _ _ x2 y2 (hx2.below bwT) (hy2.below bwT) _ H2.out).mono ?_
  rintro e4 w4 ⟨rfl, hbw4⟩
  have hpw4 : Below w3.heap.size w3 w4 := Below.after bwT hbw4 szT
  have sw4 := hpw4.size
  have hBw4 : Below w.heap.size w w4 := Below.trans hBw3 (Below.mono hpw4 hBw3.size)
  have q_a0 := oldc hpw4 l_a q_a0
  have q_a1 := oldc hpw4 l_a q_a1
  have q_b0 := oldc hpw4 l_b q_b0
  have q_b1 := oldc hpw4 l_b q_b1
  have l_a := Nat.lt_of_lt_of_le l_a sw4
  have l_b := Nat.lt_of_lt_of_le l_b sw4
  clear hbw4 hpw4
  cases r2
  · go_wp2
    go_ret
    exact ⟨ret_bool (by rw [HR.out]; rfl), hBw4⟩
  go_wp2
  go_ret
  exact ⟨ret_bool (by rw [HR.out]; rfl), hBw4⟩
end Go.Proofs.YtdpkldapobbnpaaGreatDoor
