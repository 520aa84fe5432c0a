/- The walk of the law FnExactIsRegular. -/
import Derived.Test.YtlnihbhjkfhbmaaRegI
import Derived.Test.YtlnihbhjkfhbmaaRegS
namespace Go.Proofs.Ytlnihbhjkfhbmaa
set_option linter.unusedVariables false
set_option linter.unusedSimpArgs false
open Go.RowKit

set_option maxRecDepth 20000 in
set_option maxHeartbeats 8000000 in
theorem walk_FnExactIsRegular (w : World) (c0a c0b : Value) (c : Cls) (h0 : Rd false 0 w.heap.size w [c0a, c0b] c) :
    Calls Try.prog 3 #[.agg #[c0a, c0b]] w (PostB w true) := by
  by_cases hg0 : (1048576 : Int) < c.1.length + c.2.length
  · go_enter Try.func3, Try.ntmps3
    go_wp2_with fail
    refine (szClasses_any _ _ _ c (h0.below bwT) _ (by omega) (by omega)).mono ?_
    rw [if_pos (by omega)]
    rintro e w1 ⟨rfl, hbw1⟩
    have hpw1 : Below w.heap.size w w1 := Below.after bwT hbw1 szT
    have sw1 := hpw1.size
    have hBw1 : Below w.heap.size w w1 := hpw1
    have l_a0 : w.heap.size < w1.heap.size := by have := hbw1.size; simp at this; omega
    have q_a00 : w1.cell? ⟨w.heap.size, 0, none⟩ = some (c0a) := oldc hbw1 ltT (by simp [go_sem])
    have q_a01 : w1.cell? ⟨w.heap.size, 1, none⟩ = some (c0b) := oldc hbw1 ltT (by simp [go_sem])
    clear hbw1 hpw1
    go_wp2
    go_ret
    exact ⟨rfl, hBw1⟩
  have hq0 : ¬ ((1048576 : Int) < c.1.length + c.2.length) := hg0
  obtain ⟨r, hr⟩ : ∃ r, r = isReg c := ⟨_, rfl⟩
  have HR := Lib.hid hr
  clear hr
  go_enter Try.func3, Try.ntmps3
  go_wp2_with fail
  refine (szClasses_any _ _ _ c (h0.below bwT) _ (by omega) (by omega)).mono ?_
  rw [if_neg (by omega)]
  rintro e w2 ⟨rfl, hbw2⟩
  have hpw2 : Below w.heap.size w w2 := Below.after bwT hbw2 szT
  have sw2 := hpw2.size
  have hBw2 : Below w.heap.size w w2 := hpw2
  have l_a0 : w.heap.size < w2.heap.size := by have := hbw2.size; simp at this; omega
  have q_a00 : w2.cell? ⟨w.heap.size, 0, none⟩ = some (c0a) := oldc hbw2 ltT (by simp [go_sem])
  have q_a01 : w2.cell? ⟨w.heap.size, 1, none⟩ = some (c0b) := oldc hbw2 ltT (by simp [go_sem])
  clear hbw2 hpw2
  go_wp2_with fail
  refine (toClasses_any _ _ _ c (h0.below bwT) (by omega) (by omega)).mono ?_
  rintro e w3 ⟨t0a, t0b, rfl, ho_t0, hbw3⟩
  have hpw3 : Below w2.heap.size w2 w3 := Below.after bwT hbw3 szT
  have sw3 := hpw3.size
  have hBw3 : Below w.heap.size w w3 := Below.trans hBw2 (Below.mono hpw3 hBw2.size)
  have q_a00 := oldc hpw3 l_a0 q_a00
  have q_a01 := oldc hpw3 l_a0 q_a01
  have l_a0 := Nat.lt_of_lt_of_le l_a0 sw3
  clear hbw3 hpw3
  go_wp2_with fail
  refine (isRegS_b _ _ _ c (ho_t0.rd.below bwT) (by omega) r HR.out).mono ?_
  rintro e w4 ⟨rfl, hbw4⟩
  have hpw4 : Below w3.heap.size w3 w4 := Below.after bwT hbw4 szT
  have sw4 := hpw4.size
  have hBw4 : Below w.heap.size w w4 := Below.trans hBw3 (Below.mono hpw4 hBw3.size)
  have q_a00 := oldc hpw4 l_a0 q_a00
  have q_a01 := oldc hpw4 l_a0 q_a01
  have l_a0 := Nat.lt_of_lt_of_le l_a0 sw4
  have ho_t0 := Ow.below ho_t0 hpw4
  clear hbw4 hpw4
  clear ho_t0
  go_wp2_with fail
  refine (toClasses_any _ _ _ c (h0.below bwT) (by omega) (by omega)).mono ?_
  rintro e w5 ⟨x0a, x0b, rfl, ho_x0, hbw5⟩
  have hpw5 : Below w4.heap.size w4 w5 := Below.after bwT hbw5 szT
  have sw5 := hpw5.size
  have hBw5 : Below w.heap.size w w5 := Below.trans hBw4 (Below.mono hpw5 hBw4.size)
  have q_a00 := oldc hpw5 l_a0 q_a00
  have q_a01 := oldc hpw5 l_a0 q_a01
  have l_a0 := Nat.lt_of_lt_of_le l_a0 sw5
  clear hbw5 hpw5
  obtain ⟨aox0, nx0, cpx0, box0, mx0, dpx0, rfl, rfl⟩ := shapeCls ho_x0.rd
  go_wp2_with fail
  refine (isRegI_b _ _ _ c (ho_x0.rd.below bwT) (by omega) r HR.out).mono ?_
  rintro e w6 ⟨rfl, hbw6⟩
  have hpw6 : Below w5.heap.size w5 w6 := Below.after bwT hbw6 szT
  have sw6 := hpw6.size
  have hBw6 : Below w.heap.size w w6 := Below.trans hBw5 (Below.mono hpw6 hBw5.size)
  have q_a00 := oldc hpw6 l_a0 q_a00
  have q_a01 := oldc hpw6 l_a0 q_a01
  have l_a0 := Nat.lt_of_lt_of_le l_a0 sw6
  have l_x0 : w5.heap.size < w6.heap.size := by have := hbw6.size; simp at this; omega
  have q_x00 : w6.cell? ⟨w5.heap.size, 0, none⟩ = some (.slice aox0 nx0 cpx0) := oldc hbw6 ltT (by simp [go_sem])
  have q_x01 : w6.cell? ⟨w5.heap.size, 1, none⟩ = some (.slice box0 mx0 dpx0) := oldc hbw6 ltT (by simp [go_sem])
  have ho_x0 := Ow.below ho_x0 hpw6
  clear hbw6 hpw6
  go_wp2_with fail
  go_region_held3 (fun w' => w'.cell? ⟨w.heap.size, 0, none⟩ = some (c0a) ∧ w'.cell? ⟨w.heap.size, 1, none⟩ = some (c0b) ∧ w'.cell? ⟨w5.heap.size, 0, none⟩ = some (.slice aox0 nx0 cpx0) ∧ w'.cell? ⟨w5.heap.size, 1, none⟩ = some (.slice box0 mx0 dpx0)) (go_keep) (first | (go_at_call 7; refine (toClasses_any _ _ _ c (h0.below (Below.drew hBw6)) (by omega) (by omega)).mono ?_; rintro e w7 ⟨y0a, y0b, rfl, ho_y0, hbw7⟩; have hpw7 : Below w6.heap.size w6 w7 := Below.trans (Below.drew (Below.refl _ _)) hbw7; have sw7 := hpw7.size; have hBw7 : Below w.heap.size w w7 := Below.trans hBw6 (Below.mono hpw7 hBw6.size); have q_a00 := oldc hpw7 l_a0 q_a00; have q_a01 := oldc hpw7 l_a0 q_a01; have q_x00 := oldc hpw7 l_x0 q_x00; have q_x01 := oldc hpw7 l_x0 q_x01; have l_a0 := Nat.lt_of_lt_of_le l_a0 sw7; have l_x0 := Nat.lt_of_lt_of_le l_x0 sw7; have ho_x0 := Ow.below ho_x0 hpw7; clear hbw7 hpw7) | (go_at_call 9; refine (eqClasses_b _ _ _ _ _ c c ho_x0.rd ho_y0.rd true (by simp)).mono ?_; rintro e w8 ⟨rfl, hbw8⟩; have sw8 := hbw8.size; have hBw8 : Below w.heap.size w w8 := Below.trans hBw7 (Below.mono hbw8 hBw7.size); have q_a00 := oldc hbw8 l_a0 q_a00; have q_a01 := oldc hbw8 l_a0 q_a01; have q_x00 := oldc hbw8 l_x0 q_x00; have q_x01 := oldc hbw8 l_x0 q_x01; have l_a0 := Nat.lt_of_lt_of_le l_a0 sw8; have l_x0 := Nat.lt_of_lt_of_le l_x0 sw8; have ho_x0 := Ow.below ho_x0 hbw8; clear hbw8 ho_y0))
  go_wp2
  go_ret
  exact ⟨rfl, hBw8⟩
end Go.Proofs.Ytlnihbhjkfhbmaa
