/- The walk of the law FnExactAddressTerm. -/
import Derived.Test.YtcbhdmmohdnjbaaGreatAdr
import Derived.Test.YtcbhdmmohdnjbaaGreatMkM
import Derived.Test.YtcbhdmmohdnjbaaGreatDTrm
namespace Go.Proofs.YtcbhdmmohdnjbaaGreat
set_option linter.unusedVariables false
set_option linter.unusedSimpArgs false
open Go.RowKit

set_option maxRecDepth 20000 in
set_option maxHeartbeats 8000000 in
theorem walk_FnExactAddressTerm (w : World) (c0a c0b : Value) (f : Fam) (h0 : Rd false 0 w.heap.size w [c0a, c0b] f) (c1a c1b : Value) (y : Trm) (h1 : Rd false 0 w.heap.size w [c1a, c1b] y) (a : Int) (b2 : I64 a) (b : Int) (b3 : I64 b) :
    Calls Tryz.prog 3 #[.agg #[c0a, c0b], .agg #[c1a, c1b], .int .i64 a, .int .i64 b] w (PostB w true) := by
  by_cases hg0 : (1048576 : Int) < famSz f
  · go_enter Tryz.func3, Tryz.ntmps3
    go_wp2_with fail
    refine (szFamily_any _ _ _ f (h0.below bwT) _ (by omega) (by omega)).mono ?_
    rw [if_pos (by omega)]
    rintro e w1 ⟨rfl, hbw1⟩
    have hpw1 : Below w.heap.size w w1 := Below.after bwT hbw1 szT
    have sw1 := hpw1.size
    have hBw1 : Below w.heap.size w w1 := hpw1
    have l_a0 : w.heap.size < w1.heap.size := by have := hbw1.size; simp at this; omega
    have q_a00 : w1.cell? ⟨w.heap.size, 0, none⟩ = some (c0a) := oldc hbw1 ltT (by simp [go_sem])
    have q_a01 : w1.cell? ⟨w.heap.size, 1, none⟩ = some (c0b) := oldc hbw1 ltT (by simp [go_sem])
    have l_a1 : w.heap.size + 1 < w1.heap.size := by have := hbw1.size; simp at this; omega
    have q_a10 : w1.cell? ⟨w.heap.size + 1, 0, none⟩ = some (c1a) := oldc hbw1 ltT (by simp [go_sem])
    have q_a11 : w1.cell? ⟨w.heap.size + 1, 1, none⟩ = some (c1b) := oldc hbw1 ltT (by simp [go_sem])
    clear hbw1 hpw1
    go_wp2
    go_ret
    exact ⟨rfl, hBw1⟩
  have hq0 : ¬ ((1048576 : Int) < famSz f) := hg0
  by_cases hg1 : (1048576 : Int) - famSz f < trmSz y
  · go_enter Tryz.func3, Tryz.ntmps3
    go_wp2_with fail
    refine (szFamily_any _ _ _ f (h0.below bwT) _ (by omega) (by omega)).mono ?_
    rw [if_neg (by omega)]
    rintro e w2 ⟨rfl, hbw2⟩
    have hpw2 : Below w.heap.size w w2 := Below.after bwT hbw2 szT
    have sw2 := hpw2.size
    have hBw2 : Below w.heap.size w w2 := hpw2
    have l_a0 : w.heap.size < w2.heap.size := by have := hbw2.size; simp at this; omega
    have q_a00 : w2.cell? ⟨w.heap.size, 0, none⟩ = some (c0a) := oldc hbw2 ltT (by simp [go_sem])
    have q_a01 : w2.cell? ⟨w.heap.size, 1, none⟩ = some (c0b) := oldc hbw2 ltT (by simp [go_sem])
    have l_a1 : w.heap.size + 1 < w2.heap.size := by have := hbw2.size; simp at this; omega
    have q_a10 : w2.cell? ⟨w.heap.size + 1, 0, none⟩ = some (c1a) := oldc hbw2 ltT (by simp [go_sem])
    have q_a11 : w2.cell? ⟨w.heap.size + 1, 1, none⟩ = some (c1b) := oldc hbw2 ltT (by simp [go_sem])
    clear hbw2 hpw2
    go_wp2_with fail
    refine (szTerminology_any _ _ _ y (h1.below bwT) _ (by omega) (by omega)).mono ?_
    rw [if_pos (by omega)]
    rintro e w3 ⟨rfl, hbw3⟩
    have hpw3 : Below w2.heap.size w2 w3 := Below.after bwT hbw3 szT
    have sw3 := hpw3.size
    have hBw3 : Below w.heap.size w w3 := Below.trans hBw2 (Below.mono hpw3 hBw2.size)
    have q_a00 := oldc hpw3 l_a0 q_a00
    have q_a01 := oldc hpw3 l_a0 q_a01
    have q_a10 := oldc hpw3 l_a1 q_a10
    have q_a11 := oldc hpw3 l_a1 q_a11
    have l_a0 := Nat.lt_of_lt_of_le l_a0 sw3
    have l_a1 := Nat.lt_of_lt_of_le l_a1 sw3
    clear hbw3 hpw3
    go_wp2
    go_ret
    exact ⟨rfl, hBw3⟩
  have hq1 : ¬ ((1048576 : Int) - famSz f < trmSz y) := hg1
  have hfl := famSz_le f
  have hts : sszRul y.1 ≤ trmSz y ∧ sszEnt y.2 ≤ trmSz y := ⟨Nat.le_add_right _ _, Nat.le_add_left _ _⟩
  obtain ⟨X, hX⟩ : ∃ X, X = tmText (adO f y a b) := ⟨_, rfl⟩
  have HX := Lib.hid hX
  clear hX
  obtain ⟨r, hr⟩ : ∃ r, r = (adO f y a b).isSome := ⟨_, rfl⟩
  have HR := Lib.hid hr
  clear hr
  have hvr : (r != r) = false := by simp
  go_enter Tryz.func3, Tryz.ntmps3
  go_wp2_with fail
  refine (szFamily_any _ _ _ f (h0.below bwT) _ (by omega) (by omega)).mono ?_
  rw [if_neg (by omega)]
  rintro e w4 ⟨rfl, hbw4⟩
  have hpw4 : Below w.heap.size w w4 := Below.after bwT hbw4 szT
  have sw4 := hpw4.size
  have hBw4 : Below w.heap.size w w4 := hpw4
  have l_a0 : w.heap.size < w4.heap.size := by have := hbw4.size; simp at this; omega
  have q_a00 : w4.cell? ⟨w.heap.size, 0, none⟩ = some (c0a) := oldc hbw4 ltT (by simp [go_sem])
  have q_a01 : w4.cell? ⟨w.heap.size, 1, none⟩ = some (c0b) := oldc hbw4 ltT (by simp [go_sem])
  have l_a1 : w.heap.size + 1 < w4.heap.size := by have := hbw4.size; simp at this; omega
  have q_a10 : w4.cell? ⟨w.heap.size + 1, 0, none⟩ = some (c1a) := oldc hbw4 ltT (by simp [go_sem])
  have q_a11 : w4.cell? ⟨w.heap.size + 1, 1, none⟩ = some (c1b) := oldc hbw4 ltT (by simp [go_sem])
  clear hbw4 hpw4
  go_wp2_with fail
  refine (szTerminology_any _ _ _ y (h1.below bwT) _ (by omega) (by omega)).mono ?_
  rw [if_neg (by omega)]
  rintro e w5 ⟨rfl, hbw5⟩
  have hpw5 : Below w4.heap.size w4 w5 := Below.after bwT hbw5 szT
  have sw5 := hpw5.size
  have hBw5 : Below w.heap.size w w5 := Below.trans hBw4 (Below.mono hpw5 hBw4.size)
  have q_a00 := oldc hpw5 l_a0 q_a00
  have q_a01 := oldc hpw5 l_a0 q_a01
  have q_a10 := oldc hpw5 l_a1 q_a10
  have q_a11 := oldc hpw5 l_a1 q_a11
  have l_a0 := Nat.lt_of_lt_of_le l_a0 sw5
  have l_a1 := Nat.lt_of_lt_of_le l_a1 sw5
  clear hbw5 hpw5
  have y_r_l_a0 : w.heap.size < w5.heap.size + 1 := by omega
  have m_r_l_a0 : ¬ w.heap.size = w5.heap.size := by omega
  have n_r_l_a0 : ¬ w5.heap.size = w.heap.size := by omega
  have y_r_l_a1 : w.heap.size + 1 < w5.heap.size + 1 := by omega
  have m_r_l_a1 : ¬ w.heap.size + 1 = w5.heap.size := by omega
  have n_r_l_a1 : ¬ w5.heap.size = w.heap.size + 1 := by omega
  have z_r : w.heap.size ≤ w5.heap.size := hBw5.size
  go_upto_region 8 with fail
  go_cut [10, 11] (fun s10 s11 wx => s10 = .string X ∧ s11 = .bool r ∧ wx.cell? ⟨w.heap.size, 0, none⟩ = some (c0a) ∧ wx.cell? ⟨w.heap.size, 1, none⟩ = some (c0b) ∧ wx.cell? ⟨w.heap.size + 1, 0, none⟩ = some (c1a) ∧ wx.cell? ⟨w.heap.size + 1, 1, none⟩ = some (c1b) ∧ w.heap.size < wx.heap.size ∧ w.heap.size + 1 < wx.heap.size ∧ Below w.heap.size w wx)
  case first =>
    go_region_held3 (fun w' => w'.cell? ⟨w.heap.size, 0, none⟩ = some (c0a) ∧ w'.cell? ⟨w.heap.size, 1, none⟩ = some (c0b) ∧ w'.cell? ⟨w.heap.size + 1, 0, none⟩ = some (c1a) ∧ w'.cell? ⟨w.heap.size + 1, 1, none⟩ = some (c1b)) (go_keep) (first | (go_at_call_of 10 (c0a); refine (toFamily_any _ _ _ f (h0.below (Below.drew hBw5)) (by omega) (by omega)).mono ?_; rintro e w6 ⟨t0ra, t0rb, rfl, ho_t0r, hbw6⟩; have hpw6 : Below w5.heap.size w5 w6 := Below.trans (Below.drew (Below.refl _ _)) hbw6; have sw6 := hpw6.size; have hBw6 : Below w.heap.size w w6 := Below.trans hBw5 (Below.mono hpw6 hBw5.size); have sBw6 := hBw6.size; have q_a00 := oldc hpw6 l_a0 q_a00; have q_a01 := oldc hpw6 l_a0 q_a01; have q_a10 := oldc hpw6 l_a1 q_a10; have q_a11 := oldc hpw6 l_a1 q_a11; have l_a0 := Nat.lt_of_lt_of_le l_a0 sw6; have l_a1 := Nat.lt_of_lt_of_le l_a1 sw6; clear hbw6 hpw6) | (go_at_call_of 11 (c1a); refine (toTerminology_any _ _ _ y (h1.below hBw6) (by omega) (by omega)).mono ?_; rintro e w7 ⟨t1ra, t1rb, rfl, ho_t1r, hbw7⟩; have hpw7 : Below w6.heap.size w6 w7 := hbw7; have sw7 := hpw7.size; have hBw7 : Below w.heap.size w w7 := Below.trans hBw6 (Below.mono hpw7 hBw6.size); have sBw7 := hBw7.size; have q_a00 := oldc hpw7 l_a0 q_a00; have q_a01 := oldc hpw7 l_a0 q_a01; have q_a10 := oldc hpw7 l_a1 q_a10; have q_a11 := oldc hpw7 l_a1 q_a11; have l_a0 := Nat.lt_of_lt_of_le l_a0 sw7; have l_a1 := Nat.lt_of_lt_of_le l_a1 sw7; have ho_t0r := Ow.below ho_t0r hpw7; clear hbw7 hpw7) | (go_at_call 9; refine (addressS_any _ _ _  _ _ f y ho_t0r.rd ho_t1r.rd a b b2 b3 X HX.out r HR.out).mono ?_; rintro e w8 ⟨rfl, hbw8⟩; have hpw8 : Below w7.heap.size w7 w8 := hbw8; have sw8 := hpw8.size; have hBw8 : Below w.heap.size w w8 := Below.trans hBw7 (Below.mono hpw8 hBw7.size); have sBw8 := hBw8.size; have q_a00 := oldc hpw8 l_a0 q_a00; have q_a01 := oldc hpw8 l_a0 q_a01; have q_a10 := oldc hpw8 l_a1 q_a10; have q_a11 := oldc hpw8 l_a1 q_a11; have l_a0 := Nat.lt_of_lt_of_le l_a0 sw8; have l_a1 := Nat.lt_of_lt_of_le l_a1 sw8; have ho_t0r := Ow.below ho_t0r hpw8; have ho_t1r := Ow.below ho_t1r hpw8; clear hbw8 hpw8))
    all_goals
      go_wp2_with fail
      go_meet
    all_goals exact ⟨rfl, rfl, q_a00, q_a01, q_a10, q_a11, l_a0, l_a1, hBw8⟩
  case rest =>
    obtain ⟨rfl, rfl, q_a00, q_a01, q_a10, q_a11, l_a0, l_a1, hBCr⟩ := hcut
    clear y_r_l_a0 m_r_l_a0 n_r_l_a0
    clear y_r_l_a1 m_r_l_a1 n_r_l_a1
    obtain ⟨wcr, hwcr⟩ : ∃ W : World, W = wc := ⟨_, rfl⟩
    subst hwcr
    have hBwcr : Below w.heap.size w wcr := hBCr
    have szwcr := hBwcr.size
    clear hBCr
    go_wp2_with fail
    refine (toFamily_any _ _ _ f (h0.below bwT) (by omega) (by omega)).mono ?_
    rintro e w9 ⟨x0a, x0b, rfl, ho_x0, hbw9⟩
    have hpw9 : Below wcr.heap.size wcr w9 := Below.after bwT hbw9 szT
    have sw9 := hpw9.size
    have hBw9 : Below w.heap.size w w9 := Below.trans hBwcr (Below.mono hpw9 hBwcr.size)
    have q_a00 := oldc hpw9 l_a0 q_a00
    have q_a01 := oldc hpw9 l_a0 q_a01
    have q_a10 := oldc hpw9 l_a1 q_a10
    have q_a11 := oldc hpw9 l_a1 q_a11
    have l_a0 := Nat.lt_of_lt_of_le l_a0 sw9
    have l_a1 := Nat.lt_of_lt_of_le l_a1 sw9
    clear hbw9 hpw9
    obtain ⟨aox0, nx0, cpx0, box0, mx0, dpx0, rfl, rfl⟩ := shapeFam ho_x0.rd
    go_wp2_with fail
    refine (toTerminology_any _ _ _ y (h1.below bwT) (by omega) (by omega)).mono ?_
    rintro e w10 ⟨x1a, x1b, rfl, ho_x1, hbw10⟩
    simp only [World.size_alloc] at ho_x1
    have hpw10 : Below w9.heap.size w9 w10 := Below.after bwT hbw10 szT
    have sw10 := hpw10.size
    have hBw10 : Below w.heap.size w w10 := Below.trans hBw9 (Below.mono hpw10 hBw9.size)
    have q_a00 := oldc hpw10 l_a0 q_a00
    have q_a01 := oldc hpw10 l_a0 q_a01
    have q_a10 := oldc hpw10 l_a1 q_a10
    have q_a11 := oldc hpw10 l_a1 q_a11
    have l_a0 := Nat.lt_of_lt_of_le l_a0 sw10
    have l_a1 := Nat.lt_of_lt_of_le l_a1 sw10
    have l_x0 : w9.heap.size < w10.heap.size := by have := hbw10.size; simp at this; omega
    have q_x00 : w10.cell? ⟨w9.heap.size, 0, none⟩ = some (.slice aox0 nx0 cpx0) := oldc hbw10 ltT (by simp [go_sem])
    have q_x01 : w10.cell? ⟨w9.heap.size, 1, none⟩ = some (.slice box0 mx0 dpx0) := oldc hbw10 ltT (by simp [go_sem])
    have ho_x0 := Ow.below ho_x0 hpw10
    clear hbw10 hpw10
    obtain ⟨aox1, nx1, cpx1, box1, mx1, dpx1, rfl, rfl⟩ := shapeTrm ho_x1.rd
    go_wp2_with fail
    refine (addressI_any _ _ _  _ _ f y (ho_x0.rd.below bwT) (ho_x1.rd.below bwT) a b b2 b3 X HX.out r HR.out).mono ?_
    rintro e w11 ⟨rfl, hbw11⟩
    have hpw11 : Below w10.heap.size w10 w11 := Below.after bwT hbw11 szT
    have sw11 := hpw11.size
    have hBw11 : Below w.heap.size w w11 := Below.trans hBw10 (Below.mono hpw11 hBw10.size)
    have q_a00 := oldc hpw11 l_a0 q_a00
    have q_a01 := oldc hpw11 l_a0 q_a01
    have q_a10 := oldc hpw11 l_a1 q_a10
    have q_a11 := oldc hpw11 l_a1 q_a11
    have q_x00 := oldc hpw11 l_x0 q_x00
    have q_x01 := oldc hpw11 l_x0 q_x01
    have l_a0 := Nat.lt_of_lt_of_le l_a0 sw11
    have l_a1 := Nat.lt_of_lt_of_le l_a1 sw11
    have l_x0 := Nat.lt_of_lt_of_le l_x0 sw11
    have l_x1 : w10.heap.size < w11.heap.size := by have := hbw11.size; simp at this; omega
    have q_x10 : w11.cell? ⟨w10.heap.size, 0, none⟩ = some (.slice aox1 nx1 cpx1) := oldc hbw11 ltT (by simp [go_sem])
    have q_x11 : w11.cell? ⟨w10.heap.size, 1, none⟩ = some (.slice box1 mx1 dpx1) := oldc hbw11 ltT (by simp [go_sem])
    have ho_x0 := Ow.below ho_x0 hpw11
    have ho_x1 := Ow.below ho_x1 hpw11
    clear hbw11 hpw11
    go_wp2_with fail
    go_region_held3 (fun w' => w'.cell? ⟨w.heap.size, 0, none⟩ = some (c0a) ∧ w'.cell? ⟨w.heap.size, 1, none⟩ = some (c0b) ∧ w'.cell? ⟨w9.heap.size, 0, none⟩ = some (.slice aox0 nx0 cpx0) ∧ w'.cell? ⟨w9.heap.size, 1, none⟩ = some (.slice box0 mx0 dpx0)) (go_keep) (first | (go_at_call 10; refine (toFamily_any _ _ _ f (h0.below (Below.drew hBw11)) (by omega) (by omega)).mono ?_; rintro e w12 ⟨y0a, y0b, rfl, ho_y0, hbw12⟩; have hpw12 : Below w11.heap.size w11 w12 := Below.trans (Below.drew (Below.refl _ _)) hbw12; have sw12 := hpw12.size; have hBw12 : Below w.heap.size w w12 := Below.trans hBw11 (Below.mono hpw12 hBw11.size); have q_a00 := oldc hpw12 l_a0 q_a00; have q_a01 := oldc hpw12 l_a0 q_a01; have q_a10 := oldc hpw12 l_a1 q_a10; have q_a11 := oldc hpw12 l_a1 q_a11; have q_x00 := oldc hpw12 l_x0 q_x00; have q_x01 := oldc hpw12 l_x0 q_x01; have q_x10 := oldc hpw12 l_x1 q_x10; have q_x11 := oldc hpw12 l_x1 q_x11; have l_a0 := Nat.lt_of_lt_of_le l_a0 sw12; have l_a1 := Nat.lt_of_lt_of_le l_a1 sw12; have l_x0 := Nat.lt_of_lt_of_le l_x0 sw12; have l_x1 := Nat.lt_of_lt_of_le l_x1 sw12; have ho_x0 := Ow.below ho_x0 hpw12; have ho_x1 := Ow.below ho_x1 hpw12; clear hbw12 hpw12) | (go_at_call 13; refine (eqFamily_b _ _ _ _ _ f f ho_x0.rd ho_y0.rd true (by simp)).mono ?_; rintro e w13 ⟨rfl, hbw13⟩; have sw13 := hbw13.size; have hBw13 : Below w.heap.size w w13 := Below.trans hBw12 (Below.mono hbw13 hBw12.size); have q_a00 := oldc hbw13 l_a0 q_a00; have q_a01 := oldc hbw13 l_a0 q_a01; have q_a10 := oldc hbw13 l_a1 q_a10; have q_a11 := oldc hbw13 l_a1 q_a11; have q_x00 := oldc hbw13 l_x0 q_x00; have q_x01 := oldc hbw13 l_x0 q_x01; have q_x10 := oldc hbw13 l_x1 q_x10; have q_x11 := oldc hbw13 l_x1 q_x11; have l_a0 := Nat.lt_of_lt_of_le l_a0 sw13; have l_a1 := Nat.lt_of_lt_of_le l_a1 sw13; have l_x0 := Nat.lt_of_lt_of_le l_x0 sw13; have l_x1 := Nat.lt_of_lt_of_le l_x1 sw13; have ho_x0 := Ow.below ho_x0 hbw13; have ho_x1 := Ow.below ho_x1 hbw13; clear hbw13 ho_y0))
    go_wp2_with fail
    go_region_held3 (fun w' => w'.cell? ⟨w.heap.size + 1, 0, none⟩ = some (c1a) ∧ w'.cell? ⟨w.heap.size + 1, 1, none⟩ = some (c1b) ∧ w'.cell? ⟨w10.heap.size, 0, none⟩ = some (.slice aox1 nx1 cpx1) ∧ w'.cell? ⟨w10.heap.size, 1, none⟩ = some (.slice box1 mx1 dpx1)) (go_keep) (first | (go_at_call 11; refine (toTerminology_any _ _ _ y (h1.below (Below.drew hBw13)) (by omega) (by omega)).mono ?_; rintro e w14 ⟨y1a, y1b, rfl, ho_y1, hbw14⟩; have hpw14 : Below w13.heap.size w13 w14 := Below.trans (Below.drew (Below.refl _ _)) hbw14; have sw14 := hpw14.size; have hBw14 : Below w.heap.size w w14 := Below.trans hBw13 (Below.mono hpw14 hBw13.size); have q_a00 := oldc hpw14 l_a0 q_a00; have q_a01 := oldc hpw14 l_a0 q_a01; have q_a10 := oldc hpw14 l_a1 q_a10; have q_a11 := oldc hpw14 l_a1 q_a11; have q_x00 := oldc hpw14 l_x0 q_x00; have q_x01 := oldc hpw14 l_x0 q_x01; have q_x10 := oldc hpw14 l_x1 q_x10; have q_x11 := oldc hpw14 l_x1 q_x11; have l_a0 := Nat.lt_of_lt_of_le l_a0 sw14; have l_a1 := Nat.lt_of_lt_of_le l_a1 sw14; have l_x0 := Nat.lt_of_lt_of_le l_x0 sw14; have l_x1 := Nat.lt_of_lt_of_le l_x1 sw14; have ho_x0 := Ow.below ho_x0 hpw14; have ho_x1 := Ow.below ho_x1 hpw14; clear hbw14 hpw14) | (go_at_call 14; refine (eqTerminology_b _ _ _ _ _ y y ho_x1.rd ho_y1.rd true (by simp)).mono ?_; rintro e w15 ⟨rfl, hbw15⟩; have sw15 := hbw15.size; have hBw15 : Below w.heap.size w w15 := Below.trans hBw14 (Below.mono hbw15 hBw14.size); have q_a00 := oldc hbw15 l_a0 q_a00; have q_a01 := oldc hbw15 l_a0 q_a01; have q_a10 := oldc hbw15 l_a1 q_a10; have q_a11 := oldc hbw15 l_a1 q_a11; have q_x00 := oldc hbw15 l_x0 q_x00; have q_x01 := oldc hbw15 l_x0 q_x01; have q_x10 := oldc hbw15 l_x1 q_x10; have q_x11 := oldc hbw15 l_x1 q_x11; have l_a0 := Nat.lt_of_lt_of_le l_a0 sw15; have l_a1 := Nat.lt_of_lt_of_le l_a1 sw15; have l_x0 := Nat.lt_of_lt_of_le l_x0 sw15; have l_x1 := Nat.lt_of_lt_of_le l_x1 sw15; have ho_x0 := Ow.below ho_x0 hbw15; have ho_x1 := Ow.below ho_x1 hbw15; clear hbw15 ho_y1))
    go_wp2
    go_ret
    exact ⟨rfl, hBw15⟩
end Go.Proofs.YtcbhdmmohdnjbaaGreat
