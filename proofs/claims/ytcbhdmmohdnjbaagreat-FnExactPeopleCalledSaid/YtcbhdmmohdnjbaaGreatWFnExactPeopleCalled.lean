/- The walk of the law FnExactPeopleCalled. -/
import Derived.Test.YtcbhdmmohdnjbaaGreatPpl
import Derived.Test.YtcbhdmmohdnjbaaGreatPplS
import Derived.Test.YtcbhdmmohdnjbaaGreatMkM
import Derived.Test.YtcbhdmmohdnjbaaGreatMkTrm
namespace Go.Proofs.YtcbhdmmohdnjbaaGreat
set_option linter.unusedVariables false
set_option linter.unusedSimpArgs false
open Go.RowKit

set_option maxRecDepth 20000 in
set_option maxHeartbeats 8000000 in
theorem walk_FnExactPeopleCalled (w : World) (c0a c0b : Value) (f : Fam) (h0 : Rd false 0 w.heap.size w [c0a, c0b] f) (c1a c1b : Value) (y : Trm) (h1 : Rd false 0 w.heap.size w [c1a, c1b] y) (a : Int) (b2 : I64 a) (x : ByteArray) (b3 : x.size ≤ maxLen) (n : Int) (b4 : I64 n) :
    Calls Tryz.prog 5 #[.agg #[c0a, c0b], .agg #[c1a, c1b], .int .i64 a, .string x, .int .i64 n] w (PostB w true) := by
  by_cases hg0 : 1048576 < x.size
  · go_enter Tryz.func5, Tryz.ntmps5
    go_wp2
    go_ret
    exact ⟨rfl, bwT⟩
  have hq0 : ¬ (1048576 < x.size) := hg0
  by_cases hg1 : (1048576 : Int) < famSz f
  · go_enter Tryz.func5, Tryz.ntmps5
    go_wp2_with fail
    refine (szFamily_any _ _ _ f (h0.below bwT) _ (by omega) (by omega)).mono ?_
    rw [if_pos (by omega)]
    rintro e w1 ⟨rfl, hbw1⟩
    have hpw1 : Below w.heap.size w w1 := Below.after bwT hbw1 szT
    have sw1 := hpw1.size
    have hBw1 : Below w.heap.size w w1 := hpw1
    have l_a0 : w.heap.size < w1.heap.size := by have := hbw1.size; simp at this; omega
    have q_a00 : w1.cell? ⟨w.heap.size, 0, none⟩ = some (c0a) := oldc hbw1 ltT (by simp [go_sem])
    have q_a01 : w1.cell? ⟨w.heap.size, 1, none⟩ = some (c0b) := oldc hbw1 ltT (by simp [go_sem])
    have l_a1 : w.heap.size + 1 < w1.heap.size := by have := hbw1.size; simp at this; omega
    have q_a10 : w1.cell? ⟨w.heap.size + 1, 0, none⟩ = some (c1a) := oldc hbw1 ltT (by simp [go_sem])
    have q_a11 : w1.cell? ⟨w.heap.size + 1, 1, none⟩ = some (c1b) := oldc hbw1 ltT (by simp [go_sem])
    clear hbw1 hpw1
    go_wp2
    go_ret
    exact ⟨rfl, hBw1⟩
  have hq1 : ¬ ((1048576 : Int) < famSz f) := hg1
  by_cases hg2 : (1048576 : Int) - famSz f < trmSz y
  · go_enter Tryz.func5, Tryz.ntmps5
    go_wp2_with fail
    refine (szFamily_any _ _ _ f (h0.below bwT) _ (by omega) (by omega)).mono ?_
    rw [if_neg (by omega)]
    rintro e w2 ⟨rfl, hbw2⟩
    have hpw2 : Below w.heap.size w w2 := Below.after bwT hbw2 szT
    have sw2 := hpw2.size
    have hBw2 : Below w.heap.size w w2 := hpw2
    have l_a0 : w.heap.size < w2.heap.size := by have := hbw2.size; simp at this; omega
    have q_a00 : w2.cell? ⟨w.heap.size, 0, none⟩ = some (c0a) := oldc hbw2 ltT (by simp [go_sem])
    have q_a01 : w2.cell? ⟨w.heap.size, 1, none⟩ = some (c0b) := oldc hbw2 ltT (by simp [go_sem])
    have l_a1 : w.heap.size + 1 < w2.heap.size := by have := hbw2.size; simp at this; omega
    have q_a10 : w2.cell? ⟨w.heap.size + 1, 0, none⟩ = some (c1a) := oldc hbw2 ltT (by simp [go_sem])
    have q_a11 : w2.cell? ⟨w.heap.size + 1, 1, none⟩ = some (c1b) := oldc hbw2 ltT (by simp [go_sem])
    clear hbw2 hpw2
    go_wp2_with fail
    refine (szTerminology_any _ _ _ y (h1.below bwT) _ (by omega) (by omega)).mono ?_
    rw [if_pos (by omega)]
    rintro e w3 ⟨rfl, hbw3⟩
    have hpw3 : Below w2.heap.size w2 w3 := Below.after bwT hbw3 szT
    have sw3 := hpw3.size
    have hBw3 : Below w.heap.size w w3 := Below.trans hBw2 (Below.mono hpw3 hBw2.size)
    have q_a00 := oldc hpw3 l_a0 q_a00
    have q_a01 := oldc hpw3 l_a0 q_a01
    have q_a10 := oldc hpw3 l_a1 q_a10
    have q_a11 := oldc hpw3 l_a1 q_a11
    have l_a0 := Nat.lt_of_lt_of_le l_a0 sw3
    have l_a1 := Nat.lt_of_lt_of_le l_a1 sw3
    clear hbw3 hpw3
    go_wp2
    go_ret
    exact ⟨rfl, hBw3⟩
  have hq2 : ¬ ((1048576 : Int) - famSz f < trmSz y) := hg2
  have hfl := famSz_le f
  have hts : sszRul y.1 ≤ trmSz y ∧ sszEnt y.2 ≤ trmSz y := ⟨Nat.le_add_right _ _, Nat.le_add_left _ _⟩
  have hcr := cntRul_le y.1
  have hce := cntEnt_le y.2
  go_enter Tryz.func5, Tryz.ntmps5
  go_wp2_with fail
  refine (szFamily_any _ _ _ f (h0.below bwT) _ (by omega) (by omega)).mono ?_
  rw [if_neg (by omega)]
  rintro e w4 ⟨rfl, hbw4⟩
  have hpw4 : Below w.heap.size w w4 := Below.after bwT hbw4 szT
  have sw4 := hpw4.size
  have hBw4 : Below w.heap.size w w4 := hpw4
  have l_a0 : w.heap.size < w4.heap.size := by have := hbw4.size; simp at this; omega
  have q_a00 : w4.cell? ⟨w.heap.size, 0, none⟩ = some (c0a) := oldc hbw4 ltT (by simp [go_sem])
  have q_a01 : w4.cell? ⟨w.heap.size, 1, none⟩ = some (c0b) := oldc hbw4 ltT (by simp [go_sem])
  have l_a1 : w.heap.size + 1 < w4.heap.size := by have := hbw4.size; simp at this; omega
  have q_a10 : w4.cell? ⟨w.heap.size + 1, 0, none⟩ = some (c1a) := oldc hbw4 ltT (by simp [go_sem])
  have q_a11 : w4.cell? ⟨w.heap.size + 1, 1, none⟩ = some (c1b) := oldc hbw4 ltT (by simp [go_sem])
  clear hbw4 hpw4
  go_wp2_with fail
  refine (szTerminology_any _ _ _ y (h1.below bwT) _ (by omega) (by omega)).mono ?_
  rw [if_neg (by omega)]
  rintro e w5 ⟨rfl, hbw5⟩
  have hpw5 : Below w4.heap.size w4 w5 := Below.after bwT hbw5 szT
  have sw5 := hpw5.size
  have hBw5 : Below w.heap.size w w5 := Below.trans hBw4 (Below.mono hpw5 hBw4.size)
  have q_a00 := oldc hpw5 l_a0 q_a00
  have q_a01 := oldc hpw5 l_a0 q_a01
  have q_a10 := oldc hpw5 l_a1 q_a10
  have q_a11 := oldc hpw5 l_a1 q_a11
  have l_a0 := Nat.lt_of_lt_of_le l_a0 sw5
  have l_a1 := Nat.lt_of_lt_of_le l_a1 sw5
  clear hbw5 hpw5
  have y_r_l_a0 : w.heap.size < w5.heap.size + 1 := by omega
  have m_r_l_a0 : ¬ w.heap.size = w5.heap.size := by omega
  have n_r_l_a0 : ¬ w5.heap.size = w.heap.size := by omega
  have y_r_l_a1 : w.heap.size + 1 < w5.heap.size + 1 := by omega
  have m_r_l_a1 : ¬ w.heap.size + 1 = w5.heap.size := by omega
  have n_r_l_a1 : ¬ w5.heap.size = w.heap.size + 1 := by omega
  have z_r : w.heap.size ≤ w5.heap.size := hBw5.size
  go_upto_region 10 with fail
  go_cut [12] (fun s12 wx => ∃ (lo hi : Nat) (ra : Value), ra = s12 ∧ Ow lo hi wx [ra] ((pplX f y a x n)) ∧ w5.heap.size ≤ lo ∧ hi ≤ wx.heap.size ∧ wx.cell? ⟨w.heap.size, 0, none⟩ = some (c0a) ∧ wx.cell? ⟨w.heap.size, 1, none⟩ = some (c0b) ∧ wx.cell? ⟨w.heap.size + 1, 0, none⟩ = some (c1a) ∧ wx.cell? ⟨w.heap.size + 1, 1, none⟩ = some (c1b) ∧ w.heap.size < wx.heap.size ∧ w.heap.size + 1 < wx.heap.size ∧ Below w.heap.size w wx)
  case first =>
    go_region_held3 (fun w' => w'.cell? ⟨w.heap.size, 0, none⟩ = some (c0a) ∧ w'.cell? ⟨w.heap.size, 1, none⟩ = some (c0b) ∧ w'.cell? ⟨w.heap.size + 1, 0, none⟩ = some (c1a) ∧ w'.cell? ⟨w.heap.size + 1, 1, none⟩ = some (c1b)) (go_keep) (first | (go_at_call_of 10 (c0a); refine (toFamily_any _ _ _ f (h0.below (Below.drew hBw5)) (by omega) (by omega)).mono ?_; rintro e w6 ⟨t0ra, t0rb, rfl, ho_t0r, hbw6⟩; have hpw6 : Below w5.heap.size w5 w6 := Below.trans (Below.drew (Below.refl _ _)) hbw6; have sw6 := hpw6.size; have hBw6 : Below w.heap.size w w6 := Below.trans hBw5 (Below.mono hpw6 hBw5.size); have sBw6 := hBw6.size; have q_a00 := oldc hpw6 l_a0 q_a00; have q_a01 := oldc hpw6 l_a0 q_a01; have q_a10 := oldc hpw6 l_a1 q_a10; have q_a11 := oldc hpw6 l_a1 q_a11; have l_a0 := Nat.lt_of_lt_of_le l_a0 sw6; have l_a1 := Nat.lt_of_lt_of_le l_a1 sw6; clear hbw6 hpw6) | (go_at_call_of 11 (c1a); refine (toTerminology_any _ _ _ y (h1.below hBw6) (by omega) (by omega)).mono ?_; rintro e w7 ⟨t1ra, t1rb, rfl, ho_t1r, hbw7⟩; have hpw7 : Below w6.heap.size w6 w7 := hbw7; have sw7 := hpw7.size; have hBw7 : Below w.heap.size w w7 := Below.trans hBw6 (Below.mono hpw7 hBw6.size); have sBw7 := hBw7.size; have q_a00 := oldc hpw7 l_a0 q_a00; have q_a01 := oldc hpw7 l_a0 q_a01; have q_a10 := oldc hpw7 l_a1 q_a10; have q_a11 := oldc hpw7 l_a1 q_a11; have l_a0 := Nat.lt_of_lt_of_le l_a0 sw7; have l_a1 := Nat.lt_of_lt_of_le l_a1 sw7; have ho_t0r := Ow.below ho_t0r hpw7; clear hbw7 hpw7) | (go_at_call 22; refine (pplS_any _ _ _  _ _ f y ho_t0r.rd ho_t1r.rd a b2 x n).mono ?_; rintro e w8 ⟨ra, rfl, ho_r, hbw8⟩; have hpw8 : Below w7.heap.size w7 w8 := hbw8; have sw8 := hpw8.size; have hBw8 : Below w.heap.size w w8 := Below.trans hBw7 (Below.mono hpw8 hBw7.size); have sBw8 := hBw8.size; have q_a00 := oldc hpw8 l_a0 q_a00; have q_a01 := oldc hpw8 l_a0 q_a01; have q_a10 := oldc hpw8 l_a1 q_a10; have q_a11 := oldc hpw8 l_a1 q_a11; have l_a0 := Nat.lt_of_lt_of_le l_a0 sw8; have l_a1 := Nat.lt_of_lt_of_le l_a1 sw8; have ho_t0r := Ow.below ho_t0r hpw8; have ho_t1r := Ow.below ho_t1r hpw8; clear hbw8 hpw8; clear ho_t0r; clear ho_t1r))
    all_goals
      go_wp2_with fail
      go_meet
    all_goals exact ⟨_, _, _, rfl, ho_r, (by omega), (Nat.le_refl _), q_a00, q_a01, q_a10, q_a11, l_a0, l_a1, hBw8⟩
  case rest =>
    obtain ⟨lo_r, hi_r, ra, rfl, ho_r, e_r, t_r, q_a00, q_a01, q_a10, q_a11, l_a0, l_a1, hBCr⟩ := hcut
    clear y_r_l_a0 m_r_l_a0 n_r_l_a0
    clear y_r_l_a1 m_r_l_a1 n_r_l_a1
    obtain ⟨wcr, hwcr⟩ : ∃ W : World, W = wc := ⟨_, rfl⟩
    subst hwcr
    have hBwcr : Below w.heap.size w wcr := hBCr
    have szwcr := hBwcr.size
    clear hBCr
    go_wp2_with fail
    refine (toFamily_any _ _ _ f (h0.below bwT) (by omega) (by omega)).mono ?_
    rintro e w9 ⟨x0a, x0b, rfl, ho_x0, hbw9⟩
    have hpw9 : Below wcr.heap.size wcr w9 := Below.after bwT hbw9 szT
    have sw9 := hpw9.size
    have hBw9 : Below w.heap.size w w9 := Below.trans hBwcr (Below.mono hpw9 hBwcr.size)
    have q_a00 := oldc hpw9 l_a0 q_a00
    have q_a01 := oldc hpw9 l_a0 q_a01
    have q_a10 := oldc hpw9 l_a1 q_a10
    have q_a11 := oldc hpw9 l_a1 q_a11
    have l_a0 := Nat.lt_of_lt_of_le l_a0 sw9
    have l_a1 := Nat.lt_of_lt_of_le l_a1 sw9
    have ho_r := Ow.below ho_r hpw9
    clear hbw9 hpw9
    obtain ⟨aox0, nx0, cpx0, box0, mx0, dpx0, rfl, rfl⟩ := shapeFam ho_x0.rd
    go_wp2_with fail
    refine (toTerminology_any _ _ _ y (h1.below bwT) (by omega) (by omega)).mono ?_
    rintro e w10 ⟨x1a, x1b, rfl, ho_x1, hbw10⟩
    simp only [World.size_alloc] at ho_x1
    have hpw10 : Below w9.heap.size w9 w10 := Below.after bwT hbw10 szT
    have sw10 := hpw10.size
    have hBw10 : Below w.heap.size w w10 := Below.trans hBw9 (Below.mono hpw10 hBw9.size)
    have q_a00 := oldc hpw10 l_a0 q_a00
    have q_a01 := oldc hpw10 l_a0 q_a01
    have q_a10 := oldc hpw10 l_a1 q_a10
    have q_a11 := oldc hpw10 l_a1 q_a11
    have l_a0 := Nat.lt_of_lt_of_le l_a0 sw10
    have l_a1 := Nat.lt_of_lt_of_le l_a1 sw10
    have l_x0 : w9.heap.size < w10.heap.size := by have := hbw10.size; simp at this; omega
    have q_x00 : w10.cell? ⟨w9.heap.size, 0, none⟩ = some (.slice aox0 nx0 cpx0) := oldc hbw10 ltT (by simp [go_sem])
    have q_x01 : w10.cell? ⟨w9.heap.size, 1, none⟩ = some (.slice box0 mx0 dpx0) := oldc hbw10 ltT (by simp [go_sem])
    have ho_r := Ow.below ho_r hpw10
    have ho_x0 := Ow.below ho_x0 hpw10
    clear hbw10 hpw10
    obtain ⟨aox1, nx1, cpx1, box1, mx1, dpx1, rfl, rfl⟩ := shapeTrm ho_x1.rd
    go_wp2_with fail
    refine (pplI_any _ _ _  _ _ f y (ho_x0.rd.below bwT) (ho_x1.rd.below bwT) a b2 x n).mono ?_
    rintro e w11 ⟨ga, rfl, ho_g, hbw11⟩
    simp only [World.size_alloc] at ho_g
    have hpw11 : Below w10.heap.size w10 w11 := Below.after bwT hbw11 szT
    have sw11 := hpw11.size
    have hBw11 : Below w.heap.size w w11 := Below.trans hBw10 (Below.mono hpw11 hBw10.size)
    have q_a00 := oldc hpw11 l_a0 q_a00
    have q_a01 := oldc hpw11 l_a0 q_a01
    have q_a10 := oldc hpw11 l_a1 q_a10
    have q_a11 := oldc hpw11 l_a1 q_a11
    have q_x00 := oldc hpw11 l_x0 q_x00
    have q_x01 := oldc hpw11 l_x0 q_x01
    have l_a0 := Nat.lt_of_lt_of_le l_a0 sw11
    have l_a1 := Nat.lt_of_lt_of_le l_a1 sw11
    have l_x0 := Nat.lt_of_lt_of_le l_x0 sw11
    have l_x1 : w10.heap.size < w11.heap.size := by have := hbw11.size; simp at this; omega
    have q_x10 : w11.cell? ⟨w10.heap.size, 0, none⟩ = some (.slice aox1 nx1 cpx1) := oldc hbw11 ltT (by simp [go_sem])
    have q_x11 : w11.cell? ⟨w10.heap.size, 1, none⟩ = some (.slice box1 mx1 dpx1) := oldc hbw11 ltT (by simp [go_sem])
    have ho_r := Ow.below ho_r hpw11
    have ho_x0 := Ow.below ho_x0 hpw11
    have ho_x1 := Ow.below ho_x1 hpw11
    clear hbw11 hpw11
    go_wp2_with fail
    refine (eqIntS_b _ _ _ (pplX f y a x n) (pplX f y a x n) (ho_g.rd.below bwT) (ho_r.rd.below bwT) true (by simp)).mono ?_
    rintro e w12 ⟨rfl, hbw12⟩
    have hpw12 : Below w11.heap.size w11 w12 := Below.after bwT hbw12 szT
    have sw12 := hpw12.size
    have hBw12 : Below w.heap.size w w12 := Below.trans hBw11 (Below.mono hpw12 hBw11.size)
    have q_a00 := oldc hpw12 l_a0 q_a00
    have q_a01 := oldc hpw12 l_a0 q_a01
    have q_a10 := oldc hpw12 l_a1 q_a10
    have q_a11 := oldc hpw12 l_a1 q_a11
    have q_x00 := oldc hpw12 l_x0 q_x00
    have q_x01 := oldc hpw12 l_x0 q_x01
    have q_x10 := oldc hpw12 l_x1 q_x10
    have q_x11 := oldc hpw12 l_x1 q_x11
    have l_a0 := Nat.lt_of_lt_of_le l_a0 sw12
    have l_a1 := Nat.lt_of_lt_of_le l_a1 sw12
    have l_x0 := Nat.lt_of_lt_of_le l_x0 sw12
    have l_x1 := Nat.lt_of_lt_of_le l_x1 sw12
    have ho_r := Ow.below ho_r hpw12
    have ho_x0 := Ow.below ho_x0 hpw12
    have ho_x1 := Ow.below ho_x1 hpw12
    have ho_g := Ow.below ho_g hpw12
    clear hbw12 hpw12
    go_wp2_with fail
    go_region_held3 (fun w' => w'.cell? ⟨w.heap.size, 0, none⟩ = some (c0a) ∧ w'.cell? ⟨w.heap.size, 1, none⟩ = some (c0b) ∧ w'.cell? ⟨w9.heap.size, 0, none⟩ = some (.slice aox0 nx0 cpx0) ∧ w'.cell? ⟨w9.heap.size, 1, none⟩ = some (.slice box0 mx0 dpx0)) (go_keep) (first | (go_at_call 10; refine (toFamily_any _ _ _ f (h0.below (Below.drew hBw12)) (by omega) (by omega)).mono ?_; rintro e w13 ⟨y0a, y0b, rfl, ho_y0, hbw13⟩; have hpw13 : Below w12.heap.size w12 w13 := Below.trans (Below.drew (Below.refl _ _)) hbw13; have sw13 := hpw13.size; have hBw13 : Below w.heap.size w w13 := Below.trans hBw12 (Below.mono hpw13 hBw12.size); have q_a00 := oldc hpw13 l_a0 q_a00; have q_a01 := oldc hpw13 l_a0 q_a01; have q_a10 := oldc hpw13 l_a1 q_a10; have q_a11 := oldc hpw13 l_a1 q_a11; have q_x00 := oldc hpw13 l_x0 q_x00; have q_x01 := oldc hpw13 l_x0 q_x01; have q_x10 := oldc hpw13 l_x1 q_x10; have q_x11 := oldc hpw13 l_x1 q_x11; have l_a0 := Nat.lt_of_lt_of_le l_a0 sw13; have l_a1 := Nat.lt_of_lt_of_le l_a1 sw13; have l_x0 := Nat.lt_of_lt_of_le l_x0 sw13; have l_x1 := Nat.lt_of_lt_of_le l_x1 sw13; have ho_r := Ow.below ho_r hpw13; have ho_x0 := Ow.below ho_x0 hpw13; have ho_x1 := Ow.below ho_x1 hpw13; have ho_g := Ow.below ho_g hpw13; clear hbw13 hpw13) | (go_at_call 13; refine (eqFamily_b _ _ _ _ _ f f ho_x0.rd ho_y0.rd true (by simp)).mono ?_; rintro e w14 ⟨rfl, hbw14⟩; have sw14 := hbw14.size; have hBw14 : Below w.heap.size w w14 := Below.trans hBw13 (Below.mono hbw14 hBw13.size); have q_a00 := oldc hbw14 l_a0 q_a00; have q_a01 := oldc hbw14 l_a0 q_a01; have q_a10 := oldc hbw14 l_a1 q_a10; have q_a11 := oldc hbw14 l_a1 q_a11; have q_x00 := oldc hbw14 l_x0 q_x00; have q_x01 := oldc hbw14 l_x0 q_x01; have q_x10 := oldc hbw14 l_x1 q_x10; have q_x11 := oldc hbw14 l_x1 q_x11; have l_a0 := Nat.lt_of_lt_of_le l_a0 sw14; have l_a1 := Nat.lt_of_lt_of_le l_a1 sw14; have l_x0 := Nat.lt_of_lt_of_le l_x0 sw14; have l_x1 := Nat.lt_of_lt_of_le l_x1 sw14; have ho_r := Ow.below ho_r hbw14; have ho_x0 := Ow.below ho_x0 hbw14; have ho_x1 := Ow.below ho_x1 hbw14; have ho_g := Ow.below ho_g hbw14; clear hbw14 ho_y0))
    go_wp2_with fail
    go_region_held3 (fun w' => w'.cell? ⟨w.heap.size + 1, 0, none⟩ = some (c1a) ∧ w'.cell? ⟨w.heap.size + 1, 1, none⟩ = some (c1b) ∧ w'.cell? ⟨w10.heap.size, 0, none⟩ = some (.slice aox1 nx1 cpx1) ∧ w'.cell? ⟨w10.heap.size, 1, none⟩ = some (.slice box1 mx1 dpx1)) (go_keep) (first | (go_at_call 11; refine (toTerminology_any _ _ _ y (h1.below (Below.drew hBw14)) (by omega) (by omega)).mono ?_; rintro e w15 ⟨y1a, y1b, rfl, ho_y1, hbw15⟩; have hpw15 : Below w14.heap.size w14 w15 := Below.trans (Below.drew (Below.refl _ _)) hbw15; have sw15 := hpw15.size; have hBw15 : Below w.heap.size w w15 := Below.trans hBw14 (Below.mono hpw15 hBw14.size); have q_a00 := oldc hpw15 l_a0 q_a00; have q_a01 := oldc hpw15 l_a0 q_a01; have q_a10 := oldc hpw15 l_a1 q_a10; have q_a11 := oldc hpw15 l_a1 q_a11; have q_x00 := oldc hpw15 l_x0 q_x00; have q_x01 := oldc hpw15 l_x0 q_x01; have q_x10 := oldc hpw15 l_x1 q_x10; have q_x11 := oldc hpw15 l_x1 q_x11; have l_a0 := Nat.lt_of_lt_of_le l_a0 sw15; have l_a1 := Nat.lt_of_lt_of_le l_a1 sw15; have l_x0 := Nat.lt_of_lt_of_le l_x0 sw15; have l_x1 := Nat.lt_of_lt_of_le l_x1 sw15; have ho_r := Ow.below ho_r hpw15; have ho_x0 := Ow.below ho_x0 hpw15; have ho_x1 := Ow.below ho_x1 hpw15; have ho_g := Ow.below ho_g hpw15; clear hbw15 hpw15) | (go_at_call 14; refine (eqTerminology_b _ _ _ _ _ y y ho_x1.rd ho_y1.rd true (by simp)).mono ?_; rintro e w16 ⟨rfl, hbw16⟩; have sw16 := hbw16.size; have hBw16 : Below w.heap.size w w16 := Below.trans hBw15 (Below.mono hbw16 hBw15.size); have q_a00 := oldc hbw16 l_a0 q_a00; have q_a01 := oldc hbw16 l_a0 q_a01; have q_a10 := oldc hbw16 l_a1 q_a10; have q_a11 := oldc hbw16 l_a1 q_a11; have q_x00 := oldc hbw16 l_x0 q_x00; have q_x01 := oldc hbw16 l_x0 q_x01; have q_x10 := oldc hbw16 l_x1 q_x10; have q_x11 := oldc hbw16 l_x1 q_x11; have l_a0 := Nat.lt_of_lt_of_le l_a0 sw16; have l_a1 := Nat.lt_of_lt_of_le l_a1 sw16; have l_x0 := Nat.lt_of_lt_of_le l_x0 sw16; have l_x1 := Nat.lt_of_lt_of_le l_x1 sw16; have ho_r := Ow.below ho_r hbw16; have ho_x0 := Ow.below ho_x0 hbw16; have ho_x1 := Ow.below ho_x1 hbw16; have ho_g := Ow.below ho_g hbw16; clear hbw16 ho_y1))
    have hres : (pplX f y a x n).length ≤ 1048576 := Nat.le_trans (pplX_40 f y a x n) (by omega)
    obtain ⟨fp_x0, hr_x0, hz_x0, hn_x0⟩ := ho_x0
    go_wp2_with fail
    refine (markFamily_any _ _ _ f fp_x0 hr_x0 hn_x0 (1) (by omega) (by omega)).mono ?_
    rintro e w17 ⟨rfl, hr_x0, hoffw17⟩
    have sw17 := hoffw17.size
    have hBw17 : Below w.heap.size w w17 := Below.trans hBw16 (OffF.toBelow hoffw17 hBw16.size (fun b hb => Nat.le_trans (show w.heap.size ≤ wcr.heap.size by omega) (hz_x0 b hb).1))
    have q_a00 := offc hoffw17 hz_x0 (show w.heap.size < wcr.heap.size ∨ w9.heap.size ≤ w.heap.size by omega) l_a0 q_a00
    have q_a01 := offc hoffw17 hz_x0 (show w.heap.size < wcr.heap.size ∨ w9.heap.size ≤ w.heap.size by omega) l_a0 q_a01
    have q_a10 := offc hoffw17 hz_x0 (show w.heap.size + 1 < wcr.heap.size ∨ w9.heap.size ≤ w.heap.size + 1 by omega) l_a1 q_a10
    have q_a11 := offc hoffw17 hz_x0 (show w.heap.size + 1 < wcr.heap.size ∨ w9.heap.size ≤ w.heap.size + 1 by omega) l_a1 q_a11
    have q_x00 := offc hoffw17 hz_x0 (show w9.heap.size < wcr.heap.size ∨ w9.heap.size ≤ w9.heap.size by omega) l_x0 q_x00
    have q_x01 := offc hoffw17 hz_x0 (show w9.heap.size < wcr.heap.size ∨ w9.heap.size ≤ w9.heap.size by omega) l_x0 q_x01
    have q_x10 := offc hoffw17 hz_x0 (show w10.heap.size < wcr.heap.size ∨ w9.heap.size ≤ w10.heap.size by omega) l_x1 q_x10
    have q_x11 := offc hoffw17 hz_x0 (show w10.heap.size < wcr.heap.size ∨ w9.heap.size ≤ w10.heap.size by omega) l_x1 q_x11
    have l_a0 := Nat.lt_of_lt_of_le l_a0 sw17
    have l_a1 := Nat.lt_of_lt_of_le l_a1 sw17
    have l_x0 := Nat.lt_of_lt_of_le l_x0 sw17
    have l_x1 := Nat.lt_of_lt_of_le l_x1 sw17
    have ho_r := Ow.keep ho_r (OffF.zone hoffw17 (by omega) hz_x0 (by omega))
    have ho_x1 := Ow.keep ho_x1 (OffF.zone hoffw17 (by omega) hz_x0 (by omega))
    have ho_g := Ow.keep ho_g (OffF.zone hoffw17 (by omega) hz_x0 (by omega))
    have ho_x0 : Ow (wcr.heap.size) (w9.heap.size) w17 [.slice aox0 nx0 cpx0, .slice box0 mx0 dpx0] (((marksPer 1 f.1.length, marksUni (1 + 6 * f.1.length) f.2.length) : Fam)) := ⟨fp_x0, hr_x0, hz_x0, hn_x0⟩
    clear hr_x0 hz_x0 hn_x0 hoffw17
    obtain ⟨fp_x1, hr_x1, hz_x1, hn_x1⟩ := ho_x1
    go_wp2_with fail
    refine (markTerminology_any _ _ _ y fp_x1 hr_x1 hn_x1 ((1 + 6 * f.1.length + 4 * f.2.length)) (by omega) (by omega)).mono ?_
    rintro e w18 ⟨rfl, hr_x1, hoffw18⟩
    have sw18 := hoffw18.size
    have hBw18 : Below w.heap.size w w18 := Below.trans hBw17 (OffF.toBelow hoffw18 hBw17.size (fun b hb => Nat.le_trans (show w.heap.size ≤ w9.heap.size + 1 by omega) (hz_x1 b hb).1))
    have q_a00 := offc hoffw18 hz_x1 (show w.heap.size < w9.heap.size + 1 ∨ w10.heap.size ≤ w.heap.size by omega) l_a0 q_a00
    have q_a01 := offc hoffw18 hz_x1 (show w.heap.size < w9.heap.size + 1 ∨ w10.heap.size ≤ w.heap.size by omega) l_a0 q_a01
    have q_a10 := offc hoffw18 hz_x1 (show w.heap.size + 1 < w9.heap.size + 1 ∨ w10.heap.size ≤ w.heap.size + 1 by omega) l_a1 q_a10
    have q_a11 := offc hoffw18 hz_x1 (show w.heap.size + 1 < w9.heap.size + 1 ∨ w10.heap.size ≤ w.heap.size + 1 by omega) l_a1 q_a11
    have q_x00 := offc hoffw18 hz_x1 (show w9.heap.size < w9.heap.size + 1 ∨ w10.heap.size ≤ w9.heap.size by omega) l_x0 q_x00
    have q_x01 := offc hoffw18 hz_x1 (show w9.heap.size < w9.heap.size + 1 ∨ w10.heap.size ≤ w9.heap.size by omega) l_x0 q_x01
    have q_x10 := offc hoffw18 hz_x1 (show w10.heap.size < w9.heap.size + 1 ∨ w10.heap.size ≤ w10.heap.size by omega) l_x1 q_x10
    have q_x11 := offc hoffw18 hz_x1 (show w10.heap.size < w9.heap.size + 1 ∨ w10.heap.size ≤ w10.heap.size by omega) l_x1 q_x11
    have l_a0 := Nat.lt_of_lt_of_le l_a0 sw18
    have l_a1 := Nat.lt_of_lt_of_le l_a1 sw18
    have l_x0 := Nat.lt_of_lt_of_le l_x0 sw18
    have l_x1 := Nat.lt_of_lt_of_le l_x1 sw18
    have ho_r := Ow.keep ho_r (OffF.zone hoffw18 (by omega) hz_x1 (by omega))
    have ho_x0 := Ow.keep ho_x0 (OffF.zone hoffw18 (by omega) hz_x1 (by omega))
    have ho_g := Ow.keep ho_g (OffF.zone hoffw18 (by omega) hz_x1 (by omega))
    have ho_x1 : Ow (w9.heap.size + 1) (w10.heap.size) w18 [.slice aox1 nx1 cpx1, .slice box1 mx1 dpx1] (((marksBy cntRul mkdRul (1 + 6 * f.1.length + 4 * f.2.length) y.1, marksBy cntEnt mkdEnt ((1 + 6 * f.1.length + 4 * f.2.length) + lenBy cntRul y.1) y.2) : Trm)) := ⟨fp_x1, hr_x1, hz_x1, hn_x1⟩
    clear hr_x1 hz_x1 hn_x1 hoffw18
    go_wp2_with fail
    refine (eqIntS_b _ _ _ (pplX f y a x n) (pplX f y a x n) (ho_g.rd.below bwT) (ho_r.rd.below bwT) true (by simp)).mono ?_
    rintro e w19 ⟨rfl, hbw19⟩
    have hpw19 : Below w18.heap.size w18 w19 := Below.after bwT hbw19 szT
    have sw19 := hpw19.size
    have hBw19 : Below w.heap.size w w19 := Below.trans hBw18 (Below.mono hpw19 hBw18.size)
    have q_a00 := oldc hpw19 l_a0 q_a00
    have q_a01 := oldc hpw19 l_a0 q_a01
    have q_a10 := oldc hpw19 l_a1 q_a10
    have q_a11 := oldc hpw19 l_a1 q_a11
    have q_x00 := oldc hpw19 l_x0 q_x00
    have q_x01 := oldc hpw19 l_x0 q_x01
    have q_x10 := oldc hpw19 l_x1 q_x10
    have q_x11 := oldc hpw19 l_x1 q_x11
    have l_a0 := Nat.lt_of_lt_of_le l_a0 sw19
    have l_a1 := Nat.lt_of_lt_of_le l_a1 sw19
    have l_x0 := Nat.lt_of_lt_of_le l_x0 sw19
    have l_x1 := Nat.lt_of_lt_of_le l_x1 sw19
    have ho_r := Ow.below ho_r hpw19
    have ho_x0 := Ow.below ho_x0 hpw19
    have ho_x1 := Ow.below ho_x1 hpw19
    have ho_g := Ow.below ho_g hpw19
    clear hbw19 hpw19
    clear ho_x0
    clear ho_x1
    obtain ⟨fp_g, hr_g, hz_g, hn_g⟩ := ho_g
    go_wp2_with fail
    refine (markIntS_any _ _ (pplX f y a x n) fp_g hr_g (1) (by omega) (by omega)).mono ?_
    rintro e w20 ⟨rfl, hr_g, hoffw20⟩
    have sw20 := hoffw20.size
    have hBw20 : Below w.heap.size w w20 := Below.trans hBw19 (OffF.toBelow hoffw20 hBw19.size (fun b hb => Nat.le_trans (show w.heap.size ≤ w10.heap.size + 1 by omega) (hz_g b hb).1))
    have q_a00 := offc hoffw20 hz_g (show w.heap.size < w10.heap.size + 1 ∨ w11.heap.size ≤ w.heap.size by omega) l_a0 q_a00
    have q_a01 := offc hoffw20 hz_g (show w.heap.size < w10.heap.size + 1 ∨ w11.heap.size ≤ w.heap.size by omega) l_a0 q_a01
    have q_a10 := offc hoffw20 hz_g (show w.heap.size + 1 < w10.heap.size + 1 ∨ w11.heap.size ≤ w.heap.size + 1 by omega) l_a1 q_a10
    have q_a11 := offc hoffw20 hz_g (show w.heap.size + 1 < w10.heap.size + 1 ∨ w11.heap.size ≤ w.heap.size + 1 by omega) l_a1 q_a11
    have q_x00 := offc hoffw20 hz_g (show w9.heap.size < w10.heap.size + 1 ∨ w11.heap.size ≤ w9.heap.size by omega) l_x0 q_x00
    have q_x01 := offc hoffw20 hz_g (show w9.heap.size < w10.heap.size + 1 ∨ w11.heap.size ≤ w9.heap.size by omega) l_x0 q_x01
    have q_x10 := offc hoffw20 hz_g (show w10.heap.size < w10.heap.size + 1 ∨ w11.heap.size ≤ w10.heap.size by omega) l_x1 q_x10
    have q_x11 := offc hoffw20 hz_g (show w10.heap.size < w10.heap.size + 1 ∨ w11.heap.size ≤ w10.heap.size by omega) l_x1 q_x11
    have l_a0 := Nat.lt_of_lt_of_le l_a0 sw20
    have l_a1 := Nat.lt_of_lt_of_le l_a1 sw20
    have l_x0 := Nat.lt_of_lt_of_le l_x0 sw20
    have l_x1 := Nat.lt_of_lt_of_le l_x1 sw20
    have ho_r := Ow.keep ho_r (OffF.zone hoffw20 (by omega) hz_g (by omega))
    have ho_g : Ow (w10.heap.size + 1) (w11.heap.size) w20 [ga] (marks 1 (pplX f y a x n).length) := ⟨fp_g, hr_g, hz_g, hn_g⟩
    clear hr_g hz_g hn_g hoffw20
    go_wp2_with fail
    refine (heldIntS_any _ _ (pplX f y a x n).length 1 ho_g.rd (by omega) (by omega)).mono ?_
    rintro e w21 ⟨rfl, hbw21⟩
    have hpw21 : Below w20.heap.size w20 w21 := Below.after bwT hbw21 szT
    have sw21 := hpw21.size
    have hBw21 : Below w.heap.size w w21 := Below.trans hBw20 (Below.mono hpw21 hBw20.size)
    have q_a00 := oldc hpw21 l_a0 q_a00
    have q_a01 := oldc hpw21 l_a0 q_a01
    have q_a10 := oldc hpw21 l_a1 q_a10
    have q_a11 := oldc hpw21 l_a1 q_a11
    have q_x00 := oldc hpw21 l_x0 q_x00
    have q_x01 := oldc hpw21 l_x0 q_x01
    have q_x10 := oldc hpw21 l_x1 q_x10
    have q_x11 := oldc hpw21 l_x1 q_x11
    have l_a0 := Nat.lt_of_lt_of_le l_a0 sw21
    have l_a1 := Nat.lt_of_lt_of_le l_a1 sw21
    have l_x0 := Nat.lt_of_lt_of_le l_x0 sw21
    have l_x1 := Nat.lt_of_lt_of_le l_x1 sw21
    have ho_r := Ow.below ho_r hpw21
    have ho_g := Ow.below ho_g hpw21
    clear hbw21 hpw21
    have y_h_l_a0 : w.heap.size < w21.heap.size + 1 := by omega
    have m_h_l_a0 : ¬ w.heap.size = w21.heap.size := by omega
    have n_h_l_a0 : ¬ w21.heap.size = w.heap.size := by omega
    have y_h_l_a1 : w.heap.size + 1 < w21.heap.size + 1 := by omega
    have m_h_l_a1 : ¬ w.heap.size + 1 = w21.heap.size := by omega
    have n_h_l_a1 : ¬ w21.heap.size = w.heap.size + 1 := by omega
    have y_h_l_x0 : w9.heap.size < w21.heap.size + 1 := by omega
    have m_h_l_x0 : ¬ w9.heap.size = w21.heap.size := by omega
    have n_h_l_x0 : ¬ w21.heap.size = w9.heap.size := by omega
    have y_h_l_x1 : w10.heap.size < w21.heap.size + 1 := by omega
    have m_h_l_x1 : ¬ w10.heap.size = w21.heap.size := by omega
    have n_h_l_x1 : ¬ w21.heap.size = w10.heap.size := by omega
    have z_h : w.heap.size ≤ w21.heap.size := hBw21.size
    go_upto_region 33 with fail
    go_cut [19] (fun s19 wx => ∃ (lo hi : Nat) (ha : Value), ha = s19 ∧ Ow lo hi wx [ha] ((pplX f y a x n)) ∧ w21.heap.size ≤ lo ∧ hi ≤ wx.heap.size ∧ wx.cell? ⟨w.heap.size, 0, none⟩ = some (c0a) ∧ wx.cell? ⟨w.heap.size, 1, none⟩ = some (c0b) ∧ wx.cell? ⟨w.heap.size + 1, 0, none⟩ = some (c1a) ∧ wx.cell? ⟨w.heap.size + 1, 1, none⟩ = some (c1b) ∧ wx.cell? ⟨w9.heap.size, 0, none⟩ = some (.slice aox0 nx0 cpx0) ∧ wx.cell? ⟨w9.heap.size, 1, none⟩ = some (.slice box0 mx0 dpx0) ∧ wx.cell? ⟨w10.heap.size, 0, none⟩ = some (.slice aox1 nx1 cpx1) ∧ wx.cell? ⟨w10.heap.size, 1, none⟩ = some (.slice box1 mx1 dpx1) ∧ w.heap.size < wx.heap.size ∧ w.heap.size + 1 < wx.heap.size ∧ w9.heap.size < wx.heap.size ∧ w10.heap.size < wx.heap.size ∧ Ow (lo_r) (hi_r) wx [ra] ((pplX f y a x n)) ∧ Ow (w10.heap.size + 1) (w11.heap.size) wx [ga] (marks 1 (pplX f y a x n).length) ∧ Below w.heap.size w wx)
    case first =>
      go_region_held3 (fun w' => w'.cell? ⟨w.heap.size, 0, none⟩ = some (c0a) ∧ w'.cell? ⟨w.heap.size, 1, none⟩ = some (c0b) ∧ w'.cell? ⟨w.heap.size + 1, 0, none⟩ = some (c1a) ∧ w'.cell? ⟨w.heap.size + 1, 1, none⟩ = some (c1b)) (go_keep) (first | (go_at_call_of 10 (c0a); refine (toFamily_any _ _ _ f (h0.below (Below.drew hBw21)) (by omega) (by omega)).mono ?_; rintro e w22 ⟨t0ha, t0hb, rfl, ho_t0h, hbw22⟩; have hpw22 : Below w21.heap.size w21 w22 := Below.trans (Below.drew (Below.refl _ _)) hbw22; have sw22 := hpw22.size; have hBw22 : Below w.heap.size w w22 := Below.trans hBw21 (Below.mono hpw22 hBw21.size); have sBw22 := hBw22.size; have q_a00 := oldc hpw22 l_a0 q_a00; have q_a01 := oldc hpw22 l_a0 q_a01; have q_a10 := oldc hpw22 l_a1 q_a10; have q_a11 := oldc hpw22 l_a1 q_a11; have q_x00 := oldc hpw22 l_x0 q_x00; have q_x01 := oldc hpw22 l_x0 q_x01; have q_x10 := oldc hpw22 l_x1 q_x10; have q_x11 := oldc hpw22 l_x1 q_x11; have l_a0 := Nat.lt_of_lt_of_le l_a0 sw22; have l_a1 := Nat.lt_of_lt_of_le l_a1 sw22; have l_x0 := Nat.lt_of_lt_of_le l_x0 sw22; have l_x1 := Nat.lt_of_lt_of_le l_x1 sw22; have ho_r := Ow.below ho_r hpw22; have ho_g := Ow.below ho_g hpw22; clear hbw22 hpw22) | (go_at_call_of 11 (c1a); refine (toTerminology_any _ _ _ y (h1.below hBw22) (by omega) (by omega)).mono ?_; rintro e w23 ⟨t1ha, t1hb, rfl, ho_t1h, hbw23⟩; have hpw23 : Below w22.heap.size w22 w23 := hbw23; have sw23 := hpw23.size; have hBw23 : Below w.heap.size w w23 := Below.trans hBw22 (Below.mono hpw23 hBw22.size); have sBw23 := hBw23.size; have q_a00 := oldc hpw23 l_a0 q_a00; have q_a01 := oldc hpw23 l_a0 q_a01; have q_a10 := oldc hpw23 l_a1 q_a10; have q_a11 := oldc hpw23 l_a1 q_a11; have q_x00 := oldc hpw23 l_x0 q_x00; have q_x01 := oldc hpw23 l_x0 q_x01; have q_x10 := oldc hpw23 l_x1 q_x10; have q_x11 := oldc hpw23 l_x1 q_x11; have l_a0 := Nat.lt_of_lt_of_le l_a0 sw23; have l_a1 := Nat.lt_of_lt_of_le l_a1 sw23; have l_x0 := Nat.lt_of_lt_of_le l_x0 sw23; have l_x1 := Nat.lt_of_lt_of_le l_x1 sw23; have ho_r := Ow.below ho_r hpw23; have ho_g := Ow.below ho_g hpw23; have ho_t0h := Ow.below ho_t0h hpw23; clear hbw23 hpw23) | (go_at_call 23; refine (pplI_any _ _ _  _ _ f y ho_t0h.rd ho_t1h.rd a b2 x n).mono ?_; rintro e w24 ⟨ha, rfl, ho_h, hbw24⟩; have hpw24 : Below w23.heap.size w23 w24 := hbw24; have sw24 := hpw24.size; have hBw24 : Below w.heap.size w w24 := Below.trans hBw23 (Below.mono hpw24 hBw23.size); have sBw24 := hBw24.size; have q_a00 := oldc hpw24 l_a0 q_a00; have q_a01 := oldc hpw24 l_a0 q_a01; have q_a10 := oldc hpw24 l_a1 q_a10; have q_a11 := oldc hpw24 l_a1 q_a11; have q_x00 := oldc hpw24 l_x0 q_x00; have q_x01 := oldc hpw24 l_x0 q_x01; have q_x10 := oldc hpw24 l_x1 q_x10; have q_x11 := oldc hpw24 l_x1 q_x11; have l_a0 := Nat.lt_of_lt_of_le l_a0 sw24; have l_a1 := Nat.lt_of_lt_of_le l_a1 sw24; have l_x0 := Nat.lt_of_lt_of_le l_x0 sw24; have l_x1 := Nat.lt_of_lt_of_le l_x1 sw24; have ho_r := Ow.below ho_r hpw24; have ho_g := Ow.below ho_g hpw24; have ho_t0h := Ow.below ho_t0h hpw24; have ho_t1h := Ow.below ho_t1h hpw24; clear hbw24 hpw24; clear ho_t0h; clear ho_t1h))
      all_goals
        go_wp2_with fail
        go_meet
      all_goals exact ⟨_, _, _, rfl, ho_h, (by omega), (Nat.le_refl _), q_a00, q_a01, q_a10, q_a11, q_x00, q_x01, q_x10, q_x11, l_a0, l_a1, l_x0, l_x1, ho_r, ho_g, hBw24⟩
    case rest =>
      obtain ⟨lo_h, hi_h, ha, rfl, ho_h, e_h, t_h, q_a00, q_a01, q_a10, q_a11, q_x00, q_x01, q_x10, q_x11, l_a0, l_a1, l_x0, l_x1, ho_r, ho_g, hBCh⟩ := hcut
      clear y_h_l_a0 m_h_l_a0 n_h_l_a0
      clear y_h_l_a1 m_h_l_a1 n_h_l_a1
      clear y_h_l_x0 m_h_l_x0 n_h_l_x0
      clear y_h_l_x1 m_h_l_x1 n_h_l_x1
      obtain ⟨wch, hwch⟩ : ∃ W : World, W = wc := ⟨_, rfl⟩
      subst hwch
      have hBwch : Below w.heap.size w wch := hBCh
      have szwch := hBwch.size
      clear hBCh
      go_wp2_with fail
      refine (eqIntS_b _ _ _ (pplX f y a x n) (pplX f y a x n) (ho_h.rd.below bwT) (ho_r.rd.below bwT) true (by simp)).mono ?_
      rintro e w25 ⟨rfl, hbw25⟩
      have hpw25 : Below wch.heap.size wch w25 := Below.after bwT hbw25 szT
      have sw25 := hpw25.size
      have hBw25 : Below w.heap.size w w25 := Below.trans hBwch (Below.mono hpw25 hBwch.size)
      have q_a00 := oldc hpw25 l_a0 q_a00
      have q_a01 := oldc hpw25 l_a0 q_a01
      have q_a10 := oldc hpw25 l_a1 q_a10
      have q_a11 := oldc hpw25 l_a1 q_a11
      have q_x00 := oldc hpw25 l_x0 q_x00
      have q_x01 := oldc hpw25 l_x0 q_x01
      have q_x10 := oldc hpw25 l_x1 q_x10
      have q_x11 := oldc hpw25 l_x1 q_x11
      have l_a0 := Nat.lt_of_lt_of_le l_a0 sw25
      have l_a1 := Nat.lt_of_lt_of_le l_a1 sw25
      have l_x0 := Nat.lt_of_lt_of_le l_x0 sw25
      have l_x1 := Nat.lt_of_lt_of_le l_x1 sw25
      have ho_r := Ow.below ho_r hpw25
      have ho_g := Ow.below ho_g hpw25
      have ho_h := Ow.below ho_h hpw25
      clear hbw25 hpw25
      clear ho_h
      go_wp2_with fail
      refine (heldIntS_any _ _ (pplX f y a x n).length 1 ho_g.rd (by omega) (by omega)).mono ?_
      rintro e w26 ⟨rfl, hbw26⟩
      have hpw26 : Below w25.heap.size w25 w26 := Below.after bwT hbw26 szT
      have sw26 := hpw26.size
      have hBw26 : Below w.heap.size w w26 := Below.trans hBw25 (Below.mono hpw26 hBw25.size)
      have q_a00 := oldc hpw26 l_a0 q_a00
      have q_a01 := oldc hpw26 l_a0 q_a01
      have q_a10 := oldc hpw26 l_a1 q_a10
      have q_a11 := oldc hpw26 l_a1 q_a11
      have q_x00 := oldc hpw26 l_x0 q_x00
      have q_x01 := oldc hpw26 l_x0 q_x01
      have q_x10 := oldc hpw26 l_x1 q_x10
      have q_x11 := oldc hpw26 l_x1 q_x11
      have l_a0 := Nat.lt_of_lt_of_le l_a0 sw26
      have l_a1 := Nat.lt_of_lt_of_le l_a1 sw26
      have l_x0 := Nat.lt_of_lt_of_le l_x0 sw26
      have l_x1 := Nat.lt_of_lt_of_le l_x1 sw26
      have ho_r := Ow.below ho_r hpw26
      have ho_g := Ow.below ho_g hpw26
      clear hbw26 hpw26
      go_wp2
      go_ret
      exact ⟨rfl, hBw26⟩
end Go.Proofs.YtcbhdmmohdnjbaaGreat
