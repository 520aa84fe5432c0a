/- The walk of the law FnExactAssignClasses. -/
import Derived.Test.YtomigopkejlmcaaAsgI
import Derived.Test.YtomigopkejlmcaaAsgS
import Derived.Test.YtomigopkejlmcaaMkFam
namespace Go.Proofs.Ytomigopkejlmcaa
set_option linter.unusedVariables false
set_option linter.unusedSimpArgs false
open Go.RowKit

set_option maxRecDepth 20000 in
set_option maxHeartbeats 8000000 in
theorem walk_FnExactAssignClasses (w : World) (c0a c0b : Value) (f : Fam) (h0 : Rd false 0 w.heap.size w [c0a, c0b] f) (c1a c1b : Value) (c : Cls) (h1 : Rd false 0 w.heap.size w [c1a, c1b] c) (c2a : Value) (g : List Int) (h2 : Rd false 0 w.heap.size w [c2a] g) :
    Calls Try.prog 13 #[.agg #[c0a, c0b], .agg #[c1a, c1b], c2a] w (PostB w true) := by
  obtain ⟨ao2, len2, cap2, hcs2, hln2, hcn2, hcm2, -⟩ := h2.shape
  subst hcs2
  subst hln2
  unfold maxLen at hcm2
  have hle2 : g.length ≤ 9223372036854775807 := by omega
  clear hcm2 hcn2
  by_cases hg0 : 1048576 < g.length
  · go_enter Try.func13, Try.ntmps13
    go_wp2
    go_ret
    exact ⟨rfl, (by repeat' (first | (with_reducible exact Below.refl _ _) | (with_reducible assumption) | (with_reducible refine Below.alloc ?_ (by first | omega | (simp; omega) | simp) _) | (with_reducible refine Below.setCell ?_ (by first | omega | (simp; omega) | simp) _) | (with_reducible refine Below.drew ?_) | (with_reducible refine below_drewN ?_ _)))⟩
  have hq0 : ¬ (1048576 < g.length) := hg0
  by_cases hg1 : (1048576 : Int) < famSz f
  · go_enter Try.func13, Try.ntmps13
    go_wp2_with fail
    refine (szFamily_any _ _ _ f (h0.below (by repeat' (first | (with_reducible exact Below.refl _ _) | (with_reducible assumption) | (with_reducible refine Below.alloc ?_ (by first | omega | (simp; omega) | simp) _) | (with_reducible refine Below.setCell ?_ (by first | omega | (simp; omega) | simp) _) | (with_reducible refine Below.drew ?_) | (with_reducible refine below_drewN ?_ _)))) _ (by omega) (by omega)).mono ?_
    rw [if_pos (by omega)]
    rintro e w1 ⟨rfl, hbw1⟩
    have hpw1 : Below w.heap.size w w1 := Below.after (by repeat' (first | (with_reducible exact Below.refl _ _) | (with_reducible assumption) | (with_reducible refine Below.alloc ?_ (by first | omega | (simp; omega) | simp) _) | (with_reducible refine Below.setCell ?_ (by first | omega | (simp; omega) | simp) _) | (with_reducible refine Below.drew ?_) | (with_reducible refine below_drewN ?_ _))) hbw1 (by first | omega | (simp only [World.size_alloc, World.size_setCell, World.size_drew] at *; omega) | (simp; omega) | simp)
    have sw1 := hpw1.size
    have hBw1 : Below w.heap.size w w1 := hpw1
    have l_a0 : w.heap.size < w1.heap.size := by have := hbw1.size; simp at this; omega
    have q_a00 : w1.cell? ⟨w.heap.size, 0, none⟩ = some (c0a) := oldc hbw1 (by first | omega | (simp; omega) | (simp; done)) (by simp [go_sem])
    have q_a01 : w1.cell? ⟨w.heap.size, 1, none⟩ = some (c0b) := oldc hbw1 (by first | omega | (simp; omega) | (simp; done)) (by simp [go_sem])
    have l_a1 : w.heap.size + 1 < w1.heap.size := by have := hbw1.size; simp at this; omega
    have q_a10 : w1.cell? ⟨w.heap.size + 1, 0, none⟩ = some (c1a) := oldc hbw1 (by first | omega | (simp; omega) | (simp; done)) (by simp [go_sem])
    have q_a11 : w1.cell? ⟨w.heap.size + 1, 1, none⟩ = some (c1b) := oldc hbw1 (by first | omega | (simp; omega) | (simp; done)) (by simp [go_sem])
    clear hbw1 hpw1
    go_wp2
    go_ret
    exact ⟨rfl, hBw1⟩
  have hq1 : ¬ ((1048576 : Int) < famSz f) := hg1
  by_cases hg2 : (1048576 : Int) - famSz f < c.1.length + c.2.length
  · go_enter Try.func13, Try.ntmps13
    go_wp2_with fail
    refine (szFamily_any _ _ _ f (h0.below (by repeat' (first | (with_reducible exact Below.refl _ _) | (with_reducible assumption) | (with_reducible refine Below.alloc ?_ (by first | omega | (simp; omega) | simp) _) | (with_reducible refine Below.setCell ?_ (by first | omega | (simp; omega) | simp) _) | (with_reducible refine Below.drew ?_) | (with_reducible refine below_drewN ?_ _)))) _ (by omega) (by omega)).mono ?_
    rw [if_neg (by omega)]
    rintro e w2 ⟨rfl, hbw2⟩
    have hpw2 : Below w.heap.size w w2 := Below.after (by repeat' (first | (with_reducible exact Below.refl _ _) | (with_reducible assumption) | (with_reducible refine Below.alloc ?_ (by first | omega | (simp; omega) | simp) _) | (with_reducible refine Below.setCell ?_ (by first | omega | (simp; omega) | simp) _) | (with_reducible refine Below.drew ?_) | (with_reducible refine below_drewN ?_ _))) hbw2 (by first | omega | (simp only [World.size_alloc, World.size_setCell, World.size_drew] at *; omega) | (simp; omega) | simp)
    have sw2 := hpw2.size
    have hBw2 : Below w.heap.size w w2 := hpw2
    have l_a0 : w.heap.size < w2.heap.size := by have := hbw2.size; simp at this; omega
    have q_a00 : w2.cell? ⟨w.heap.size, 0, none⟩ = some (c0a) := oldc hbw2 (by first | omega | (simp; omega) | (simp; done)) (by simp [go_sem])
    have q_a01 : w2.cell? ⟨w.heap.size, 1, none⟩ = some (c0b) := oldc hbw2 (by first | omega | (simp; omega) | (simp; done)) (by simp [go_sem])
    have l_a1 : w.heap.size + 1 < w2.heap.size := by have := hbw2.size; simp at this; omega
    have q_a10 : w2.cell? ⟨w.heap.size + 1, 0, none⟩ = some (c1a) := oldc hbw2 (by first | omega | (simp; omega) | (simp; done)) (by simp [go_sem])
    have q_a11 : w2.cell? ⟨w.heap.size + 1, 1, none⟩ = some (c1b) := oldc hbw2 (by first | omega | (simp; omega) | (simp; done)) (by simp [go_sem])
    clear hbw2 hpw2
    go_wp2_with fail
    refine (szClasses_any _ _ _ c (h1.below (by repeat' (first | (with_reducible exact Below.refl _ _) | (with_reducible assumption) | (with_reducible refine Below.alloc ?_ (by first | omega | (simp; omega) | simp) _) | (with_reducible refine Below.setCell ?_ (by first | omega | (simp; omega) | simp) _) | (with_reducible refine Below.drew ?_) | (with_reducible refine below_drewN ?_ _)))) _ (by omega) (by omega)).mono ?_
    rw [if_pos (by omega)]
    rintro e w3 ⟨rfl, hbw3⟩
    have hpw3 : Below w2.heap.size w2 w3 := Below.after (by repeat' (first | (with_reducible exact Below.refl _ _) | (with_reducible assumption) | (with_reducible refine Below.alloc ?_ (by first | omega | (simp; omega) | simp) _) | (with_reducible refine Below.setCell ?_ (by first | omega | (simp; omega) | simp) _) | (with_reducible refine Below.drew ?_) | (with_reducible refine below_drewN ?_ _))) hbw3 (by first | omega | (simp only [World.size_alloc, World.size_setCell, World.size_drew] at *; omega) | (simp; omega) | simp)
    have sw3 := hpw3.size
    have hBw3 : Below w.heap.size w w3 := Below.trans hBw2 (Below.mono hpw3 hBw2.size)
    have q_a00 := oldc hpw3 l_a0 q_a00
    have q_a01 := oldc hpw3 l_a0 q_a01
    have q_a10 := oldc hpw3 l_a1 q_a10
    have q_a11 := oldc hpw3 l_a1 q_a11
    have l_a0 := Nat.lt_of_lt_of_le l_a0 sw3
    have l_a1 := Nat.lt_of_lt_of_le l_a1 sw3
    clear hbw3 hpw3
    go_wp2
    go_ret
    exact ⟨rfl, hBw3⟩
  have hq2 : ¬ ((1048576 : Int) - famSz f < c.1.length + c.2.length) := hg2
  obtain ⟨X, V, hXV⟩ := AsgAns.ex f c g
  have HXV := Lib.hid hXV
  clear hXV
  have hvv : (V != V) = false := by simp
  have hfl := famSz_le f
  go_enter Try.func13, Try.ntmps13
  go_wp2_with fail
  refine (szFamily_any _ _ _ f (h0.below (by repeat' (first | (with_reducible exact Below.refl _ _) | (with_reducible assumption) | (with_reducible refine Below.alloc ?_ (by first | omega | (simp; omega) | simp) _) | (with_reducible refine Below.setCell ?_ (by first | omega | (simp; omega) | simp) _) | (with_reducible refine Below.drew ?_) | (with_reducible refine below_drewN ?_ _)))) _ (by omega) (by omega)).mono ?_
  rw [if_neg (by omega)]
  rintro e w4 ⟨rfl, hbw4⟩
  have hpw4 : Below w.heap.size w w4 := Below.after (by repeat' (first | (with_reducible exact Below.refl _ _) | (with_reducible assumption) | (with_reducible refine Below.alloc ?_ (by first | omega | (simp; omega) | simp) _) | (with_reducible refine Below.setCell ?_ (by first | omega | (simp; omega) | simp) _) | (with_reducible refine Below.drew ?_) | (with_reducible refine below_drewN ?_ _))) hbw4 (by first | omega | (simp only [World.size_alloc, World.size_setCell, World.size_drew] at *; omega) | (simp; omega) | simp)
  have sw4 := hpw4.size
  have hBw4 : Below w.heap.size w w4 := hpw4
  have l_a0 : w.heap.size < w4.heap.size := by have := hbw4.size; simp at this; omega
  have q_a00 : w4.cell? ⟨w.heap.size, 0, none⟩ = some (c0a) := oldc hbw4 (by first | omega | (simp; omega) | (simp; done)) (by simp [go_sem])
  have q_a01 : w4.cell? ⟨w.heap.size, 1, none⟩ = some (c0b) := oldc hbw4 (by first | omega | (simp; omega) | (simp; done)) (by simp [go_sem])
  have l_a1 : w.heap.size + 1 < w4.heap.size := by have := hbw4.size; simp at this; omega
  have q_a10 : w4.cell? ⟨w.heap.size + 1, 0, none⟩ = some (c1a) := oldc hbw4 (by first | omega | (simp; omega) | (simp; done)) (by simp [go_sem])
  have q_a11 : w4.cell? ⟨w.heap.size + 1, 1, none⟩ = some (c1b) := oldc hbw4 (by first | omega | (simp; omega) | (simp; done)) (by simp [go_sem])
  clear hbw4 hpw4
  go_wp2_with fail
  refine (szClasses_any _ _ _ c (h1.below (by repeat' (first | (with_reducible exact Below.refl _ _) | (with_reducible assumption) | (with_reducible refine Below.alloc ?_ (by first | omega | (simp; omega) | simp) _) | (with_reducible refine Below.setCell ?_ (by first | omega | (simp; omega) | simp) _) | (with_reducible refine Below.drew ?_) | (with_reducible refine below_drewN ?_ _)))) _ (by omega) (by omega)).mono ?_
  rw [if_neg (by omega)]
  rintro e w5 ⟨rfl, hbw5⟩
  have hpw5 : Below w4.heap.size w4 w5 := Below.after (by repeat' (first | (with_reducible exact Below.refl _ _) | (with_reducible assumption) | (with_reducible refine Below.alloc ?_ (by first | omega | (simp; omega) | simp) _) | (with_reducible refine Below.setCell ?_ (by first | omega | (simp; omega) | simp) _) | (with_reducible refine Below.drew ?_) | (with_reducible refine below_drewN ?_ _))) hbw5 (by first | omega | (simp only [World.size_alloc, World.size_setCell, World.size_drew] at *; omega) | (simp; omega) | simp)
  have sw5 := hpw5.size
  have hBw5 : Below w.heap.size w w5 := Below.trans hBw4 (Below.mono hpw5 hBw4.size)
  have q_a00 := oldc hpw5 l_a0 q_a00
  have q_a01 := oldc hpw5 l_a0 q_a01
  have q_a10 := oldc hpw5 l_a1 q_a10
  have q_a11 := oldc hpw5 l_a1 q_a11
  have l_a0 := Nat.lt_of_lt_of_le l_a0 sw5
  have l_a1 := Nat.lt_of_lt_of_le l_a1 sw5
  clear hbw5 hpw5
  have y_r_l_a0 : w.heap.size < w5.heap.size + 1 := by omega
  have m_r_l_a0 : ¬ w.heap.size = w5.heap.size := by omega
  have n_r_l_a0 : ¬ w5.heap.size = w.heap.size := by omega
  have y_r_l_a1 : w.heap.size + 1 < w5.heap.size + 1 := by omega
  have m_r_l_a1 : ¬ w.heap.size + 1 = w5.heap.size := by omega
  have n_r_l_a1 : ¬ w5.heap.size = w.heap.size + 1 := by omega
  have z_r : w.heap.size ≤ w5.heap.size := hBw5.size
  go_upto_region 10 with fail
  go_cut [8, 9] (fun s8 s9 wx => ∃ (lo hi : Nat) (ra : Value), ra = s8 ∧ s9 = .bool V ∧ Ow lo hi wx [ra] (X) ∧ w5.heap.size ≤ lo ∧ hi ≤ wx.heap.size ∧ wx.cell? ⟨w.heap.size, 0, none⟩ = some (c0a) ∧ wx.cell? ⟨w.heap.size, 1, none⟩ = some (c0b) ∧ wx.cell? ⟨w.heap.size + 1, 0, none⟩ = some (c1a) ∧ wx.cell? ⟨w.heap.size + 1, 1, none⟩ = some (c1b) ∧ w.heap.size < wx.heap.size ∧ w.heap.size + 1 < wx.heap.size ∧ Below w.heap.size w wx)
  case first =>
    go_region_held3 (fun w' => w'.cell? ⟨w.heap.size, 0, none⟩ = some (c0a) ∧ w'.cell? ⟨w.heap.size, 1, none⟩ = some (c0b) ∧ w'.cell? ⟨w.heap.size + 1, 0, none⟩ = some (c1a) ∧ w'.cell? ⟨w.heap.size + 1, 1, none⟩ = some (c1b)) (go_keep) (first | (go_at_call_of 16 (c0a); refine (toFamily_any _ _ _ f (h0.below (Below.drew hBw5)) (by omega) (by omega)).mono ?_; rintro e w6 ⟨t0ra, t0rb, rfl, ho_t0r, hbw6⟩; have hpw6 : Below w5.heap.size w5 w6 := Below.trans (Below.drew (Below.refl _ _)) hbw6; have sw6 := hpw6.size; have hBw6 : Below w.heap.size w w6 := Below.trans hBw5 (Below.mono hpw6 hBw5.size); have sBw6 := hBw6.size; have q_a00 := oldc hpw6 l_a0 q_a00; have q_a01 := oldc hpw6 l_a0 q_a01; have q_a10 := oldc hpw6 l_a1 q_a10; have q_a11 := oldc hpw6 l_a1 q_a11; have l_a0 := Nat.lt_of_lt_of_le l_a0 sw6; have l_a1 := Nat.lt_of_lt_of_le l_a1 sw6; clear hbw6 hpw6) | (go_at_call_of 47 (c1a); refine (toClasses_any _ _ _ c (h1.below hBw6) (by omega) (by omega)).mono ?_; rintro e w7 ⟨t1ra, t1rb, rfl, ho_t1r, hbw7⟩; have hpw7 : Below w6.heap.size w6 w7 := hbw7; have sw7 := hpw7.size; have hBw7 : Below w.heap.size w w7 := Below.trans hBw6 (Below.mono hpw7 hBw6.size); have sBw7 := hBw7.size; have q_a00 := oldc hpw7 l_a0 q_a00; have q_a01 := oldc hpw7 l_a0 q_a01; have q_a10 := oldc hpw7 l_a1 q_a10; have q_a11 := oldc hpw7 l_a1 q_a11; have l_a0 := Nat.lt_of_lt_of_le l_a0 sw7; have l_a1 := Nat.lt_of_lt_of_le l_a1 sw7; have ho_t0r := Ow.below ho_t0r hpw7; clear hbw7 hpw7) | (go_at_call_of 17 (Value.slice ao2 g.length cap2); refine (toIntS_any _ _ g (h2.below hBw7) (by omega)).mono ?_; rintro e w8 ⟨t2ra, rfl, ho_t2r, hbw8⟩; have hpw8 : Below w7.heap.size w7 w8 := hbw8; have sw8 := hpw8.size; have hBw8 : Below w.heap.size w w8 := Below.trans hBw7 (Below.mono hpw8 hBw7.size); have sBw8 := hBw8.size; have q_a00 := oldc hpw8 l_a0 q_a00; have q_a01 := oldc hpw8 l_a0 q_a01; have q_a10 := oldc hpw8 l_a1 q_a10; have q_a11 := oldc hpw8 l_a1 q_a11; have l_a0 := Nat.lt_of_lt_of_le l_a0 sw8; have l_a1 := Nat.lt_of_lt_of_le l_a1 sw8; have ho_t0r := Ow.below ho_t0r hpw8; have ho_t1r := Ow.below ho_t1r hpw8; clear hbw8 hpw8) | (go_at_call 51; refine (assignS_any _ _ _  _ _  _ f c g ho_t0r.rd ho_t1r.rd ho_t2r.rd (by omega) X V HXV.out).mono ?_; rintro e w9 ⟨ra, rfl, ho_r, hbw9⟩; have hpw9 : Below w8.heap.size w8 w9 := hbw9; have sw9 := hpw9.size; have hBw9 : Below w.heap.size w w9 := Below.trans hBw8 (Below.mono hpw9 hBw8.size); have sBw9 := hBw9.size; have q_a00 := oldc hpw9 l_a0 q_a00; have q_a01 := oldc hpw9 l_a0 q_a01; have q_a10 := oldc hpw9 l_a1 q_a10; have q_a11 := oldc hpw9 l_a1 q_a11; have l_a0 := Nat.lt_of_lt_of_le l_a0 sw9; have l_a1 := Nat.lt_of_lt_of_le l_a1 sw9; have ho_t0r := Ow.below ho_t0r hpw9; have ho_t1r := Ow.below ho_t1r hpw9; have ho_t2r := Ow.below ho_t2r hpw9; clear hbw9 hpw9; clear ho_t0r; clear ho_t1r; clear ho_t2r))
    all_goals
      go_wp2_with fail
      go_meet
    all_goals exact ⟨_, _, _, rfl, rfl, ho_r, (by omega), (Nat.le_refl _), q_a00, q_a01, q_a10, q_a11, l_a0, l_a1, hBw9⟩
  case rest =>
    obtain ⟨lo_r, hi_r, ra, rfl, rfl, ho_r, e_r, t_r, q_a00, q_a01, q_a10, q_a11, l_a0, l_a1, hBCr⟩ := hcut
    clear y_r_l_a0 m_r_l_a0 n_r_l_a0
    clear y_r_l_a1 m_r_l_a1 n_r_l_a1
    obtain ⟨wcr, hwcr⟩ : ∃ W : World, W = wc := ⟨_, rfl⟩
    subst hwcr
    have hBwcr : Below w.heap.size w wcr := hBCr
    have szwcr := hBwcr.size
    clear hBCr
    go_wp2_with fail
    refine (toFamily_any _ _ _ f (h0.below (by repeat' (first | (with_reducible exact Below.refl _ _) | (with_reducible assumption) | (with_reducible refine Below.alloc ?_ (by first | omega | (simp; omega) | simp) _) | (with_reducible refine Below.setCell ?_ (by first | omega | (simp; omega) | simp) _) | (with_reducible refine Below.drew ?_) | (with_reducible refine below_drewN ?_ _)))) (by omega) (by omega)).mono ?_
    rintro e w10 ⟨x0a, x0b, rfl, ho_x0, hbw10⟩
    have hpw10 : Below wcr.heap.size wcr w10 := Below.after (by repeat' (first | (with_reducible exact Below.refl _ _) | (with_reducible assumption) | (with_reducible refine Below.alloc ?_ (by first | omega | (simp; omega) | simp) _) | (with_reducible refine Below.setCell ?_ (by first | omega | (simp; omega) | simp) _) | (with_reducible refine Below.drew ?_) | (with_reducible refine below_drewN ?_ _))) hbw10 (by first | omega | (simp only [World.size_alloc, World.size_setCell, World.size_drew] at *; omega) | (simp; omega) | simp)
    have sw10 := hpw10.size
    have hBw10 : Below w.heap.size w w10 := Below.trans hBwcr (Below.mono hpw10 hBwcr.size)
    have q_a00 := oldc hpw10 l_a0 q_a00
    have q_a01 := oldc hpw10 l_a0 q_a01
    have q_a10 := oldc hpw10 l_a1 q_a10
    have q_a11 := oldc hpw10 l_a1 q_a11
    have l_a0 := Nat.lt_of_lt_of_le l_a0 sw10
    have l_a1 := Nat.lt_of_lt_of_le l_a1 sw10
    have ho_r := Ow.below ho_r hpw10
    clear hbw10 hpw10
    obtain ⟨aox0, nx0, cpx0, box0, mx0, dpx0, rfl, rfl⟩ := shapeFam ho_x0.rd
    go_wp2_with fail
    refine (toClasses_any _ _ _ c (h1.below (by repeat' (first | (with_reducible exact Below.refl _ _) | (with_reducible assumption) | (with_reducible refine Below.alloc ?_ (by first | omega | (simp; omega) | simp) _) | (with_reducible refine Below.setCell ?_ (by first | omega | (simp; omega) | simp) _) | (with_reducible refine Below.drew ?_) | (with_reducible refine below_drewN ?_ _)))) (by omega) (by omega)).mono ?_
    rintro e w11 ⟨x1a, x1b, rfl, ho_x1, hbw11⟩
    simp only [World.size_alloc] at ho_x1
    have hpw11 : Below w10.heap.size w10 w11 := Below.after (by repeat' (first | (with_reducible exact Below.refl _ _) | (with_reducible assumption) | (with_reducible refine Below.alloc ?_ (by first | omega | (simp; omega) | simp) _) | (with_reducible refine Below.setCell ?_ (by first | omega | (simp; omega) | simp) _) | (with_reducible refine Below.drew ?_) | (with_reducible refine below_drewN ?_ _))) hbw11 (by first | omega | (simp only [World.size_alloc, World.size_setCell, World.size_drew] at *; omega) | (simp; omega) | simp)
    have sw11 := hpw11.size
    have hBw11 : Below w.heap.size w w11 := Below.trans hBw10 (Below.mono hpw11 hBw10.size)
    have q_a00 := oldc hpw11 l_a0 q_a00
    have q_a01 := oldc hpw11 l_a0 q_a01
    have q_a10 := oldc hpw11 l_a1 q_a10
    have q_a11 := oldc hpw11 l_a1 q_a11
    have l_a0 := Nat.lt_of_lt_of_le l_a0 sw11
    have l_a1 := Nat.lt_of_lt_of_le l_a1 sw11
    have l_x0 : w10.heap.size < w11.heap.size := by have := hbw11.size; simp at this; omega
    have q_x00 : w11.cell? ⟨w10.heap.size, 0, none⟩ = some (.slice aox0 nx0 cpx0) := oldc hbw11 (by first | omega | (simp; omega) | (simp; done)) (by simp [go_sem])
    have q_x01 : w11.cell? ⟨w10.heap.size, 1, none⟩ = some (.slice box0 mx0 dpx0) := oldc hbw11 (by first | omega | (simp; omega) | (simp; done)) (by simp [go_sem])
    have ho_r := Ow.below ho_r hpw11
    have ho_x0 := Ow.below ho_x0 hpw11
    clear hbw11 hpw11
    obtain ⟨aox1, nx1, cpx1, box1, mx1, dpx1, rfl, rfl⟩ := shapeCls ho_x1.rd
    go_wp2_with fail
    refine (toIntS_any _ _ g (h2.below (by repeat' (first | (with_reducible exact Below.refl _ _) | (with_reducible assumption) | (with_reducible refine Below.alloc ?_ (by first | omega | (simp; omega) | simp) _) | (with_reducible refine Below.setCell ?_ (by first | omega | (simp; omega) | simp) _) | (with_reducible refine Below.drew ?_) | (with_reducible refine below_drewN ?_ _)))) (by omega)).mono ?_
    rintro e w12 ⟨x2a, rfl, ho_x2, hbw12⟩
    simp only [World.size_alloc] at ho_x2
    have hpw12 : Below w11.heap.size w11 w12 := Below.after (by repeat' (first | (with_reducible exact Below.refl _ _) | (with_reducible assumption) | (with_reducible refine Below.alloc ?_ (by first | omega | (simp; omega) | simp) _) | (with_reducible refine Below.setCell ?_ (by first | omega | (simp; omega) | simp) _) | (with_reducible refine Below.drew ?_) | (with_reducible refine below_drewN ?_ _))) hbw12 (by first | omega | (simp only [World.size_alloc, World.size_setCell, World.size_drew] at *; omega) | (simp; omega) | simp)
    have sw12 := hpw12.size
    have hBw12 : Below w.heap.size w w12 := Below.trans hBw11 (Below.mono hpw12 hBw11.size)
    have q_a00 := oldc hpw12 l_a0 q_a00
    have q_a01 := oldc hpw12 l_a0 q_a01
    have q_a10 := oldc hpw12 l_a1 q_a10
    have q_a11 := oldc hpw12 l_a1 q_a11
    have q_x00 := oldc hpw12 l_x0 q_x00
    have q_x01 := oldc hpw12 l_x0 q_x01
    have l_a0 := Nat.lt_of_lt_of_le l_a0 sw12
    have l_a1 := Nat.lt_of_lt_of_le l_a1 sw12
    have l_x0 := Nat.lt_of_lt_of_le l_x0 sw12
    have l_x1 : w11.heap.size < w12.heap.size := by have := hbw12.size; simp at this; omega
    have q_x10 : w12.cell? ⟨w11.heap.size, 0, none⟩ = some (.slice aox1 nx1 cpx1) := oldc hbw12 (by first | omega | (simp; omega) | (simp; done)) (by simp [go_sem])
    have q_x11 : w12.cell? ⟨w11.heap.size, 1, none⟩ = some (.slice box1 mx1 dpx1) := oldc hbw12 (by first | omega | (simp; omega) | (simp; done)) (by simp [go_sem])
    have ho_r := Ow.below ho_r hpw12
    have ho_x0 := Ow.below ho_x0 hpw12
    have ho_x1 := Ow.below ho_x1 hpw12
    clear hbw12 hpw12
    go_wp2_with fail
    refine (assignI_any _ _ _  _ _  _ f c g (ho_x0.rd.below (by repeat' (first | (with_reducible exact Below.refl _ _) | (with_reducible assumption) | (with_reducible refine Below.alloc ?_ (by first | omega | (simp; omega) | simp) _) | (with_reducible refine Below.setCell ?_ (by first | omega | (simp; omega) | simp) _) | (with_reducible refine Below.drew ?_) | (with_reducible refine below_drewN ?_ _)))) (ho_x1.rd.below (by repeat' (first | (with_reducible exact Below.refl _ _) | (with_reducible assumption) | (with_reducible refine Below.alloc ?_ (by first | omega | (simp; omega) | simp) _) | (with_reducible refine Below.setCell ?_ (by first | omega | (simp; omega) | simp) _) | (with_reducible refine Below.drew ?_) | (with_reducible refine below_drewN ?_ _)))) (ho_x2.rd.below (by repeat' (first | (with_reducible exact Below.refl _ _) | (with_reducible assumption) | (with_reducible refine Below.alloc ?_ (by first | omega | (simp; omega) | simp) _) | (with_reducible refine Below.setCell ?_ (by first | omega | (simp; omega) | simp) _) | (with_reducible refine Below.drew ?_) | (with_reducible refine below_drewN ?_ _)))) (by omega) X V HXV.out).mono ?_
    rintro e w13 ⟨ga, rfl, ho_g, hbw13⟩
    have hpw13 : Below w12.heap.size w12 w13 := Below.after (by repeat' (first | (with_reducible exact Below.refl _ _) | (with_reducible assumption) | (with_reducible refine Below.alloc ?_ (by first | omega | (simp; omega) | simp) _) | (with_reducible refine Below.setCell ?_ (by first | omega | (simp; omega) | simp) _) | (with_reducible refine Below.drew ?_) | (with_reducible refine below_drewN ?_ _))) hbw13 (by first | omega | (simp only [World.size_alloc, World.size_setCell, World.size_drew] at *; omega) | (simp; omega) | simp)
    have sw13 := hpw13.size
    have hBw13 : Below w.heap.size w w13 := Below.trans hBw12 (Below.mono hpw13 hBw12.size)
    have q_a00 := oldc hpw13 l_a0 q_a00
    have q_a01 := oldc hpw13 l_a0 q_a01
    have q_a10 := oldc hpw13 l_a1 q_a10
    have q_a11 := oldc hpw13 l_a1 q_a11
    have q_x00 := oldc hpw13 l_x0 q_x00
    have q_x01 := oldc hpw13 l_x0 q_x01
    have q_x10 := oldc hpw13 l_x1 q_x10
    have q_x11 := oldc hpw13 l_x1 q_x11
    have l_a0 := Nat.lt_of_lt_of_le l_a0 sw13
    have l_a1 := Nat.lt_of_lt_of_le l_a1 sw13
    have l_x0 := Nat.lt_of_lt_of_le l_x0 sw13
    have l_x1 := Nat.lt_of_lt_of_le l_x1 sw13
    have ho_r := Ow.below ho_r hpw13
    have ho_x0 := Ow.below ho_x0 hpw13
    have ho_x1 := Ow.below ho_x1 hpw13
    have ho_x2 := Ow.below ho_x2 hpw13
    clear hbw13 hpw13
    go_wp2_with fail
    refine (eqIntS_b _ _ _ X X (ho_g.rd.below (by repeat' (first | (with_reducible exact Below.refl _ _) | (with_reducible assumption) | (with_reducible refine Below.alloc ?_ (by first | omega | (simp; omega) | simp) _) | (with_reducible refine Below.setCell ?_ (by first | omega | (simp; omega) | simp) _) | (with_reducible refine Below.drew ?_) | (with_reducible refine below_drewN ?_ _)))) (ho_r.rd.below (by repeat' (first | (with_reducible exact Below.refl _ _) | (with_reducible assumption) | (with_reducible refine Below.alloc ?_ (by first | omega | (simp; omega) | simp) _) | (with_reducible refine Below.setCell ?_ (by first | omega | (simp; omega) | simp) _) | (with_reducible refine Below.drew ?_) | (with_reducible refine below_drewN ?_ _)))) true (by simp)).mono ?_
    rintro e w14 ⟨rfl, hbw14⟩
    have hpw14 : Below w13.heap.size w13 w14 := Below.after (by repeat' (first | (with_reducible exact Below.refl _ _) | (with_reducible assumption) | (with_reducible refine Below.alloc ?_ (by first | omega | (simp; omega) | simp) _) | (with_reducible refine Below.setCell ?_ (by first | omega | (simp; omega) | simp) _) | (with_reducible refine Below.drew ?_) | (with_reducible refine below_drewN ?_ _))) hbw14 (by first | omega | (simp only [World.size_alloc, World.size_setCell, World.size_drew] at *; omega) | (simp; omega) | simp)
    have sw14 := hpw14.size
    have hBw14 : Below w.heap.size w w14 := Below.trans hBw13 (Below.mono hpw14 hBw13.size)
    have q_a00 := oldc hpw14 l_a0 q_a00
    have q_a01 := oldc hpw14 l_a0 q_a01
    have q_a10 := oldc hpw14 l_a1 q_a10
    have q_a11 := oldc hpw14 l_a1 q_a11
    have q_x00 := oldc hpw14 l_x0 q_x00
    have q_x01 := oldc hpw14 l_x0 q_x01
    have q_x10 := oldc hpw14 l_x1 q_x10
    have q_x11 := oldc hpw14 l_x1 q_x11
    have l_a0 := Nat.lt_of_lt_of_le l_a0 sw14
    have l_a1 := Nat.lt_of_lt_of_le l_a1 sw14
    have l_x0 := Nat.lt_of_lt_of_le l_x0 sw14
    have l_x1 := Nat.lt_of_lt_of_le l_x1 sw14
    have ho_r := Ow.below ho_r hpw14
    have ho_x0 := Ow.below ho_x0 hpw14
    have ho_x1 := Ow.below ho_x1 hpw14
    have ho_x2 := Ow.below ho_x2 hpw14
    have ho_g := Ow.below ho_g hpw14
    clear hbw14 hpw14
    go_wp2_with fail
    go_region_held3 (fun w' => w'.cell? ⟨w.heap.size, 0, none⟩ = some (c0a) ∧ w'.cell? ⟨w.heap.size, 1, none⟩ = some (c0b) ∧ w'.cell? ⟨w10.heap.size, 0, none⟩ = some (.slice aox0 nx0 cpx0) ∧ w'.cell? ⟨w10.heap.size, 1, none⟩ = some (.slice box0 mx0 dpx0)) (go_keep) (first | (go_at_call 16; refine (toFamily_any _ _ _ f (h0.below (Below.drew hBw14)) (by omega) (by omega)).mono ?_; rintro e w15 ⟨y0a, y0b, rfl, ho_y0, hbw15⟩; have hpw15 : Below w14.heap.size w14 w15 := Below.trans (Below.drew (Below.refl _ _)) hbw15; have sw15 := hpw15.size; have hBw15 : Below w.heap.size w w15 := Below.trans hBw14 (Below.mono hpw15 hBw14.size); have q_a00 := oldc hpw15 l_a0 q_a00; have q_a01 := oldc hpw15 l_a0 q_a01; have q_a10 := oldc hpw15 l_a1 q_a10; have q_a11 := oldc hpw15 l_a1 q_a11; have q_x00 := oldc hpw15 l_x0 q_x00; have q_x01 := oldc hpw15 l_x0 q_x01; have q_x10 := oldc hpw15 l_x1 q_x10; have q_x11 := oldc hpw15 l_x1 q_x11; have l_a0 := Nat.lt_of_lt_of_le l_a0 sw15; have l_a1 := Nat.lt_of_lt_of_le l_a1 sw15; have l_x0 := Nat.lt_of_lt_of_le l_x0 sw15; have l_x1 := Nat.lt_of_lt_of_le l_x1 sw15; have ho_r := Ow.below ho_r hpw15; have ho_x0 := Ow.below ho_x0 hpw15; have ho_x1 := Ow.below ho_x1 hpw15; have ho_x2 := Ow.below ho_x2 hpw15; have ho_g := Ow.below ho_g hpw15; clear hbw15 hpw15) | (go_at_call 19; refine (eqFamily_b _ _ _ _ _ f f ho_x0.rd ho_y0.rd true (by simp)).mono ?_; rintro e w16 ⟨rfl, hbw16⟩; have sw16 := hbw16.size; have hBw16 : Below w.heap.size w w16 := Below.trans hBw15 (Below.mono hbw16 hBw15.size); have q_a00 := oldc hbw16 l_a0 q_a00; have q_a01 := oldc hbw16 l_a0 q_a01; have q_a10 := oldc hbw16 l_a1 q_a10; have q_a11 := oldc hbw16 l_a1 q_a11; have q_x00 := oldc hbw16 l_x0 q_x00; have q_x01 := oldc hbw16 l_x0 q_x01; have q_x10 := oldc hbw16 l_x1 q_x10; have q_x11 := oldc hbw16 l_x1 q_x11; have l_a0 := Nat.lt_of_lt_of_le l_a0 sw16; have l_a1 := Nat.lt_of_lt_of_le l_a1 sw16; have l_x0 := Nat.lt_of_lt_of_le l_x0 sw16; have l_x1 := Nat.lt_of_lt_of_le l_x1 sw16; have ho_r := Ow.below ho_r hbw16; have ho_x0 := Ow.below ho_x0 hbw16; have ho_x1 := Ow.below ho_x1 hbw16; have ho_x2 := Ow.below ho_x2 hbw16; have ho_g := Ow.below ho_g hbw16; clear hbw16 ho_y0))
    go_wp2_with fail
    go_region_held3 (fun w' => w'.cell? ⟨w.heap.size + 1, 0, none⟩ = some (c1a) ∧ w'.cell? ⟨w.heap.size + 1, 1, none⟩ = some (c1b) ∧ w'.cell? ⟨w11.heap.size, 0, none⟩ = some (.slice aox1 nx1 cpx1) ∧ w'.cell? ⟨w11.heap.size, 1, none⟩ = some (.slice box1 mx1 dpx1)) (go_keep) (first | (go_at_call 47; refine (toClasses_any _ _ _ c (h1.below (Below.drew hBw16)) (by omega) (by omega)).mono ?_; rintro e w17 ⟨y1a, y1b, rfl, ho_y1, hbw17⟩; have hpw17 : Below w16.heap.size w16 w17 := Below.trans (Below.drew (Below.refl _ _)) hbw17; have sw17 := hpw17.size; have hBw17 : Below w.heap.size w w17 := Below.trans hBw16 (Below.mono hpw17 hBw16.size); have q_a00 := oldc hpw17 l_a0 q_a00; have q_a01 := oldc hpw17 l_a0 q_a01; have q_a10 := oldc hpw17 l_a1 q_a10; have q_a11 := oldc hpw17 l_a1 q_a11; have q_x00 := oldc hpw17 l_x0 q_x00; have q_x01 := oldc hpw17 l_x0 q_x01; have q_x10 := oldc hpw17 l_x1 q_x10; have q_x11 := oldc hpw17 l_x1 q_x11; have l_a0 := Nat.lt_of_lt_of_le l_a0 sw17; have l_a1 := Nat.lt_of_lt_of_le l_a1 sw17; have l_x0 := Nat.lt_of_lt_of_le l_x0 sw17; have l_x1 := Nat.lt_of_lt_of_le l_x1 sw17; have ho_r := Ow.below ho_r hpw17; have ho_x0 := Ow.below ho_x0 hpw17; have ho_x1 := Ow.below ho_x1 hpw17; have ho_x2 := Ow.below ho_x2 hpw17; have ho_g := Ow.below ho_g hpw17; clear hbw17 hpw17) | (go_at_call 49; refine (eqClasses_b _ _ _ _ _ c c ho_x1.rd ho_y1.rd true (by simp)).mono ?_; rintro e w18 ⟨rfl, hbw18⟩; have sw18 := hbw18.size; have hBw18 : Below w.heap.size w w18 := Below.trans hBw17 (Below.mono hbw18 hBw17.size); have q_a00 := oldc hbw18 l_a0 q_a00; have q_a01 := oldc hbw18 l_a0 q_a01; have q_a10 := oldc hbw18 l_a1 q_a10; have q_a11 := oldc hbw18 l_a1 q_a11; have q_x00 := oldc hbw18 l_x0 q_x00; have q_x01 := oldc hbw18 l_x0 q_x01; have q_x10 := oldc hbw18 l_x1 q_x10; have q_x11 := oldc hbw18 l_x1 q_x11; have l_a0 := Nat.lt_of_lt_of_le l_a0 sw18; have l_a1 := Nat.lt_of_lt_of_le l_a1 sw18; have l_x0 := Nat.lt_of_lt_of_le l_x0 sw18; have l_x1 := Nat.lt_of_lt_of_le l_x1 sw18; have ho_r := Ow.below ho_r hbw18; have ho_x0 := Ow.below ho_x0 hbw18; have ho_x1 := Ow.below ho_x1 hbw18; have ho_x2 := Ow.below ho_x2 hbw18; have ho_g := Ow.below ho_g hbw18; clear hbw18 ho_y1))
    go_wp2_with fail
    refine (toIntS_any _ _ g (h2.below (by repeat' (first | (with_reducible exact Below.refl _ _) | (with_reducible assumption) | (with_reducible refine Below.alloc ?_ (by first | omega | (simp; omega) | simp) _) | (with_reducible refine Below.setCell ?_ (by first | omega | (simp; omega) | simp) _) | (with_reducible refine Below.drew ?_) | (with_reducible refine below_drewN ?_ _)))) (by omega)).mono ?_
    rintro e w19 ⟨y2a, rfl, ho_y2, hbw19⟩
    have hpw19 : Below w18.heap.size w18 w19 := Below.after (by repeat' (first | (with_reducible exact Below.refl _ _) | (with_reducible assumption) | (with_reducible refine Below.alloc ?_ (by first | omega | (simp; omega) | simp) _) | (with_reducible refine Below.setCell ?_ (by first | omega | (simp; omega) | simp) _) | (with_reducible refine Below.drew ?_) | (with_reducible refine below_drewN ?_ _))) hbw19 (by first | omega | (simp only [World.size_alloc, World.size_setCell, World.size_drew] at *; omega) | (simp; omega) | simp)
    have sw19 := hpw19.size
    have hBw19 : Below w.heap.size w w19 := Below.trans hBw18 (Below.mono hpw19 hBw18.size)
    have q_a00 := oldc hpw19 l_a0 q_a00
    have q_a01 := oldc hpw19 l_a0 q_a01
    have q_a10 := oldc hpw19 l_a1 q_a10
    have q_a11 := oldc hpw19 l_a1 q_a11
    have q_x00 := oldc hpw19 l_x0 q_x00
    have q_x01 := oldc hpw19 l_x0 q_x01
    have q_x10 := oldc hpw19 l_x1 q_x10
    have q_x11 := oldc hpw19 l_x1 q_x11
    have l_a0 := Nat.lt_of_lt_of_le l_a0 sw19
    have l_a1 := Nat.lt_of_lt_of_le l_a1 sw19
    have l_x0 := Nat.lt_of_lt_of_le l_x0 sw19
    have l_x1 := Nat.lt_of_lt_of_le l_x1 sw19
    have ho_r := Ow.below ho_r hpw19
    have ho_x0 := Ow.below ho_x0 hpw19
    have ho_x1 := Ow.below ho_x1 hpw19
    have ho_x2 := Ow.below ho_x2 hpw19
    have ho_g := Ow.below ho_g hpw19
    clear hbw19 hpw19
    go_wp2_with fail
    refine (eqIntS_b _ _ _ g g (ho_x2.rd.below (by repeat' (first | (with_reducible exact Below.refl _ _) | (with_reducible assumption) | (with_reducible refine Below.alloc ?_ (by first | omega | (simp; omega) | simp) _) | (with_reducible refine Below.setCell ?_ (by first | omega | (simp; omega) | simp) _) | (with_reducible refine Below.drew ?_) | (with_reducible refine below_drewN ?_ _)))) (ho_y2.rd.below (by repeat' (first | (with_reducible exact Below.refl _ _) | (with_reducible assumption) | (with_reducible refine Below.alloc ?_ (by first | omega | (simp; omega) | simp) _) | (with_reducible refine Below.setCell ?_ (by first | omega | (simp; omega) | simp) _) | (with_reducible refine Below.drew ?_) | (with_reducible refine below_drewN ?_ _)))) true (by simp)).mono ?_
    rintro e w20 ⟨rfl, hbw20⟩
    have hpw20 : Below w19.heap.size w19 w20 := Below.after (by repeat' (first | (with_reducible exact Below.refl _ _) | (with_reducible assumption) | (with_reducible refine Below.alloc ?_ (by first | omega | (simp; omega) | simp) _) | (with_reducible refine Below.setCell ?_ (by first | omega | (simp; omega) | simp) _) | (with_reducible refine Below.drew ?_) | (with_reducible refine below_drewN ?_ _))) hbw20 (by first | omega | (simp only [World.size_alloc, World.size_setCell, World.size_drew] at *; omega) | (simp; omega) | simp)
    have sw20 := hpw20.size
    have hBw20 : Below w.heap.size w w20 := Below.trans hBw19 (Below.mono hpw20 hBw19.size)
    have q_a00 := oldc hpw20 l_a0 q_a00
    have q_a01 := oldc hpw20 l_a0 q_a01
    have q_a10 := oldc hpw20 l_a1 q_a10
    have q_a11 := oldc hpw20 l_a1 q_a11
    have q_x00 := oldc hpw20 l_x0 q_x00
    have q_x01 := oldc hpw20 l_x0 q_x01
    have q_x10 := oldc hpw20 l_x1 q_x10
    have q_x11 := oldc hpw20 l_x1 q_x11
    have l_a0 := Nat.lt_of_lt_of_le l_a0 sw20
    have l_a1 := Nat.lt_of_lt_of_le l_a1 sw20
    have l_x0 := Nat.lt_of_lt_of_le l_x0 sw20
    have l_x1 := Nat.lt_of_lt_of_le l_x1 sw20
    have ho_r := Ow.below ho_r hpw20
    have ho_x0 := Ow.below ho_x0 hpw20
    have ho_x1 := Ow.below ho_x1 hpw20
    have ho_x2 := Ow.below ho_x2 hpw20
    have ho_g := Ow.below ho_g hpw20
    have ho_y2 := Ow.below ho_y2 hpw20
    clear hbw20 hpw20
    clear ho_y2
    have hres : X.length ≤ 40 := HXV.out.len
    obtain ⟨fp_x0, hr_x0, hz_x0, hn_x0⟩ := ho_x0
    go_wp2_with fail
    refine (markFamily_any _ _ _ f fp_x0 hr_x0 hn_x0 (1) (by omega) (by omega)).mono ?_
    rintro e w21 ⟨rfl, hr_x0, hoffw21⟩
    have sw21 := hoffw21.size
    have hBw21 : Below w.heap.size w w21 := Below.trans hBw20 (OffF.toBelow hoffw21 hBw20.size (fun b hb => Nat.le_trans (show w.heap.size ≤ wcr.heap.size by omega) (hz_x0 b hb).1))
    have q_a00 := offc hoffw21 hz_x0 (show w.heap.size < wcr.heap.size ∨ w10.heap.size ≤ w.heap.size by omega) l_a0 q_a00
    have q_a01 := offc hoffw21 hz_x0 (show w.heap.size < wcr.heap.size ∨ w10.heap.size ≤ w.heap.size by omega) l_a0 q_a01
    have q_a10 := offc hoffw21 hz_x0 (show w.heap.size + 1 < wcr.heap.size ∨ w10.heap.size ≤ w.heap.size + 1 by omega) l_a1 q_a10
    have q_a11 := offc hoffw21 hz_x0 (show w.heap.size + 1 < wcr.heap.size ∨ w10.heap.size ≤ w.heap.size + 1 by omega) l_a1 q_a11
    have q_x00 := offc hoffw21 hz_x0 (show w10.heap.size < wcr.heap.size ∨ w10.heap.size ≤ w10.heap.size by omega) l_x0 q_x00
    have q_x01 := offc hoffw21 hz_x0 (show w10.heap.size < wcr.heap.size ∨ w10.heap.size ≤ w10.heap.size by omega) l_x0 q_x01
    have q_x10 := offc hoffw21 hz_x0 (show w11.heap.size < wcr.heap.size ∨ w10.heap.size ≤ w11.heap.size by omega) l_x1 q_x10
    have q_x11 := offc hoffw21 hz_x0 (show w11.heap.size < wcr.heap.size ∨ w10.heap.size ≤ w11.heap.size by omega) l_x1 q_x11
    have l_a0 := Nat.lt_of_lt_of_le l_a0 sw21
    have l_a1 := Nat.lt_of_lt_of_le l_a1 sw21
    have l_x0 := Nat.lt_of_lt_of_le l_x0 sw21
    have l_x1 := Nat.lt_of_lt_of_le l_x1 sw21
    have ho_r := Ow.keep ho_r (OffF.zone hoffw21 (by omega) hz_x0 (by omega))
    have ho_x1 := Ow.keep ho_x1 (OffF.zone hoffw21 (by omega) hz_x0 (by omega))
    have ho_x2 := Ow.keep ho_x2 (OffF.zone hoffw21 (by omega) hz_x0 (by omega))
    have ho_g := Ow.keep ho_g (OffF.zone hoffw21 (by omega) hz_x0 (by omega))
    have ho_x0 : Ow (wcr.heap.size) (w10.heap.size) w21 [.slice aox0 nx0 cpx0, .slice box0 mx0 dpx0] (((marksPer 1 f.1.length, marksUni (1 + 6 * f.1.length) f.2.length) : Fam)) := ⟨fp_x0, hr_x0, hz_x0, hn_x0⟩
    clear hr_x0 hz_x0 hn_x0 hoffw21
    obtain ⟨fp_x1, hr_x1, hz_x1, hn_x1⟩ := ho_x1
    go_wp2_with fail
    refine (markClasses_any _ _ _ c fp_x1 hr_x1 hn_x1 ((1 + 6 * f.1.length + 4 * f.2.length)) (by omega) (by omega)).mono ?_
    rintro e w22 ⟨rfl, hr_x1, hoffw22⟩
    have sw22 := hoffw22.size
    have hBw22 : Below w.heap.size w w22 := Below.trans hBw21 (OffF.toBelow hoffw22 hBw21.size (fun b hb => Nat.le_trans (show w.heap.size ≤ w10.heap.size + 1 by omega) (hz_x1 b hb).1))
    have q_a00 := offc hoffw22 hz_x1 (show w.heap.size < w10.heap.size + 1 ∨ w11.heap.size ≤ w.heap.size by omega) l_a0 q_a00
    have q_a01 := offc hoffw22 hz_x1 (show w.heap.size < w10.heap.size + 1 ∨ w11.heap.size ≤ w.heap.size by omega) l_a0 q_a01
    have q_a10 := offc hoffw22 hz_x1 (show w.heap.size + 1 < w10.heap.size + 1 ∨ w11.heap.size ≤ w.heap.size + 1 by omega) l_a1 q_a10
    have q_a11 := offc hoffw22 hz_x1 (show w.heap.size + 1 < w10.heap.size + 1 ∨ w11.heap.size ≤ w.heap.size + 1 by omega) l_a1 q_a11
    have q_x00 := offc hoffw22 hz_x1 (show w10.heap.size < w10.heap.size + 1 ∨ w11.heap.size ≤ w10.heap.size by omega) l_x0 q_x00
    have q_x01 := offc hoffw22 hz_x1 (show w10.heap.size < w10.heap.size + 1 ∨ w11.heap.size ≤ w10.heap.size by omega) l_x0 q_x01
    have q_x10 := offc hoffw22 hz_x1 (show w11.heap.size < w10.heap.size + 1 ∨ w11.heap.size ≤ w11.heap.size by omega) l_x1 q_x10
    have q_x11 := offc hoffw22 hz_x1 (show w11.heap.size < w10.heap.size + 1 ∨ w11.heap.size ≤ w11.heap.size by omega) l_x1 q_x11
    have l_a0 := Nat.lt_of_lt_of_le l_a0 sw22
    have l_a1 := Nat.lt_of_lt_of_le l_a1 sw22
    have l_x0 := Nat.lt_of_lt_of_le l_x0 sw22
    have l_x1 := Nat.lt_of_lt_of_le l_x1 sw22
    have ho_r := Ow.keep ho_r (OffF.zone hoffw22 (by omega) hz_x1 (by omega))
    have ho_x0 := Ow.keep ho_x0 (OffF.zone hoffw22 (by omega) hz_x1 (by omega))
    have ho_x2 := Ow.keep ho_x2 (OffF.zone hoffw22 (by omega) hz_x1 (by omega))
    have ho_g := Ow.keep ho_g (OffF.zone hoffw22 (by omega) hz_x1 (by omega))
    have ho_x1 : Ow (w10.heap.size + 1) (w11.heap.size) w22 [.slice aox1 nx1 cpx1, .slice box1 mx1 dpx1] (((marks (1 + 6 * f.1.length + 4 * f.2.length) c.1.length, marks ((1 + 6 * f.1.length + 4 * f.2.length) + c.1.length) c.2.length) : Cls)) := ⟨fp_x1, hr_x1, hz_x1, hn_x1⟩
    clear hr_x1 hz_x1 hn_x1 hoffw22
    obtain ⟨fp_x2, hr_x2, hz_x2, hn_x2⟩ := ho_x2
    go_wp2_with fail
    refine (markIntS_any _ _ g fp_x2 hr_x2 (((1 + 6 * f.1.length + 4 * f.2.length) + c.1.length + c.2.length)) (by omega) (by omega)).mono ?_
    rintro e w23 ⟨rfl, hr_x2, hoffw23⟩
    have sw23 := hoffw23.size
    have hBw23 : Below w.heap.size w w23 := Below.trans hBw22 (OffF.toBelow hoffw23 hBw22.size (fun b hb => Nat.le_trans (show w.heap.size ≤ w11.heap.size + 1 by omega) (hz_x2 b hb).1))
    have q_a00 := offc hoffw23 hz_x2 (show w.heap.size < w11.heap.size + 1 ∨ w12.heap.size ≤ w.heap.size by omega) l_a0 q_a00
    have q_a01 := offc hoffw23 hz_x2 (show w.heap.size < w11.heap.size + 1 ∨ w12.heap.size ≤ w.heap.size by omega) l_a0 q_a01
    have q_a10 := offc hoffw23 hz_x2 (show w.heap.size + 1 < w11.heap.size + 1 ∨ w12.heap.size ≤ w.heap.size + 1 by omega) l_a1 q_a10
    have q_a11 := offc hoffw23 hz_x2 (show w.heap.size + 1 < w11.heap.size + 1 ∨ w12.heap.size ≤ w.heap.size + 1 by omega) l_a1 q_a11
    have q_x00 := offc hoffw23 hz_x2 (show w10.heap.size < w11.heap.size + 1 ∨ w12.heap.size ≤ w10.heap.size by omega) l_x0 q_x00
    have q_x01 := offc hoffw23 hz_x2 (show w10.heap.size < w11.heap.size + 1 ∨ w12.heap.size ≤ w10.heap.size by omega) l_x0 q_x01
    have q_x10 := offc hoffw23 hz_x2 (show w11.heap.size < w11.heap.size + 1 ∨ w12.heap.size ≤ w11.heap.size by omega) l_x1 q_x10
    have q_x11 := offc hoffw23 hz_x2 (show w11.heap.size < w11.heap.size + 1 ∨ w12.heap.size ≤ w11.heap.size by omega) l_x1 q_x11
    have l_a0 := Nat.lt_of_lt_of_le l_a0 sw23
    have l_a1 := Nat.lt_of_lt_of_le l_a1 sw23
    have l_x0 := Nat.lt_of_lt_of_le l_x0 sw23
    have l_x1 := Nat.lt_of_lt_of_le l_x1 sw23
    have ho_r := Ow.keep ho_r (OffF.zone hoffw23 (by omega) hz_x2 (by omega))
    have ho_x0 := Ow.keep ho_x0 (OffF.zone hoffw23 (by omega) hz_x2 (by omega))
    have ho_x1 := Ow.keep ho_x1 (OffF.zone hoffw23 (by omega) hz_x2 (by omega))
    have ho_g := Ow.keep ho_g (OffF.zone hoffw23 (by omega) hz_x2 (by omega))
    have ho_x2 : Ow (w11.heap.size + 1) (w12.heap.size) w23 [x2a] (marks ((1 + 6 * f.1.length + 4 * f.2.length) + c.1.length + c.2.length) g.length) := ⟨fp_x2, hr_x2, hz_x2, hn_x2⟩
    clear hr_x2 hz_x2 hn_x2 hoffw23
    go_wp2_with fail
    refine (eqIntS_b _ _ _ X X (ho_g.rd.below (by repeat' (first | (with_reducible exact Below.refl _ _) | (with_reducible assumption) | (with_reducible refine Below.alloc ?_ (by first | omega | (simp; omega) | simp) _) | (with_reducible refine Below.setCell ?_ (by first | omega | (simp; omega) | simp) _) | (with_reducible refine Below.drew ?_) | (with_reducible refine below_drewN ?_ _)))) (ho_r.rd.below (by repeat' (first | (with_reducible exact Below.refl _ _) | (with_reducible assumption) | (with_reducible refine Below.alloc ?_ (by first | omega | (simp; omega) | simp) _) | (with_reducible refine Below.setCell ?_ (by first | omega | (simp; omega) | simp) _) | (with_reducible refine Below.drew ?_) | (with_reducible refine below_drewN ?_ _)))) true (by simp)).mono ?_
    rintro e w24 ⟨rfl, hbw24⟩
    have hpw24 : Below w23.heap.size w23 w24 := Below.after (by repeat' (first | (with_reducible exact Below.refl _ _) | (with_reducible assumption) | (with_reducible refine Below.alloc ?_ (by first | omega | (simp; omega) | simp) _) | (with_reducible refine Below.setCell ?_ (by first | omega | (simp; omega) | simp) _) | (with_reducible refine Below.drew ?_) | (with_reducible refine below_drewN ?_ _))) hbw24 (by first | omega | (simp only [World.size_alloc, World.size_setCell, World.size_drew] at *; omega) | (simp; omega) | simp)
    have sw24 := hpw24.size
    have hBw24 : Below w.heap.size w w24 := Below.trans hBw23 (Below.mono hpw24 hBw23.size)
    have q_a00 := oldc hpw24 l_a0 q_a00
    have q_a01 := oldc hpw24 l_a0 q_a01
    have q_a10 := oldc hpw24 l_a1 q_a10
    have q_a11 := oldc hpw24 l_a1 q_a11
    have q_x00 := oldc hpw24 l_x0 q_x00
    have q_x01 := oldc hpw24 l_x0 q_x01
    have q_x10 := oldc hpw24 l_x1 q_x10
    have q_x11 := oldc hpw24 l_x1 q_x11
    have l_a0 := Nat.lt_of_lt_of_le l_a0 sw24
    have l_a1 := Nat.lt_of_lt_of_le l_a1 sw24
    have l_x0 := Nat.lt_of_lt_of_le l_x0 sw24
    have l_x1 := Nat.lt_of_lt_of_le l_x1 sw24
    have ho_r := Ow.below ho_r hpw24
    have ho_x0 := Ow.below ho_x0 hpw24
    have ho_x1 := Ow.below ho_x1 hpw24
    have ho_x2 := Ow.below ho_x2 hpw24
    have ho_g := Ow.below ho_g hpw24
    clear hbw24 hpw24
    clear ho_x0
    clear ho_x1
    clear ho_x2
    obtain ⟨fp_g, hr_g, hz_g, hn_g⟩ := ho_g
    go_wp2_with fail
    refine (markIntS_any _ _ X fp_g hr_g (1) (by omega) (by omega)).mono ?_
    rintro e w25 ⟨rfl, hr_g, hoffw25⟩
    have sw25 := hoffw25.size
    have hBw25 : Below w.heap.size w w25 := Below.trans hBw24 (OffF.toBelow hoffw25 hBw24.size (fun b hb => Nat.le_trans (show w.heap.size ≤ w12.heap.size by omega) (hz_g b hb).1))
    have q_a00 := offc hoffw25 hz_g (show w.heap.size < w12.heap.size ∨ w13.heap.size ≤ w.heap.size by omega) l_a0 q_a00
    have q_a01 := offc hoffw25 hz_g (show w.heap.size < w12.heap.size ∨ w13.heap.size ≤ w.heap.size by omega) l_a0 q_a01
    have q_a10 := offc hoffw25 hz_g (show w.heap.size + 1 < w12.heap.size ∨ w13.heap.size ≤ w.heap.size + 1 by omega) l_a1 q_a10
    have q_a11 := offc hoffw25 hz_g (show w.heap.size + 1 < w12.heap.size ∨ w13.heap.size ≤ w.heap.size + 1 by omega) l_a1 q_a11
    have q_x00 := offc hoffw25 hz_g (show w10.heap.size < w12.heap.size ∨ w13.heap.size ≤ w10.heap.size by omega) l_x0 q_x00
    have q_x01 := offc hoffw25 hz_g (show w10.heap.size < w12.heap.size ∨ w13.heap.size ≤ w10.heap.size by omega) l_x0 q_x01
    have q_x10 := offc hoffw25 hz_g (show w11.heap.size < w12.heap.size ∨ w13.heap.size ≤ w11.heap.size by omega) l_x1 q_x10
    have q_x11 := offc hoffw25 hz_g (show w11.heap.size < w12.heap.size ∨ w13.heap.size ≤ w11.heap.size by omega) l_x1 q_x11
    have l_a0 := Nat.lt_of_lt_of_le l_a0 sw25
    have l_a1 := Nat.lt_of_lt_of_le l_a1 sw25
    have l_x0 := Nat.lt_of_lt_of_le l_x0 sw25
    have l_x1 := Nat.lt_of_lt_of_le l_x1 sw25
    have ho_r := Ow.keep ho_r (OffF.zone hoffw25 (by omega) hz_g (by omega))
    have ho_g : Ow (w12.heap.size) (w13.heap.size) w25 [ga] (marks 1 X.length) := ⟨fp_g, hr_g, hz_g, hn_g⟩
    clear hr_g hz_g hn_g hoffw25
    go_wp2_with fail
    refine (heldIntS_any _ _ X.length 1 ho_g.rd (by omega) (by omega)).mono ?_
    rintro e w26 ⟨rfl, hbw26⟩
    have hpw26 : Below w25.heap.size w25 w26 := Below.after (by repeat' (first | (with_reducible exact Below.refl _ _) | (with_reducible assumption) | (with_reducible refine Below.alloc ?_ (by first | omega | (simp; omega) | simp) _) | (with_reducible refine Below.setCell ?_ (by first | omega | (simp; omega) | simp) _) | (with_reducible refine Below.drew ?_) | (with_reducible refine below_drewN ?_ _))) hbw26 (by first | omega | (simp only [World.size_alloc, World.size_setCell, World.size_drew] at *; omega) | (simp; omega) | simp)
    have sw26 := hpw26.size
    have hBw26 : Below w.heap.size w w26 := Below.trans hBw25 (Below.mono hpw26 hBw25.size)
    have q_a00 := oldc hpw26 l_a0 q_a00
    have q_a01 := oldc hpw26 l_a0 q_a01
    have q_a10 := oldc hpw26 l_a1 q_a10
    have q_a11 := oldc hpw26 l_a1 q_a11
    have q_x00 := oldc hpw26 l_x0 q_x00
    have q_x01 := oldc hpw26 l_x0 q_x01
    have q_x10 := oldc hpw26 l_x1 q_x10
    have q_x11 := oldc hpw26 l_x1 q_x11
    have l_a0 := Nat.lt_of_lt_of_le l_a0 sw26
    have l_a1 := Nat.lt_of_lt_of_le l_a1 sw26
    have l_x0 := Nat.lt_of_lt_of_le l_x0 sw26
    have l_x1 := Nat.lt_of_lt_of_le l_x1 sw26
    have ho_r := Ow.below ho_r hpw26
    have ho_g := Ow.below ho_g hpw26
    clear hbw26 hpw26
    have y_h_l_a0 : w.heap.size < w26.heap.size + 1 := by omega
    have m_h_l_a0 : ¬ w.heap.size = w26.heap.size := by omega
    have n_h_l_a0 : ¬ w26.heap.size = w.heap.size := by omega
    have y_h_l_a1 : w.heap.size + 1 < w26.heap.size + 1 := by omega
    have m_h_l_a1 : ¬ w.heap.size + 1 = w26.heap.size := by omega
    have n_h_l_a1 : ¬ w26.heap.size = w.heap.size + 1 := by omega
    have y_h_l_x0 : w10.heap.size < w26.heap.size + 1 := by omega
    have m_h_l_x0 : ¬ w10.heap.size = w26.heap.size := by omega
    have n_h_l_x0 : ¬ w26.heap.size = w10.heap.size := by omega
    have y_h_l_x1 : w11.heap.size < w26.heap.size + 1 := by omega
    have m_h_l_x1 : ¬ w11.heap.size = w26.heap.size := by omega
    have n_h_l_x1 : ¬ w26.heap.size = w11.heap.size := by omega
    have z_h : w.heap.size ≤ w26.heap.size := hBw26.size
    go_upto_region 37 with fail
    go_cut [18, 19] (fun s18 s19 wx => ∃ (lo hi : Nat) (ha : Value), ha = s18 ∧ s19 = .bool V ∧ Ow lo hi wx [ha] (X) ∧ w26.heap.size ≤ lo ∧ hi ≤ wx.heap.size ∧ wx.cell? ⟨w.heap.size, 0, none⟩ = some (c0a) ∧ wx.cell? ⟨w.heap.size, 1, none⟩ = some (c0b) ∧ wx.cell? ⟨w.heap.size + 1, 0, none⟩ = some (c1a) ∧ wx.cell? ⟨w.heap.size + 1, 1, none⟩ = some (c1b) ∧ wx.cell? ⟨w10.heap.size, 0, none⟩ = some (.slice aox0 nx0 cpx0) ∧ wx.cell? ⟨w10.heap.size, 1, none⟩ = some (.slice box0 mx0 dpx0) ∧ wx.cell? ⟨w11.heap.size, 0, none⟩ = some (.slice aox1 nx1 cpx1) ∧ wx.cell? ⟨w11.heap.size, 1, none⟩ = some (.slice box1 mx1 dpx1) ∧ w.heap.size < wx.heap.size ∧ w.heap.size + 1 < wx.heap.size ∧ w10.heap.size < wx.heap.size ∧ w11.heap.size < wx.heap.size ∧ Ow (lo_r) (hi_r) wx [ra] (X) ∧ Ow (w12.heap.size) (w13.heap.size) wx [ga] (marks 1 X.length) ∧ Below w.heap.size w wx)
    case first =>
      go_region_held3 (fun w' => w'.cell? ⟨w.heap.size, 0, none⟩ = some (c0a) ∧ w'.cell? ⟨w.heap.size, 1, none⟩ = some (c0b) ∧ w'.cell? ⟨w.heap.size + 1, 0, none⟩ = some (c1a) ∧ w'.cell? ⟨w.heap.size + 1, 1, none⟩ = some (c1b)) (go_keep) (first | (go_at_call_of 16 (c0a); refine (toFamily_any _ _ _ f (h0.below (Below.drew hBw26)) (by omega) (by omega)).mono ?_; rintro e w27 ⟨t0ha, t0hb, rfl, ho_t0h, hbw27⟩; have hpw27 : Below w26.heap.size w26 w27 := Below.trans (Below.drew (Below.refl _ _)) hbw27; have sw27 := hpw27.size; have hBw27 : Below w.heap.size w w27 := Below.trans hBw26 (Below.mono hpw27 hBw26.size); have sBw27 := hBw27.size; have q_a00 := oldc hpw27 l_a0 q_a00; have q_a01 := oldc hpw27 l_a0 q_a01; have q_a10 := oldc hpw27 l_a1 q_a10; have q_a11 := oldc hpw27 l_a1 q_a11; have q_x00 := oldc hpw27 l_x0 q_x00; have q_x01 := oldc hpw27 l_x0 q_x01; have q_x10 := oldc hpw27 l_x1 q_x10; have q_x11 := oldc hpw27 l_x1 q_x11; have l_a0 := Nat.lt_of_lt_of_le l_a0 sw27; have l_a1 := Nat.lt_of_lt_of_le l_a1 sw27; have l_x0 := Nat.lt_of_lt_of_le l_x0 sw27; have l_x1 := Nat.lt_of_lt_of_le l_x1 sw27; have ho_r := Ow.below ho_r hpw27; have ho_g := Ow.below ho_g hpw27; clear hbw27 hpw27) | (go_at_call_of 47 (c1a); refine (toClasses_any _ _ _ c (h1.below hBw27) (by omega) (by omega)).mono ?_; rintro e w28 ⟨t1ha, t1hb, rfl, ho_t1h, hbw28⟩; have hpw28 : Below w27.heap.size w27 w28 := hbw28; have sw28 := hpw28.size; have hBw28 : Below w.heap.size w w28 := Below.trans hBw27 (Below.mono hpw28 hBw27.size); have sBw28 := hBw28.size; have q_a00 := oldc hpw28 l_a0 q_a00; have q_a01 := oldc hpw28 l_a0 q_a01; have q_a10 := oldc hpw28 l_a1 q_a10; have q_a11 := oldc hpw28 l_a1 q_a11; have q_x00 := oldc hpw28 l_x0 q_x00; have q_x01 := oldc hpw28 l_x0 q_x01; have q_x10 := oldc hpw28 l_x1 q_x10; have q_x11 := oldc hpw28 l_x1 q_x11; have l_a0 := Nat.lt_of_lt_of_le l_a0 sw28; have l_a1 := Nat.lt_of_lt_of_le l_a1 sw28; have l_x0 := Nat.lt_of_lt_of_le l_x0 sw28; have l_x1 := Nat.lt_of_lt_of_le l_x1 sw28; have ho_r := Ow.below ho_r hpw28; have ho_g := Ow.below ho_g hpw28; have ho_t0h := Ow.below ho_t0h hpw28; clear hbw28 hpw28) | (go_at_call_of 17 (Value.slice ao2 g.length cap2); refine (toIntS_any _ _ g (h2.below hBw28) (by omega)).mono ?_; rintro e w29 ⟨t2ha, rfl, ho_t2h, hbw29⟩; have hpw29 : Below w28.heap.size w28 w29 := hbw29; have sw29 := hpw29.size; have hBw29 : Below w.heap.size w w29 := Below.trans hBw28 (Below.mono hpw29 hBw28.size); have sBw29 := hBw29.size; have q_a00 := oldc hpw29 l_a0 q_a00; have q_a01 := oldc hpw29 l_a0 q_a01; have q_a10 := oldc hpw29 l_a1 q_a10; have q_a11 := oldc hpw29 l_a1 q_a11; have q_x00 := oldc hpw29 l_x0 q_x00; have q_x01 := oldc hpw29 l_x0 q_x01; have q_x10 := oldc hpw29 l_x1 q_x10; have q_x11 := oldc hpw29 l_x1 q_x11; have l_a0 := Nat.lt_of_lt_of_le l_a0 sw29; have l_a1 := Nat.lt_of_lt_of_le l_a1 sw29; have l_x0 := Nat.lt_of_lt_of_le l_x0 sw29; have l_x1 := Nat.lt_of_lt_of_le l_x1 sw29; have ho_r := Ow.below ho_r hpw29; have ho_g := Ow.below ho_g hpw29; have ho_t0h := Ow.below ho_t0h hpw29; have ho_t1h := Ow.below ho_t1h hpw29; clear hbw29 hpw29) | (go_at_call 52; refine (assignI_any _ _ _  _ _  _ f c g ho_t0h.rd ho_t1h.rd ho_t2h.rd (by omega) X V HXV.out).mono ?_; rintro e w30 ⟨ha, rfl, ho_h, hbw30⟩; have hpw30 : Below w29.heap.size w29 w30 := hbw30; have sw30 := hpw30.size; have hBw30 : Below w.heap.size w w30 := Below.trans hBw29 (Below.mono hpw30 hBw29.size); have sBw30 := hBw30.size; have q_a00 := oldc hpw30 l_a0 q_a00; have q_a01 := oldc hpw30 l_a0 q_a01; have q_a10 := oldc hpw30 l_a1 q_a10; have q_a11 := oldc hpw30 l_a1 q_a11; have q_x00 := oldc hpw30 l_x0 q_x00; have q_x01 := oldc hpw30 l_x0 q_x01; have q_x10 := oldc hpw30 l_x1 q_x10; have q_x11 := oldc hpw30 l_x1 q_x11; have l_a0 := Nat.lt_of_lt_of_le l_a0 sw30; have l_a1 := Nat.lt_of_lt_of_le l_a1 sw30; have l_x0 := Nat.lt_of_lt_of_le l_x0 sw30; have l_x1 := Nat.lt_of_lt_of_le l_x1 sw30; have ho_r := Ow.below ho_r hpw30; have ho_g := Ow.below ho_g hpw30; have ho_t0h := Ow.below ho_t0h hpw30; have ho_t1h := Ow.below ho_t1h hpw30; have ho_t2h := Ow.below ho_t2h hpw30; clear hbw30 hpw30; clear ho_t0h; clear ho_t1h; clear ho_t2h))
      all_goals
        go_wp2_with fail
        go_meet
      all_goals exact ⟨_, _, _, rfl, rfl, ho_h, (by omega), (Nat.le_refl _), q_a00, q_a01, q_a10, q_a11, q_x00, q_x01, q_x10, q_x11, l_a0, l_a1, l_x0, l_x1, ho_r, ho_g, hBw30⟩
    case rest =>
      obtain ⟨lo_h, hi_h, ha, rfl, rfl, ho_h, e_h, t_h, q_a00, q_a01, q_a10, q_a11, q_x00, q_x01, q_x10, q_x11, l_a0, l_a1, l_x0, l_x1, ho_r, ho_g, hBCh⟩ := hcut
      clear y_h_l_a0 m_h_l_a0 n_h_l_a0
      clear y_h_l_a1 m_h_l_a1 n_h_l_a1
      clear y_h_l_x0 m_h_l_x0 n_h_l_x0
      clear y_h_l_x1 m_h_l_x1 n_h_l_x1
      obtain ⟨wch, hwch⟩ : ∃ W : World, W = wc := ⟨_, rfl⟩
      subst hwch
      have hBwch : Below w.heap.size w wch := hBCh
      have szwch := hBwch.size
      clear hBCh
      go_wp2_with fail
      refine (eqIntS_b _ _ _ X X (ho_h.rd.below (by repeat' (first | (with_reducible exact Below.refl _ _) | (with_reducible assumption) | (with_reducible refine Below.alloc ?_ (by first | omega | (simp; omega) | simp) _) | (with_reducible refine Below.setCell ?_ (by first | omega | (simp; omega) | simp) _) | (with_reducible refine Below.drew ?_) | (with_reducible refine below_drewN ?_ _)))) (ho_r.rd.below (by repeat' (first | (with_reducible exact Below.refl _ _) | (with_reducible assumption) | (with_reducible refine Below.alloc ?_ (by first | omega | (simp; omega) | simp) _) | (with_reducible refine Below.setCell ?_ (by first | omega | (simp; omega) | simp) _) | (with_reducible refine Below.drew ?_) | (with_reducible refine below_drewN ?_ _)))) true (by simp)).mono ?_
      rintro e w31 ⟨rfl, hbw31⟩
      have hpw31 : Below wch.heap.size wch w31 := Below.after (by repeat' (first | (with_reducible exact Below.refl _ _) | (with_reducible assumption) | (with_reducible refine Below.alloc ?_ (by first | omega | (simp; omega) | simp) _) | (with_reducible refine Below.setCell ?_ (by first | omega | (simp; omega) | simp) _) | (with_reducible refine Below.drew ?_) | (with_reducible refine below_drewN ?_ _))) hbw31 (by first | omega | (simp only [World.size_alloc, World.size_setCell, World.size_drew] at *; omega) | (simp; omega) | simp)
      have sw31 := hpw31.size
      have hBw31 : Below w.heap.size w w31 := Below.trans hBwch (Below.mono hpw31 hBwch.size)
      have q_a00 := oldc hpw31 l_a0 q_a00
      have q_a01 := oldc hpw31 l_a0 q_a01
      have q_a10 := oldc hpw31 l_a1 q_a10
      have q_a11 := oldc hpw31 l_a1 q_a11
      have q_x00 := oldc hpw31 l_x0 q_x00
      have q_x01 := oldc hpw31 l_x0 q_x01
      have q_x10 := oldc hpw31 l_x1 q_x10
      have q_x11 := oldc hpw31 l_x1 q_x11
      have l_a0 := Nat.lt_of_lt_of_le l_a0 sw31
      have l_a1 := Nat.lt_of_lt_of_le l_a1 sw31
      have l_x0 := Nat.lt_of_lt_of_le l_x0 sw31
      have l_x1 := Nat.lt_of_lt_of_le l_x1 sw31
      have ho_r := Ow.below ho_r hpw31
      have ho_g := Ow.below ho_g hpw31
      have ho_h := Ow.below ho_h hpw31
      clear hbw31 hpw31
      clear ho_h
      go_wp2_with fail
      refine (heldIntS_any _ _ X.length 1 ho_g.rd (by omega) (by omega)).mono ?_
      rintro e w32 ⟨rfl, hbw32⟩
      have hpw32 : Below w31.heap.size w31 w32 := Below.after (by repeat' (first | (with_reducible exact Below.refl _ _) | (with_reducible assumption) | (with_reducible refine Below.alloc ?_ (by first | omega | (simp; omega) | simp) _) | (with_reducible refine Below.setCell ?_ (by first | omega | (simp; omega) | simp) _) | (with_reducible refine Below.drew ?_) | (with_reducible refine below_drewN ?_ _))) hbw32 (by first | omega | (simp only [World.size_alloc, World.size_setCell, World.size_drew] at *; omega) | (simp; omega) | simp)
      have sw32 := hpw32.size
      have hBw32 : Below w.heap.size w w32 := Below.trans hBw31 (Below.mono hpw32 hBw31.size)
      have q_a00 := oldc hpw32 l_a0 q_a00
      have q_a01 := oldc hpw32 l_a0 q_a01
      have q_a10 := oldc hpw32 l_a1 q_a10
      have q_a11 := oldc hpw32 l_a1 q_a11
      have q_x00 := oldc hpw32 l_x0 q_x00
      have q_x01 := oldc hpw32 l_x0 q_x01
      have q_x10 := oldc hpw32 l_x1 q_x10
      have q_x11 := oldc hpw32 l_x1 q_x11
      have l_a0 := Nat.lt_of_lt_of_le l_a0 sw32
      have l_a1 := Nat.lt_of_lt_of_le l_a1 sw32
      have l_x0 := Nat.lt_of_lt_of_le l_x0 sw32
      have l_x1 := Nat.lt_of_lt_of_le l_x1 sw32
      have ho_r := Ow.below ho_r hpw32
      have ho_g := Ow.below ho_g hpw32
      clear hbw32 hpw32
      go_wp2
      go_ret
      exact ⟨rfl, hBw32⟩
end Go.Proofs.Ytomigopkejlmcaa
