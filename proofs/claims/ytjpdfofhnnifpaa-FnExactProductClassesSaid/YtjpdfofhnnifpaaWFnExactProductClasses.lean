/- The walk of the law FnExactProductClasses. -/
import Derived.Test.YtjpdfofhnnifpaaProdI
import Derived.Test.YtjpdfofhnnifpaaProdS
namespace Go.Proofs.Ytjpdfofhnnifpaa
set_option linter.unusedVariables false
set_option linter.unusedSimpArgs false
open Go.RowKit

set_option maxRecDepth 20000 in
set_option maxHeartbeats 8000000 in
theorem walk_FnExactProductClasses (w : World) (c0a c0b : Value) (c : Cls) (h0 : Rd false 0 w.heap.size w [c0a, c0b] c) (c1a c1b : Value) (d : Cls) (h1 : Rd false 0 w.heap.size w [c1a, c1b] d) :
    Calls Try.prog 7 #[.agg #[c0a, c0b], .agg #[c1a, c1b]] w (PostB w true) := by
  by_cases hg0 : (1048576 : Int) < c.1.length + c.2.length
  · go_enter Try.func7, Try.ntmps7
    go_wp2_with fail
    refine (szClasses_any _ _ _ c (h0.below (by repeat' (first | (with_reducible exact Below.refl _ _) | (with_reducible assumption) | (with_reducible refine Below.alloc ?_ (by first | omega | (simp; omega) | simp) _) | (with_reducible refine Below.setCell ?_ (by first | omega | (simp; omega) | simp) _) | (with_reducible refine Below.drew ?_) | (with_reducible refine below_drewN ?_ _)))) _ (by omega) (by omega)).mono ?_
    rw [if_pos (by omega)]
    rintro e w1 ⟨rfl, hbw1⟩
    have hpw1 : Below w.heap.size w w1 := Below.after (by repeat' (first | (with_reducible exact Below.refl _ _) | (with_reducible assumption) | (with_reducible refine Below.alloc ?_ (by first | omega | (simp; omega) | simp) _) | (with_reducible refine Below.setCell ?_ (by first | omega | (simp; omega) | simp) _) | (with_reducible refine Below.drew ?_) | (with_reducible refine below_drewN ?_ _))) hbw1 (by first | omega | (simp only [World.size_alloc, World.size_setCell, World.size_drew] at *; omega) | (simp; omega) | simp)
    have sw1 := hpw1.size
    have hBw1 : Below w.heap.size w w1 := hpw1
    have l_a0 : w.heap.size < w1.heap.size := by have := hbw1.size; simp at this; omega
    have q_a00 : w1.cell? ⟨w.heap.size, 0, none⟩ = some (c0a) := oldc hbw1 (by first | omega | (simp; omega) | (simp; done)) (by simp [go_sem])
    have q_a01 : w1.cell? ⟨w.heap.size, 1, none⟩ = some (c0b) := oldc hbw1 (by first | omega | (simp; omega) | (simp; done)) (by simp [go_sem])
    have l_a1 : w.heap.size + 1 < w1.heap.size := by have := hbw1.size; simp at this; omega
    have q_a10 : w1.cell? ⟨w.heap.size + 1, 0, none⟩ = some (c1a) := oldc hbw1 (by first | omega | (simp; omega) | (simp; done)) (by simp [go_sem])
    have q_a11 : w1.cell? ⟨w.heap.size + 1, 1, none⟩ = some (c1b) := oldc hbw1 (by first | omega | (simp; omega) | (simp; done)) (by simp [go_sem])
    clear hbw1 hpw1
    go_wp2
    go_ret
    exact ⟨rfl, hBw1⟩
  have hq0 : ¬ ((1048576 : Int) < c.1.length + c.2.length) := hg0
  by_cases hg1 : (1048576 : Int) - c.1.length - c.2.length < d.1.length + d.2.length
  · go_enter Try.func7, Try.ntmps7
    go_wp2_with fail
    refine (szClasses_any _ _ _ c (h0.below (by repeat' (first | (with_reducible exact Below.refl _ _) | (with_reducible assumption) | (with_reducible refine Below.alloc ?_ (by first | omega | (simp; omega) | simp) _) | (with_reducible refine Below.setCell ?_ (by first | omega | (simp; omega) | simp) _) | (with_reducible refine Below.drew ?_) | (with_reducible refine below_drewN ?_ _)))) _ (by omega) (by omega)).mono ?_
    rw [if_neg (by omega)]
    rintro e w2 ⟨rfl, hbw2⟩
    have hpw2 : Below w.heap.size w w2 := Below.after (by repeat' (first | (with_reducible exact Below.refl _ _) | (with_reducible assumption) | (with_reducible refine Below.alloc ?_ (by first | omega | (simp; omega) | simp) _) | (with_reducible refine Below.setCell ?_ (by first | omega | (simp; omega) | simp) _) | (with_reducible refine Below.drew ?_) | (with_reducible refine below_drewN ?_ _))) hbw2 (by first | omega | (simp only [World.size_alloc, World.size_setCell, World.size_drew] at *; omega) | (simp; omega) | simp)
    have sw2 := hpw2.size
    have hBw2 : Below w.heap.size w w2 := hpw2
    have l_a0 : w.heap.size < w2.heap.size := by have := hbw2.size; simp at this; omega
    have q_a00 : w2.cell? ⟨w.heap.size, 0, none⟩ = some (c0a) := oldc hbw2 (by first | omega | (simp; omega) | (simp; done)) (by simp [go_sem])
    have q_a01 : w2.cell? ⟨w.heap.size, 1, none⟩ = some (c0b) := oldc hbw2 (by first | omega | (simp; omega) | (simp; done)) (by simp [go_sem])
    have l_a1 : w.heap.size + 1 < w2.heap.size := by have := hbw2.size; simp at this; omega
    have q_a10 : w2.cell? ⟨w.heap.size + 1, 0, none⟩ = some (c1a) := oldc hbw2 (by first | omega | (simp; omega) | (simp; done)) (by simp [go_sem])
    have q_a11 : w2.cell? ⟨w.heap.size + 1, 1, none⟩ = some (c1b) := oldc hbw2 (by first | omega | (simp; omega) | (simp; done)) (by simp [go_sem])
    clear hbw2 hpw2
    go_wp2_with fail
    refine (szClasses_any _ _ _ d (h1.below (by repeat' (first | (with_reducible exact Below.refl _ _) | (with_reducible assumption) | (with_reducible refine Below.alloc ?_ (by first | omega | (simp; omega) | simp) _) | (with_reducible refine Below.setCell ?_ (by first | omega | (simp; omega) | simp) _) | (with_reducible refine Below.drew ?_) | (with_reducible refine below_drewN ?_ _)))) _ (by omega) (by omega)).mono ?_
    rw [if_pos (by omega)]
    rintro e w3 ⟨rfl, hbw3⟩
    have hpw3 : Below w2.heap.size w2 w3 := Below.after (by repeat' (first | (with_reducible exact Below.refl _ _) | (with_reducible assumption) | (with_reducible refine Below.alloc ?_ (by first | omega | (simp; omega) | simp) _) | (with_reducible refine Below.setCell ?_ (by first | omega | (simp; omega) | simp) _) | (with_reducible refine Below.drew ?_) | (with_reducible refine below_drewN ?_ _))) hbw3 (by first | omega | (simp only [World.size_alloc, World.size_setCell, World.size_drew] at *; omega) | (simp; omega) | simp)
    have sw3 := hpw3.size
    have hBw3 : Below w.heap.size w w3 := Below.trans hBw2 (Below.mono hpw3 hBw2.size)
    have q_a00 := oldc hpw3 l_a0 q_a00
    have q_a01 := oldc hpw3 l_a0 q_a01
    have q_a10 := oldc hpw3 l_a1 q_a10
    have q_a11 := oldc hpw3 l_a1 q_a11
    have l_a0 := Nat.lt_of_lt_of_le l_a0 sw3
    have l_a1 := Nat.lt_of_lt_of_le l_a1 sw3
    clear hbw3 hpw3
    go_wp2
    go_ret
    exact ⟨rfl, hBw3⟩
  have hq1 : ¬ ((1048576 : Int) - c.1.length - c.2.length < d.1.length + d.2.length) := hg1
  go_enter Try.func7, Try.ntmps7
  go_wp2_with fail
  refine (szClasses_any _ _ _ c (h0.below (by repeat' (first | (with_reducible exact Below.refl _ _) | (with_reducible assumption) | (with_reducible refine Below.alloc ?_ (by first | omega | (simp; omega) | simp) _) | (with_reducible refine Below.setCell ?_ (by first | omega | (simp; omega) | simp) _) | (with_reducible refine Below.drew ?_) | (with_reducible refine below_drewN ?_ _)))) _ (by omega) (by omega)).mono ?_
  rw [if_neg (by omega)]
  rintro e w4 ⟨rfl, hbw4⟩
  have hpw4 : Below w.heap.size w w4 := Below.after (by repeat' (first | (with_reducible exact Below.refl _ _) | (with_reducible assumption) | (with_reducible refine Below.alloc ?_ (by first | omega | (simp; omega) | simp) _) | (with_reducible refine Below.setCell ?_ (by first | omega | (simp; omega) | simp) _) | (with_reducible refine Below.drew ?_) | (with_reducible refine below_drewN ?_ _))) hbw4 (by first | omega | (simp only [World.size_alloc, World.size_setCell, World.size_drew] at *; omega) | (simp; omega) | simp)
  have sw4 := hpw4.size
  have hBw4 : Below w.heap.size w w4 := hpw4
  have l_a0 : w.heap.size < w4.heap.size := by have := hbw4.size; simp at this; omega
  have q_a00 : w4.cell? ⟨w.heap.size, 0, none⟩ = some (c0a) := oldc hbw4 (by first | omega | (simp; omega) | (simp; done)) (by simp [go_sem])
  have q_a01 : w4.cell? ⟨w.heap.size, 1, none⟩ = some (c0b) := oldc hbw4 (by first | omega | (simp; omega) | (simp; done)) (by simp [go_sem])
  have l_a1 : w.heap.size + 1 < w4.heap.size := by have := hbw4.size; simp at this; omega
  have q_a10 : w4.cell? ⟨w.heap.size + 1, 0, none⟩ = some (c1a) := oldc hbw4 (by first | omega | (simp; omega) | (simp; done)) (by simp [go_sem])
  have q_a11 : w4.cell? ⟨w.heap.size + 1, 1, none⟩ = some (c1b) := oldc hbw4 (by first | omega | (simp; omega) | (simp; done)) (by simp [go_sem])
  clear hbw4 hpw4
  go_wp2_with fail
  refine (szClasses_any _ _ _ d (h1.below (by repeat' (first | (with_reducible exact Below.refl _ _) | (with_reducible assumption) | (with_reducible refine Below.alloc ?_ (by first | omega | (simp; omega) | simp) _) | (with_reducible refine Below.setCell ?_ (by first | omega | (simp; omega) | simp) _) | (with_reducible refine Below.drew ?_) | (with_reducible refine below_drewN ?_ _)))) _ (by omega) (by omega)).mono ?_
  rw [if_neg (by omega)]
  rintro e w5 ⟨rfl, hbw5⟩
  have hpw5 : Below w4.heap.size w4 w5 := Below.after (by repeat' (first | (with_reducible exact Below.refl _ _) | (with_reducible assumption) | (with_reducible refine Below.alloc ?_ (by first | omega | (simp; omega) | simp) _) | (with_reducible refine Below.setCell ?_ (by first | omega | (simp; omega) | simp) _) | (with_reducible refine Below.drew ?_) | (with_reducible refine below_drewN ?_ _))) hbw5 (by first | omega | (simp only [World.size_alloc, World.size_setCell, World.size_drew] at *; omega) | (simp; omega) | simp)
  have sw5 := hpw5.size
  have hBw5 : Below w.heap.size w w5 := Below.trans hBw4 (Below.mono hpw5 hBw4.size)
  have q_a00 := oldc hpw5 l_a0 q_a00
  have q_a01 := oldc hpw5 l_a0 q_a01
  have q_a10 := oldc hpw5 l_a1 q_a10
  have q_a11 := oldc hpw5 l_a1 q_a11
  have l_a0 := Nat.lt_of_lt_of_le l_a0 sw5
  have l_a1 := Nat.lt_of_lt_of_le l_a1 sw5
  clear hbw5 hpw5
  have y_r_l_a0 : w.heap.size < w5.heap.size + 1 := by omega
  have m_r_l_a0 : ¬ w.heap.size = w5.heap.size := by omega
  have n_r_l_a0 : ¬ w5.heap.size = w.heap.size := by omega
  have y_r_l_a1 : w.heap.size + 1 < w5.heap.size + 1 := by omega
  have m_r_l_a1 : ¬ w.heap.size + 1 = w5.heap.size := by omega
  have n_r_l_a1 : ¬ w5.heap.size = w.heap.size + 1 := by omega
  have z_r : w.heap.size ≤ w5.heap.size := hBw5.size
  go_upto_region 8 with fail
  go_cut [6, 7] (fun s6 s7 wx => ∃ (gb lo hi : Nat) (ra rb : Value), s6 = .pointer (some ⟨gb, 0, none⟩) ∧ s7 = .bool (prodV c d) ∧ wx.cell? ⟨gb, 0, none⟩ = some ra ∧ wx.cell? ⟨gb, 1, none⟩ = some rb ∧ gb < wx.heap.size ∧ (gb < lo ∨ hi ≤ gb) ∧ w5.heap.size ≤ gb ∧ Ow lo hi wx [ra, rb] ((prodC c d)) ∧ w5.heap.size ≤ lo ∧ hi ≤ wx.heap.size ∧ wx.cell? ⟨w.heap.size, 0, none⟩ = some (c0a) ∧ wx.cell? ⟨w.heap.size, 1, none⟩ = some (c0b) ∧ wx.cell? ⟨w.heap.size + 1, 0, none⟩ = some (c1a) ∧ wx.cell? ⟨w.heap.size + 1, 1, none⟩ = some (c1b) ∧ w.heap.size < wx.heap.size ∧ w.heap.size + 1 < wx.heap.size ∧ Below w.heap.size w wx)
  case first =>
    go_region_held3 (fun w' => w'.cell? ⟨w.heap.size, 0, none⟩ = some (c0a) ∧ w'.cell? ⟨w.heap.size, 1, none⟩ = some (c0b) ∧ w'.cell? ⟨w.heap.size + 1, 0, none⟩ = some (c1a) ∧ w'.cell? ⟨w.heap.size + 1, 1, none⟩ = some (c1b)) (go_keep) (first | (go_at_call_of 17 (c0a); refine (toClasses_any _ _ _ c (h0.below (by repeat' (first | (with_reducible exact Below.refl _ _) | (with_reducible assumption) | (with_reducible refine Below.alloc ?_ (by first | omega | (simp; omega) | simp) _) | (with_reducible refine Below.setCell ?_ (by first | omega | (simp; omega) | simp) _) | (with_reducible refine Below.drew ?_) | (with_reducible refine below_drewN ?_ _)))) (by omega) (by omega)).mono ?_; rintro e w6 ⟨t0ra, t0rb, rfl, ho_t0r, hbw6⟩; (try simp only [World.size_alloc, World.size_drew] at ho_t0r); have hBw6 : Below w.heap.size w w6 := Below.after (by repeat' (first | (with_reducible exact Below.refl _ _) | (with_reducible assumption) | (with_reducible refine Below.alloc ?_ (by first | omega | (simp; omega) | simp) _) | (with_reducible refine Below.setCell ?_ (by first | omega | (simp; omega) | simp) _) | (with_reducible refine Below.drew ?_) | (with_reducible refine below_drewN ?_ _))) hbw6 (by first | omega | (simp; omega)); have sw6 := hbw6.size; obtain ⟨hcw6, hfw6⟩ := bcell hbw6; (try simp only [World.size_alloc, World.size_drew, World.size_setCell] at sw6 hcw6 hfw6); have lw6l_a0 : w.heap.size < w6.heap.size := (by omega); have mw6l_a0 : w.heap.size < w6.heap.size + 1 := (by omega); have nw6l_a0 : ¬ w.heap.size = w6.heap.size := (by omega); have ow6l_a0 : ¬ w6.heap.size = w.heap.size := (by omega); have lw6l_a1 : w.heap.size + 1 < w6.heap.size := (by omega); have mw6l_a1 : w.heap.size + 1 < w6.heap.size + 1 := (by omega); have nw6l_a1 : ¬ w.heap.size + 1 = w6.heap.size := (by omega); have ow6l_a1 : ¬ w6.heap.size = w.heap.size + 1 := (by omega); (first | (have ho_t1r := Ow.below ho_t1r (Below.after (by repeat' (first | (with_reducible exact Below.refl _ _) | (with_reducible assumption) | (with_reducible refine Below.alloc ?_ (by first | omega | (simp; omega) | simp) _) | (with_reducible refine Below.setCell ?_ (by first | omega | (simp; omega) | simp) _) | (with_reducible refine Below.drew ?_) | (with_reducible refine below_drewN ?_ _))) hbw6 (by first | omega | (simp; omega) | simp))) | skip); (first | (have kw6 : w5.heap.size < w6.heap.size := (by omega)) | skip); (first | (have kkw6 : w5.heap.size ≤ w6.heap.size := (by omega)) | skip)) | (go_at_call_of 17 (c1a); refine (toClasses_any _ _ _ d (h1.below (by repeat' (first | (with_reducible exact Below.refl _ _) | (with_reducible assumption) | (with_reducible refine Below.alloc ?_ (by first | omega | (simp; omega) | simp) _) | (with_reducible refine Below.setCell ?_ (by first | omega | (simp; omega) | simp) _) | (with_reducible refine Below.drew ?_) | (with_reducible refine below_drewN ?_ _)))) (by omega) (by omega)).mono ?_; rintro e w7 ⟨t1ra, t1rb, rfl, ho_t1r, hbw7⟩; (try simp only [World.size_alloc, World.size_drew] at ho_t1r); have hBw7 : Below w.heap.size w w7 := Below.after (by repeat' (first | (with_reducible exact Below.refl _ _) | (with_reducible assumption) | (with_reducible refine Below.alloc ?_ (by first | omega | (simp; omega) | simp) _) | (with_reducible refine Below.setCell ?_ (by first | omega | (simp; omega) | simp) _) | (with_reducible refine Below.drew ?_) | (with_reducible refine below_drewN ?_ _))) hbw7 (by first | omega | (simp; omega)); have sw7 := hbw7.size; obtain ⟨hcw7, hfw7⟩ := bcell hbw7; (try simp only [World.size_alloc, World.size_drew, World.size_setCell] at sw7 hcw7 hfw7); have lw7l_a0 : w.heap.size < w7.heap.size := (by omega); have mw7l_a0 : w.heap.size < w7.heap.size + 1 := (by omega); have nw7l_a0 : ¬ w.heap.size = w7.heap.size := (by omega); have ow7l_a0 : ¬ w7.heap.size = w.heap.size := (by omega); have lw7l_a1 : w.heap.size + 1 < w7.heap.size := (by omega); have mw7l_a1 : w.heap.size + 1 < w7.heap.size + 1 := (by omega); have nw7l_a1 : ¬ w.heap.size + 1 = w7.heap.size := (by omega); have ow7l_a1 : ¬ w7.heap.size = w.heap.size + 1 := (by omega); (first | (have ho_t0r := Ow.below ho_t0r (Below.after (by repeat' (first | (with_reducible exact Below.refl _ _) | (with_reducible assumption) | (with_reducible refine Below.alloc ?_ (by first | omega | (simp; omega) | simp) _) | (with_reducible refine Below.setCell ?_ (by first | omega | (simp; omega) | simp) _) | (with_reducible refine Below.drew ?_) | (with_reducible refine below_drewN ?_ _))) hbw7 (by first | omega | (simp; omega) | simp))) | skip); (first | (have gw7x0 : w6.heap.size < w7.heap.size := (by omega)) | skip); (first | (have kw7 : w5.heap.size < w7.heap.size := (by omega)) | skip); (first | (have kkw7 : w5.heap.size ≤ w7.heap.size := (by omega)) | skip)) | (go_at_call 34; refine (prodS_any _ _ _  _ _ c d (ho_t0r.rd.below (by repeat' (first | (with_reducible exact Below.refl _ _) | (with_reducible assumption) | (with_reducible refine Below.alloc ?_ (by first | omega | (simp; omega) | simp) _) | (with_reducible refine Below.setCell ?_ (by first | omega | (simp; omega) | simp) _) | (with_reducible refine Below.drew ?_) | (with_reducible refine below_drewN ?_ _)))) (ho_t1r.rd.below (by repeat' (first | (with_reducible exact Below.refl _ _) | (with_reducible assumption) | (with_reducible refine Below.alloc ?_ (by first | omega | (simp; omega) | simp) _) | (with_reducible refine Below.setCell ?_ (by first | omega | (simp; omega) | simp) _) | (with_reducible refine Below.drew ?_) | (with_reducible refine below_drewN ?_ _)))) (by omega) (by omega)).mono ?_; rintro e w8 ⟨ra, rb, rfl, ho_r, hbw8⟩; (try simp only [World.size_alloc, World.size_drew] at ho_r); have hBw8 : Below w.heap.size w w8 := Below.after (by repeat' (first | (with_reducible exact Below.refl _ _) | (with_reducible assumption) | (with_reducible refine Below.alloc ?_ (by first | omega | (simp; omega) | simp) _) | (with_reducible refine Below.setCell ?_ (by first | omega | (simp; omega) | simp) _) | (with_reducible refine Below.drew ?_) | (with_reducible refine below_drewN ?_ _))) hbw8 (by first | omega | (simp; omega)); have sw8 := hbw8.size; obtain ⟨hcw8, hfw8⟩ := bcell hbw8; (try simp only [World.size_alloc, World.size_drew, World.size_setCell] at sw8 hcw8 hfw8); have lw8l_a0 : w.heap.size < w8.heap.size := (by omega); have mw8l_a0 : w.heap.size < w8.heap.size + 1 := (by omega); have nw8l_a0 : ¬ w.heap.size = w8.heap.size := (by omega); have ow8l_a0 : ¬ w8.heap.size = w.heap.size := (by omega); have lw8l_a1 : w.heap.size + 1 < w8.heap.size := (by omega); have mw8l_a1 : w.heap.size + 1 < w8.heap.size + 1 := (by omega); have nw8l_a1 : ¬ w.heap.size + 1 = w8.heap.size := (by omega); have ow8l_a1 : ¬ w8.heap.size = w.heap.size + 1 := (by omega); (first | (have gw8x0 : w6.heap.size < w8.heap.size := (by omega)) | skip); (first | (have gw8x1 : w7.heap.size < w8.heap.size := (by omega)) | skip); (first | (have kw8 : w5.heap.size < w8.heap.size := (by omega)) | skip); (first | (have kkw8 : w5.heap.size ≤ w8.heap.size := (by omega)) | skip); obtain ⟨aor, nr, cpr, bor, mr, dpr, rfl, rfl⟩ := shapeCls ho_r.rd))
    all_goals
      go_wp2_with fail
      go_meet
    all_goals exact ⟨_, _, _, _, _, rfl, rfl, by simp [go_sem, *], by simp [go_sem, *], (by first | omega | (simp; omega) | simp), (by first | omega | (simp; omega) | simp), (by first | omega | (simp; omega) | simp), Ow.keep ho_r (by repeat' (first | (with_reducible exact Zone.refl _ _ _) | (with_reducible refine Zone.setCell ?_ (Or.inl (by first | omega | (simp; omega) | simp)) _) | (with_reducible refine Zone.alloc ?_ (by first | omega | (simp; omega) | simp) _) | (with_reducible refine Zone.drew ?_))), (by first | omega | (simp; omega) | simp), (by first | omega | (simp; omega) | simp), by simp [go_sem, *], by simp [go_sem, *], by simp [go_sem, *], by simp [go_sem, *], (by first | omega | (simp; omega) | simp), (by first | omega | (simp; omega) | simp), (by repeat' (first | (with_reducible exact Below.refl _ _) | (with_reducible assumption) | (with_reducible refine Below.alloc ?_ (by first | omega | (simp; omega) | simp) _) | (with_reducible refine Below.setCell ?_ (by first | omega | (simp; omega) | simp) _) | (with_reducible refine Below.drew ?_) | (with_reducible refine below_drewN ?_ _)))⟩
  case rest =>
    obtain ⟨g_r, lo_r, hi_r, ra, rb, rfl, rfl, q_r0, q_r1, l_r, d_r, f_r, ho_r, e_r, t_r, q_a00, q_a01, q_a10, q_a11, l_a0, l_a1, hBCr⟩ := hcut
    clear y_r_l_a0 m_r_l_a0 n_r_l_a0
    clear y_r_l_a1 m_r_l_a1 n_r_l_a1
    obtain ⟨wcr, hwcr⟩ : ∃ W : World, W = wc := ⟨_, rfl⟩
    subst hwcr
    have hBwcr : Below w.heap.size w wcr := hBCr
    have szwcr := hBwcr.size
    clear hBCr
    obtain ⟨aor, nr, cpr, bor, mr, dpr, rfl, rfl⟩ := shapeCls ho_r.rd
    go_wp2_with fail
    refine (toClasses_any _ _ _ c (h0.below (by repeat' (first | (with_reducible exact Below.refl _ _) | (with_reducible assumption) | (with_reducible refine Below.alloc ?_ (by first | omega | (simp; omega) | simp) _) | (with_reducible refine Below.setCell ?_ (by first | omega | (simp; omega) | simp) _) | (with_reducible refine Below.drew ?_) | (with_reducible refine below_drewN ?_ _)))) (by omega) (by omega)).mono ?_
    rintro e w9 ⟨x0a, x0b, rfl, ho_x0, hbw9⟩
    have hpw9 : Below wcr.heap.size wcr w9 := Below.after (by repeat' (first | (with_reducible exact Below.refl _ _) | (with_reducible assumption) | (with_reducible refine Below.alloc ?_ (by first | omega | (simp; omega) | simp) _) | (with_reducible refine Below.setCell ?_ (by first | omega | (simp; omega) | simp) _) | (with_reducible refine Below.drew ?_) | (with_reducible refine below_drewN ?_ _))) hbw9 (by first | omega | (simp only [World.size_alloc, World.size_setCell, World.size_drew] at *; omega) | (simp; omega) | simp)
    have sw9 := hpw9.size
    have hBw9 : Below w.heap.size w w9 := Below.trans hBwcr (Below.mono hpw9 hBwcr.size)
    have q_a00 := oldc hpw9 l_a0 q_a00
    have q_a01 := oldc hpw9 l_a0 q_a01
    have q_a10 := oldc hpw9 l_a1 q_a10
    have q_a11 := oldc hpw9 l_a1 q_a11
    have q_r0 := oldc hpw9 l_r q_r0
    have q_r1 := oldc hpw9 l_r q_r1
    have l_a0 := Nat.lt_of_lt_of_le l_a0 sw9
    have l_a1 := Nat.lt_of_lt_of_le l_a1 sw9
    have l_r := Nat.lt_of_lt_of_le l_r sw9
    have ho_r := Ow.below ho_r hpw9
    clear hbw9 hpw9
    obtain ⟨aox0, nx0, cpx0, box0, mx0, dpx0, rfl, rfl⟩ := shapeCls ho_x0.rd
    go_wp2_with fail
    refine (toClasses_any _ _ _ d (h1.below (by repeat' (first | (with_reducible exact Below.refl _ _) | (with_reducible assumption) | (with_reducible refine Below.alloc ?_ (by first | omega | (simp; omega) | simp) _) | (with_reducible refine Below.setCell ?_ (by first | omega | (simp; omega) | simp) _) | (with_reducible refine Below.drew ?_) | (with_reducible refine below_drewN ?_ _)))) (by omega) (by omega)).mono ?_
    rintro e w10 ⟨x1a, x1b, rfl, ho_x1, hbw10⟩
    simp only [World.size_alloc] at ho_x1
    have hpw10 : Below w9.heap.size w9 w10 := Below.after (by repeat' (first | (with_reducible exact Below.refl _ _) | (with_reducible assumption) | (with_reducible refine Below.alloc ?_ (by first | omega | (simp; omega) | simp) _) | (with_reducible refine Below.setCell ?_ (by first | omega | (simp; omega) | simp) _) | (with_reducible refine Below.drew ?_) | (with_reducible refine below_drewN ?_ _))) hbw10 (by first | omega | (simp only [World.size_alloc, World.size_setCell, World.size_drew] at *; omega) | (simp; omega) | simp)
    have sw10 := hpw10.size
    have hBw10 : Below w.heap.size w w10 := Below.trans hBw9 (Below.mono hpw10 hBw9.size)
    have q_a00 := oldc hpw10 l_a0 q_a00
    have q_a01 := oldc hpw10 l_a0 q_a01
    have q_a10 := oldc hpw10 l_a1 q_a10
    have q_a11 := oldc hpw10 l_a1 q_a11
    have q_r0 := oldc hpw10 l_r q_r0
    have q_r1 := oldc hpw10 l_r q_r1
    have l_a0 := Nat.lt_of_lt_of_le l_a0 sw10
    have l_a1 := Nat.lt_of_lt_of_le l_a1 sw10
    have l_r := Nat.lt_of_lt_of_le l_r sw10
    have l_x0 : w9.heap.size < w10.heap.size := by have := hbw10.size; simp at this; omega
    have q_x00 : w10.cell? ⟨w9.heap.size, 0, none⟩ = some (.slice aox0 nx0 cpx0) := oldc hbw10 (by first | omega | (simp; omega) | (simp; done)) (by simp [go_sem])
    have q_x01 : w10.cell? ⟨w9.heap.size, 1, none⟩ = some (.slice box0 mx0 dpx0) := oldc hbw10 (by first | omega | (simp; omega) | (simp; done)) (by simp [go_sem])
    have ho_r := Ow.below ho_r hpw10
    have ho_x0 := Ow.below ho_x0 hpw10
    clear hbw10 hpw10
    obtain ⟨aox1, nx1, cpx1, box1, mx1, dpx1, rfl, rfl⟩ := shapeCls ho_x1.rd
    go_wp2_with fail
    refine (prodI_any _ _ _  _ _ c d (ho_x0.rd.below (by repeat' (first | (with_reducible exact Below.refl _ _) | (with_reducible assumption) | (with_reducible refine Below.alloc ?_ (by first | omega | (simp; omega) | simp) _) | (with_reducible refine Below.setCell ?_ (by first | omega | (simp; omega) | simp) _) | (with_reducible refine Below.drew ?_) | (with_reducible refine below_drewN ?_ _)))) (ho_x1.rd.below (by repeat' (first | (with_reducible exact Below.refl _ _) | (with_reducible assumption) | (with_reducible refine Below.alloc ?_ (by first | omega | (simp; omega) | simp) _) | (with_reducible refine Below.setCell ?_ (by first | omega | (simp; omega) | simp) _) | (with_reducible refine Below.drew ?_) | (with_reducible refine below_drewN ?_ _))))).mono ?_
    rintro e w11 ⟨ga, gb, rfl, ho_g, hbw11⟩
    simp only [World.size_alloc] at ho_g
    have hpw11 : Below w10.heap.size w10 w11 := Below.after (by repeat' (first | (with_reducible exact Below.refl _ _) | (with_reducible assumption) | (with_reducible refine Below.alloc ?_ (by first | omega | (simp; omega) | simp) _) | (with_reducible refine Below.setCell ?_ (by first | omega | (simp; omega) | simp) _) | (with_reducible refine Below.drew ?_) | (with_reducible refine below_drewN ?_ _))) hbw11 (by first | omega | (simp only [World.size_alloc, World.size_setCell, World.size_drew] at *; omega) | (simp; omega) | simp)
    have sw11 := hpw11.size
    have hBw11 : Below w.heap.size w w11 := Below.trans hBw10 (Below.mono hpw11 hBw10.size)
    have q_a00 := oldc hpw11 l_a0 q_a00
    have q_a01 := oldc hpw11 l_a0 q_a01
    have q_a10 := oldc hpw11 l_a1 q_a10
    have q_a11 := oldc hpw11 l_a1 q_a11
    have q_r0 := oldc hpw11 l_r q_r0
    have q_r1 := oldc hpw11 l_r q_r1
    have q_x00 := oldc hpw11 l_x0 q_x00
    have q_x01 := oldc hpw11 l_x0 q_x01
    have l_a0 := Nat.lt_of_lt_of_le l_a0 sw11
    have l_a1 := Nat.lt_of_lt_of_le l_a1 sw11
    have l_r := Nat.lt_of_lt_of_le l_r sw11
    have l_x0 := Nat.lt_of_lt_of_le l_x0 sw11
    have l_x1 : w10.heap.size < w11.heap.size := by have := hbw11.size; simp at this; omega
    have q_x10 : w11.cell? ⟨w10.heap.size, 0, none⟩ = some (.slice aox1 nx1 cpx1) := oldc hbw11 (by first | omega | (simp; omega) | (simp; done)) (by simp [go_sem])
    have q_x11 : w11.cell? ⟨w10.heap.size, 1, none⟩ = some (.slice box1 mx1 dpx1) := oldc hbw11 (by first | omega | (simp; omega) | (simp; done)) (by simp [go_sem])
    have ho_r := Ow.below ho_r hpw11
    have ho_x0 := Ow.below ho_x0 hpw11
    have ho_x1 := Ow.below ho_x1 hpw11
    clear hbw11 hpw11
    obtain ⟨aog, ng, cpg, bog, mg, dpg, rfl, rfl⟩ := shapeCls ho_g.rd
    go_wp2_with fail
    refine (eqClasses_b _ _ _ _ _ (prodC c d) (prodC c d) (ho_g.rd.below (by repeat' (first | (with_reducible exact Below.refl _ _) | (with_reducible assumption) | (with_reducible refine Below.alloc ?_ (by first | omega | (simp; omega) | simp) _) | (with_reducible refine Below.setCell ?_ (by first | omega | (simp; omega) | simp) _) | (with_reducible refine Below.drew ?_) | (with_reducible refine below_drewN ?_ _)))) (ho_r.rd.below (by repeat' (first | (with_reducible exact Below.refl _ _) | (with_reducible assumption) | (with_reducible refine Below.alloc ?_ (by first | omega | (simp; omega) | simp) _) | (with_reducible refine Below.setCell ?_ (by first | omega | (simp; omega) | simp) _) | (with_reducible refine Below.drew ?_) | (with_reducible refine below_drewN ?_ _)))) true (by simp)).mono ?_
    rintro e w12 ⟨rfl, hbw12⟩
    have hpw12 : Below w11.heap.size w11 w12 := Below.after (by repeat' (first | (with_reducible exact Below.refl _ _) | (with_reducible assumption) | (with_reducible refine Below.alloc ?_ (by first | omega | (simp; omega) | simp) _) | (with_reducible refine Below.setCell ?_ (by first | omega | (simp; omega) | simp) _) | (with_reducible refine Below.drew ?_) | (with_reducible refine below_drewN ?_ _))) hbw12 (by first | omega | (simp only [World.size_alloc, World.size_setCell, World.size_drew] at *; omega) | (simp; omega) | simp)
    have sw12 := hpw12.size
    have hBw12 : Below w.heap.size w w12 := Below.trans hBw11 (Below.mono hpw12 hBw11.size)
    have q_a00 := oldc hpw12 l_a0 q_a00
    have q_a01 := oldc hpw12 l_a0 q_a01
    have q_a10 := oldc hpw12 l_a1 q_a10
    have q_a11 := oldc hpw12 l_a1 q_a11
    have q_r0 := oldc hpw12 l_r q_r0
    have q_r1 := oldc hpw12 l_r q_r1
    have q_x00 := oldc hpw12 l_x0 q_x00
    have q_x01 := oldc hpw12 l_x0 q_x01
    have q_x10 := oldc hpw12 l_x1 q_x10
    have q_x11 := oldc hpw12 l_x1 q_x11
    have l_a0 := Nat.lt_of_lt_of_le l_a0 sw12
    have l_a1 := Nat.lt_of_lt_of_le l_a1 sw12
    have l_r := Nat.lt_of_lt_of_le l_r sw12
    have l_x0 := Nat.lt_of_lt_of_le l_x0 sw12
    have l_x1 := Nat.lt_of_lt_of_le l_x1 sw12
    have l_g : w11.heap.size < w12.heap.size := by have := hbw12.size; simp at this; omega
    have q_g0 : w12.cell? ⟨w11.heap.size, 0, none⟩ = some (.slice aog ng cpg) := oldc hbw12 (by first | omega | (simp; omega) | (simp; done)) (by simp [go_sem])
    have q_g1 : w12.cell? ⟨w11.heap.size, 1, none⟩ = some (.slice bog mg dpg) := oldc hbw12 (by first | omega | (simp; omega) | (simp; done)) (by simp [go_sem])
    have ho_r := Ow.below ho_r hpw12
    have ho_x0 := Ow.below ho_x0 hpw12
    have ho_x1 := Ow.below ho_x1 hpw12
    have ho_g := Ow.below ho_g hpw12
    clear hbw12 hpw12
    go_wp2_with fail
    go_region_held3 (fun w' => w'.cell? ⟨w.heap.size, 0, none⟩ = some (c0a) ∧ w'.cell? ⟨w.heap.size, 1, none⟩ = some (c0b) ∧ w'.cell? ⟨w9.heap.size, 0, none⟩ = some (.slice aox0 nx0 cpx0) ∧ w'.cell? ⟨w9.heap.size, 1, none⟩ = some (.slice box0 mx0 dpx0)) (go_keep) (first | (go_at_call 17; refine (toClasses_any _ _ _ c (h0.below (Below.drew hBw12)) (by omega) (by omega)).mono ?_; rintro e w13 ⟨y0a, y0b, rfl, ho_y0, hbw13⟩; have hpw13 : Below w12.heap.size w12 w13 := Below.trans (Below.drew (Below.refl _ _)) hbw13; have sw13 := hpw13.size; have hBw13 : Below w.heap.size w w13 := Below.trans hBw12 (Below.mono hpw13 hBw12.size); have q_a00 := oldc hpw13 l_a0 q_a00; have q_a01 := oldc hpw13 l_a0 q_a01; have q_a10 := oldc hpw13 l_a1 q_a10; have q_a11 := oldc hpw13 l_a1 q_a11; have q_r0 := oldc hpw13 l_r q_r0; have q_r1 := oldc hpw13 l_r q_r1; have q_x00 := oldc hpw13 l_x0 q_x00; have q_x01 := oldc hpw13 l_x0 q_x01; have q_x10 := oldc hpw13 l_x1 q_x10; have q_x11 := oldc hpw13 l_x1 q_x11; have q_g0 := oldc hpw13 l_g q_g0; have q_g1 := oldc hpw13 l_g q_g1; have l_a0 := Nat.lt_of_lt_of_le l_a0 sw13; have l_a1 := Nat.lt_of_lt_of_le l_a1 sw13; have l_g := Nat.lt_of_lt_of_le l_g sw13; have l_r := Nat.lt_of_lt_of_le l_r sw13; have l_x0 := Nat.lt_of_lt_of_le l_x0 sw13; have l_x1 := Nat.lt_of_lt_of_le l_x1 sw13; have ho_r := Ow.below ho_r hpw13; have ho_x0 := Ow.below ho_x0 hpw13; have ho_x1 := Ow.below ho_x1 hpw13; have ho_g := Ow.below ho_g hpw13; clear hbw13 hpw13) | (go_at_call 19; refine (eqClasses_b _ _ _ _ _ c c ho_x0.rd ho_y0.rd true (by simp)).mono ?_; rintro e w14 ⟨rfl, hbw14⟩; have sw14 := hbw14.size; have hBw14 : Below w.heap.size w w14 := Below.trans hBw13 (Below.mono hbw14 hBw13.size); have q_a00 := oldc hbw14 l_a0 q_a00; have q_a01 := oldc hbw14 l_a0 q_a01; have q_a10 := oldc hbw14 l_a1 q_a10; have q_a11 := oldc hbw14 l_a1 q_a11; have q_r0 := oldc hbw14 l_r q_r0; have q_r1 := oldc hbw14 l_r q_r1; have q_x00 := oldc hbw14 l_x0 q_x00; have q_x01 := oldc hbw14 l_x0 q_x01; have q_x10 := oldc hbw14 l_x1 q_x10; have q_x11 := oldc hbw14 l_x1 q_x11; have q_g0 := oldc hbw14 l_g q_g0; have q_g1 := oldc hbw14 l_g q_g1; have l_a0 := Nat.lt_of_lt_of_le l_a0 sw14; have l_a1 := Nat.lt_of_lt_of_le l_a1 sw14; have l_g := Nat.lt_of_lt_of_le l_g sw14; have l_r := Nat.lt_of_lt_of_le l_r sw14; have l_x0 := Nat.lt_of_lt_of_le l_x0 sw14; have l_x1 := Nat.lt_of_lt_of_le l_x1 sw14; have ho_r := Ow.below ho_r hbw14; have ho_x0 := Ow.below ho_x0 hbw14; have ho_x1 := Ow.below ho_x1 hbw14; have ho_g := Ow.below ho_g hbw14; clear hbw14 ho_y0))
    go_wp2_with fail
    go_region_held3 (fun w' => w'.cell? ⟨w.heap.size + 1, 0, none⟩ = some (c1a) ∧ w'.cell? ⟨w.heap.size + 1, 1, none⟩ = some (c1b) ∧ w'.cell? ⟨w10.heap.size, 0, none⟩ = some (.slice aox1 nx1 cpx1) ∧ w'.cell? ⟨w10.heap.size, 1, none⟩ = some (.slice box1 mx1 dpx1)) (go_keep) (first | (go_at_call 17; refine (toClasses_any _ _ _ d (h1.below (Below.drew hBw14)) (by omega) (by omega)).mono ?_; rintro e w15 ⟨y1a, y1b, rfl, ho_y1, hbw15⟩; have hpw15 : Below w14.heap.size w14 w15 := Below.trans (Below.drew (Below.refl _ _)) hbw15; have sw15 := hpw15.size; have hBw15 : Below w.heap.size w w15 := Below.trans hBw14 (Below.mono hpw15 hBw14.size); have q_a00 := oldc hpw15 l_a0 q_a00; have q_a01 := oldc hpw15 l_a0 q_a01; have q_a10 := oldc hpw15 l_a1 q_a10; have q_a11 := oldc hpw15 l_a1 q_a11; have q_r0 := oldc hpw15 l_r q_r0; have q_r1 := oldc hpw15 l_r q_r1; have q_x00 := oldc hpw15 l_x0 q_x00; have q_x01 := oldc hpw15 l_x0 q_x01; have q_x10 := oldc hpw15 l_x1 q_x10; have q_x11 := oldc hpw15 l_x1 q_x11; have q_g0 := oldc hpw15 l_g q_g0; have q_g1 := oldc hpw15 l_g q_g1; have l_a0 := Nat.lt_of_lt_of_le l_a0 sw15; have l_a1 := Nat.lt_of_lt_of_le l_a1 sw15; have l_g := Nat.lt_of_lt_of_le l_g sw15; have l_r := Nat.lt_of_lt_of_le l_r sw15; have l_x0 := Nat.lt_of_lt_of_le l_x0 sw15; have l_x1 := Nat.lt_of_lt_of_le l_x1 sw15; have ho_r := Ow.below ho_r hpw15; have ho_x0 := Ow.below ho_x0 hpw15; have ho_x1 := Ow.below ho_x1 hpw15; have ho_g := Ow.below ho_g hpw15; clear hbw15 hpw15) | (go_at_call 19; refine (eqClasses_b _ _ _ _ _ d d ho_x1.rd ho_y1.rd true (by simp)).mono ?_; rintro e w16 ⟨rfl, hbw16⟩; have sw16 := hbw16.size; have hBw16 : Below w.heap.size w w16 := Below.trans hBw15 (Below.mono hbw16 hBw15.size); have q_a00 := oldc hbw16 l_a0 q_a00; have q_a01 := oldc hbw16 l_a0 q_a01; have q_a10 := oldc hbw16 l_a1 q_a10; have q_a11 := oldc hbw16 l_a1 q_a11; have q_r0 := oldc hbw16 l_r q_r0; have q_r1 := oldc hbw16 l_r q_r1; have q_x00 := oldc hbw16 l_x0 q_x00; have q_x01 := oldc hbw16 l_x0 q_x01; have q_x10 := oldc hbw16 l_x1 q_x10; have q_x11 := oldc hbw16 l_x1 q_x11; have q_g0 := oldc hbw16 l_g q_g0; have q_g1 := oldc hbw16 l_g q_g1; have l_a0 := Nat.lt_of_lt_of_le l_a0 sw16; have l_a1 := Nat.lt_of_lt_of_le l_a1 sw16; have l_g := Nat.lt_of_lt_of_le l_g sw16; have l_r := Nat.lt_of_lt_of_le l_r sw16; have l_x0 := Nat.lt_of_lt_of_le l_x0 sw16; have l_x1 := Nat.lt_of_lt_of_le l_x1 sw16; have ho_r := Ow.below ho_r hbw16; have ho_x0 := Ow.below ho_x0 hbw16; have ho_x1 := Ow.below ho_x1 hbw16; have ho_g := Ow.below ho_g hbw16; clear hbw16 ho_y1))
    obtain ⟨hres1, hres2⟩ := prodC_len c d
    obtain ⟨fp_x0, hr_x0, hz_x0, hn_x0⟩ := ho_x0
    go_wp2_with fail
    refine (markClasses_any _ _ _ c fp_x0 hr_x0 hn_x0 (1) (by omega) (by omega)).mono ?_
    rintro e w17 ⟨rfl, hr_x0, hoffw17⟩
    have sw17 := hoffw17.size
    have hBw17 : Below w.heap.size w w17 := Below.trans hBw16 (OffF.toBelow hoffw17 hBw16.size (fun b hb => Nat.le_trans (show w.heap.size ≤ wcr.heap.size by omega) (hz_x0 b hb).1))
    have q_a00 := offc hoffw17 hz_x0 (show w.heap.size < wcr.heap.size ∨ w9.heap.size ≤ w.heap.size by omega) l_a0 q_a00
    have q_a01 := offc hoffw17 hz_x0 (show w.heap.size < wcr.heap.size ∨ w9.heap.size ≤ w.heap.size by omega) l_a0 q_a01
    have q_a10 := offc hoffw17 hz_x0 (show w.heap.size + 1 < wcr.heap.size ∨ w9.heap.size ≤ w.heap.size + 1 by omega) l_a1 q_a10
    have q_a11 := offc hoffw17 hz_x0 (show w.heap.size + 1 < wcr.heap.size ∨ w9.heap.size ≤ w.heap.size + 1 by omega) l_a1 q_a11
    have q_r0 := offc hoffw17 hz_x0 (show g_r < wcr.heap.size ∨ w9.heap.size ≤ g_r by omega) l_r q_r0
    have q_r1 := offc hoffw17 hz_x0 (show g_r < wcr.heap.size ∨ w9.heap.size ≤ g_r by omega) l_r q_r1
    have q_x00 := offc hoffw17 hz_x0 (show w9.heap.size < wcr.heap.size ∨ w9.heap.size ≤ w9.heap.size by omega) l_x0 q_x00
    have q_x01 := offc hoffw17 hz_x0 (show w9.heap.size < wcr.heap.size ∨ w9.heap.size ≤ w9.heap.size by omega) l_x0 q_x01
    have q_x10 := offc hoffw17 hz_x0 (show w10.heap.size < wcr.heap.size ∨ w9.heap.size ≤ w10.heap.size by omega) l_x1 q_x10
    have q_x11 := offc hoffw17 hz_x0 (show w10.heap.size < wcr.heap.size ∨ w9.heap.size ≤ w10.heap.size by omega) l_x1 q_x11
    have q_g0 := offc hoffw17 hz_x0 (show w11.heap.size < wcr.heap.size ∨ w9.heap.size ≤ w11.heap.size by omega) l_g q_g0
    have q_g1 := offc hoffw17 hz_x0 (show w11.heap.size < wcr.heap.size ∨ w9.heap.size ≤ w11.heap.size by omega) l_g q_g1
    have l_a0 := Nat.lt_of_lt_of_le l_a0 sw17
    have l_a1 := Nat.lt_of_lt_of_le l_a1 sw17
    have l_g := Nat.lt_of_lt_of_le l_g sw17
    have l_r := Nat.lt_of_lt_of_le l_r sw17
    have l_x0 := Nat.lt_of_lt_of_le l_x0 sw17
    have l_x1 := Nat.lt_of_lt_of_le l_x1 sw17
    have ho_r := Ow.keep ho_r (OffF.zone hoffw17 (by omega) hz_x0 (by omega))
    have ho_x1 := Ow.keep ho_x1 (OffF.zone hoffw17 (by omega) hz_x0 (by omega))
    have ho_g := Ow.keep ho_g (OffF.zone hoffw17 (by omega) hz_x0 (by omega))
    have ho_x0 : Ow (wcr.heap.size) (w9.heap.size) w17 [.slice aox0 nx0 cpx0, .slice box0 mx0 dpx0] (((marks 1 c.1.length, marks (1 + c.1.length) c.2.length) : Cls)) := ⟨fp_x0, hr_x0, hz_x0, hn_x0⟩
    clear hr_x0 hz_x0 hn_x0 hoffw17
    obtain ⟨fp_x1, hr_x1, hz_x1, hn_x1⟩ := ho_x1
    go_wp2_with fail
    refine (markClasses_any _ _ _ d fp_x1 hr_x1 hn_x1 ((1 + c.1.length + c.2.length)) (by omega) (by omega)).mono ?_
    rintro e w18 ⟨rfl, hr_x1, hoffw18⟩
    have sw18 := hoffw18.size
    have hBw18 : Below w.heap.size w w18 := Below.trans hBw17 (OffF.toBelow hoffw18 hBw17.size (fun b hb => Nat.le_trans (show w.heap.size ≤ w9.heap.size + 1 by omega) (hz_x1 b hb).1))
    have q_a00 := offc hoffw18 hz_x1 (show w.heap.size < w9.heap.size + 1 ∨ w10.heap.size ≤ w.heap.size by omega) l_a0 q_a00
    have q_a01 := offc hoffw18 hz_x1 (show w.heap.size < w9.heap.size + 1 ∨ w10.heap.size ≤ w.heap.size by omega) l_a0 q_a01
    have q_a10 := offc hoffw18 hz_x1 (show w.heap.size + 1 < w9.heap.size + 1 ∨ w10.heap.size ≤ w.heap.size + 1 by omega) l_a1 q_a10
    have q_a11 := offc hoffw18 hz_x1 (show w.heap.size + 1 < w9.heap.size + 1 ∨ w10.heap.size ≤ w.heap.size + 1 by omega) l_a1 q_a11
    have q_r0 := offc hoffw18 hz_x1 (show g_r < w9.heap.size + 1 ∨ w10.heap.size ≤ g_r by omega) l_r q_r0
    have q_r1 := offc hoffw18 hz_x1 (show g_r < w9.heap.size + 1 ∨ w10.heap.size ≤ g_r by omega) l_r q_r1
    have q_x00 := offc hoffw18 hz_x1 (show w9.heap.size < w9.heap.size + 1 ∨ w10.heap.size ≤ w9.heap.size by omega) l_x0 q_x00
    have q_x01 := offc hoffw18 hz_x1 (show w9.heap.size < w9.heap.size + 1 ∨ w10.heap.size ≤ w9.heap.size by omega) l_x0 q_x01
    have q_x10 := offc hoffw18 hz_x1 (show w10.heap.size < w9.heap.size + 1 ∨ w10.heap.size ≤ w10.heap.size by omega) l_x1 q_x10
    have q_x11 := offc hoffw18 hz_x1 (show w10.heap.size < w9.heap.size + 1 ∨ w10.heap.size ≤ w10.heap.size by omega) l_x1 q_x11
    have q_g0 := offc hoffw18 hz_x1 (show w11.heap.size < w9.heap.size + 1 ∨ w10.heap.size ≤ w11.heap.size by omega) l_g q_g0
    have q_g1 := offc hoffw18 hz_x1 (show w11.heap.size < w9.heap.size + 1 ∨ w10.heap.size ≤ w11.heap.size by omega) l_g q_g1
    have l_a0 := Nat.lt_of_lt_of_le l_a0 sw18
    have l_a1 := Nat.lt_of_lt_of_le l_a1 sw18
    have l_g := Nat.lt_of_lt_of_le l_g sw18
    have l_r := Nat.lt_of_lt_of_le l_r sw18
    have l_x0 := Nat.lt_of_lt_of_le l_x0 sw18
    have l_x1 := Nat.lt_of_lt_of_le l_x1 sw18
    have ho_r := Ow.keep ho_r (OffF.zone hoffw18 (by omega) hz_x1 (by omega))
    have ho_x0 := Ow.keep ho_x0 (OffF.zone hoffw18 (by omega) hz_x1 (by omega))
    have ho_g := Ow.keep ho_g (OffF.zone hoffw18 (by omega) hz_x1 (by omega))
    have ho_x1 : Ow (w9.heap.size + 1) (w10.heap.size) w18 [.slice aox1 nx1 cpx1, .slice box1 mx1 dpx1] (((marks (1 + c.1.length + c.2.length) d.1.length, marks ((1 + c.1.length + c.2.length) + d.1.length) d.2.length) : Cls)) := ⟨fp_x1, hr_x1, hz_x1, hn_x1⟩
    clear hr_x1 hz_x1 hn_x1 hoffw18
    go_wp2_with fail
    refine (eqClasses_b _ _ _ _ _ (prodC c d) (prodC c d) (ho_g.rd.below (by repeat' (first | (with_reducible exact Below.refl _ _) | (with_reducible assumption) | (with_reducible refine Below.alloc ?_ (by first | omega | (simp; omega) | simp) _) | (with_reducible refine Below.setCell ?_ (by first | omega | (simp; omega) | simp) _) | (with_reducible refine Below.drew ?_) | (with_reducible refine below_drewN ?_ _)))) (ho_r.rd.below (by repeat' (first | (with_reducible exact Below.refl _ _) | (with_reducible assumption) | (with_reducible refine Below.alloc ?_ (by first | omega | (simp; omega) | simp) _) | (with_reducible refine Below.setCell ?_ (by first | omega | (simp; omega) | simp) _) | (with_reducible refine Below.drew ?_) | (with_reducible refine below_drewN ?_ _)))) true (by simp)).mono ?_
    rintro e w19 ⟨rfl, hbw19⟩
    have hpw19 : Below w18.heap.size w18 w19 := Below.after (by repeat' (first | (with_reducible exact Below.refl _ _) | (with_reducible assumption) | (with_reducible refine Below.alloc ?_ (by first | omega | (simp; omega) | simp) _) | (with_reducible refine Below.setCell ?_ (by first | omega | (simp; omega) | simp) _) | (with_reducible refine Below.drew ?_) | (with_reducible refine below_drewN ?_ _))) hbw19 (by first | omega | (simp only [World.size_alloc, World.size_setCell, World.size_drew] at *; omega) | (simp; omega) | simp)
    have sw19 := hpw19.size
    have hBw19 : Below w.heap.size w w19 := Below.trans hBw18 (Below.mono hpw19 hBw18.size)
    have q_a00 := oldc hpw19 l_a0 q_a00
    have q_a01 := oldc hpw19 l_a0 q_a01
    have q_a10 := oldc hpw19 l_a1 q_a10
    have q_a11 := oldc hpw19 l_a1 q_a11
    have q_r0 := oldc hpw19 l_r q_r0
    have q_r1 := oldc hpw19 l_r q_r1
    have q_x00 := oldc hpw19 l_x0 q_x00
    have q_x01 := oldc hpw19 l_x0 q_x01
    have q_x10 := oldc hpw19 l_x1 q_x10
    have q_x11 := oldc hpw19 l_x1 q_x11
    have q_g0 := oldc hpw19 l_g q_g0
    have q_g1 := oldc hpw19 l_g q_g1
    have l_a0 := Nat.lt_of_lt_of_le l_a0 sw19
    have l_a1 := Nat.lt_of_lt_of_le l_a1 sw19
    have l_g := Nat.lt_of_lt_of_le l_g sw19
    have l_r := Nat.lt_of_lt_of_le l_r sw19
    have l_x0 := Nat.lt_of_lt_of_le l_x0 sw19
    have l_x1 := Nat.lt_of_lt_of_le l_x1 sw19
    have ho_r := Ow.below ho_r hpw19
    have ho_x0 := Ow.below ho_x0 hpw19
    have ho_x1 := Ow.below ho_x1 hpw19
    have ho_g := Ow.below ho_g hpw19
    clear hbw19 hpw19
    clear ho_x0
    clear ho_x1
    obtain ⟨fp_g, hr_g, hz_g, hn_g⟩ := ho_g
    go_wp2_with fail
    refine (markClasses_any _ _ _ (prodC c d) fp_g hr_g hn_g (1) (by omega) (by omega)).mono ?_
    rintro e w20 ⟨rfl, hr_g, hoffw20⟩
    have sw20 := hoffw20.size
    have hBw20 : Below w.heap.size w w20 := Below.trans hBw19 (OffF.toBelow hoffw20 hBw19.size (fun b hb => Nat.le_trans (show w.heap.size ≤ w10.heap.size + 1 by omega) (hz_g b hb).1))
    have q_a00 := offc hoffw20 hz_g (show w.heap.size < w10.heap.size + 1 ∨ w11.heap.size ≤ w.heap.size by omega) l_a0 q_a00
    have q_a01 := offc hoffw20 hz_g (show w.heap.size < w10.heap.size + 1 ∨ w11.heap.size ≤ w.heap.size by omega) l_a0 q_a01
    have q_a10 := offc hoffw20 hz_g (show w.heap.size + 1 < w10.heap.size + 1 ∨ w11.heap.size ≤ w.heap.size + 1 by omega) l_a1 q_a10
    have q_a11 := offc hoffw20 hz_g (show w.heap.size + 1 < w10.heap.size + 1 ∨ w11.heap.size ≤ w.heap.size + 1 by omega) l_a1 q_a11
    have q_r0 := offc hoffw20 hz_g (show g_r < w10.heap.size + 1 ∨ w11.heap.size ≤ g_r by omega) l_r q_r0
    have q_r1 := offc hoffw20 hz_g (show g_r < w10.heap.size + 1 ∨ w11.heap.size ≤ g_r by omega) l_r q_r1
    have q_x00 := offc hoffw20 hz_g (show w9.heap.size < w10.heap.size + 1 ∨ w11.heap.size ≤ w9.heap.size by omega) l_x0 q_x00
    have q_x01 := offc hoffw20 hz_g (show w9.heap.size < w10.heap.size + 1 ∨ w11.heap.size ≤ w9.heap.size by omega) l_x0 q_x01
    have q_x10 := offc hoffw20 hz_g (show w10.heap.size < w10.heap.size + 1 ∨ w11.heap.size ≤ w10.heap.size by omega) l_x1 q_x10
    have q_x11 := offc hoffw20 hz_g (show w10.heap.size < w10.heap.size + 1 ∨ w11.heap.size ≤ w10.heap.size by omega) l_x1 q_x11
    have q_g0 := offc hoffw20 hz_g (show w11.heap.size < w10.heap.size + 1 ∨ w11.heap.size ≤ w11.heap.size by omega) l_g q_g0
    have q_g1 := offc hoffw20 hz_g (show w11.heap.size < w10.heap.size + 1 ∨ w11.heap.size ≤ w11.heap.size by omega) l_g q_g1
    have l_a0 := Nat.lt_of_lt_of_le l_a0 sw20
    have l_a1 := Nat.lt_of_lt_of_le l_a1 sw20
    have l_g := Nat.lt_of_lt_of_le l_g sw20
    have l_r := Nat.lt_of_lt_of_le l_r sw20
    have l_x0 := Nat.lt_of_lt_of_le l_x0 sw20
    have l_x1 := Nat.lt_of_lt_of_le l_x1 sw20
    have ho_r := Ow.keep ho_r (OffF.zone hoffw20 (by omega) hz_g (by omega))
    have ho_g : Ow (w10.heap.size + 1) (w11.heap.size) w20 [.slice aog ng cpg, .slice bog mg dpg] (((marks 1 (prodC c d).1.length, marks (1 + (prodC c d).1.length) (prodC c d).2.length) : Cls)) := ⟨fp_g, hr_g, hz_g, hn_g⟩
    clear hr_g hz_g hn_g hoffw20
    go_wp2_with fail
    refine (heldClasses_any _ _ _ (prodC c d).1.length (prodC c d).2.length 1 ho_g.rd (by omega) (by omega)).mono ?_
    rintro e w21 ⟨rfl, hbw21⟩
    have hpw21 : Below w20.heap.size w20 w21 := Below.after (by repeat' (first | (with_reducible exact Below.refl _ _) | (with_reducible assumption) | (with_reducible refine Below.alloc ?_ (by first | omega | (simp; omega) | simp) _) | (with_reducible refine Below.setCell ?_ (by first | omega | (simp; omega) | simp) _) | (with_reducible refine Below.drew ?_) | (with_reducible refine below_drewN ?_ _))) hbw21 (by first | omega | (simp only [World.size_alloc, World.size_setCell, World.size_drew] at *; omega) | (simp; omega) | simp)
    have sw21 := hpw21.size
    have hBw21 : Below w.heap.size w w21 := Below.trans hBw20 (Below.mono hpw21 hBw20.size)
    have q_a00 := oldc hpw21 l_a0 q_a00
    have q_a01 := oldc hpw21 l_a0 q_a01
    have q_a10 := oldc hpw21 l_a1 q_a10
    have q_a11 := oldc hpw21 l_a1 q_a11
    have q_r0 := oldc hpw21 l_r q_r0
    have q_r1 := oldc hpw21 l_r q_r1
    have q_x00 := oldc hpw21 l_x0 q_x00
    have q_x01 := oldc hpw21 l_x0 q_x01
    have q_x10 := oldc hpw21 l_x1 q_x10
    have q_x11 := oldc hpw21 l_x1 q_x11
    have q_g0 := oldc hpw21 l_g q_g0
    have q_g1 := oldc hpw21 l_g q_g1
    have l_a0 := Nat.lt_of_lt_of_le l_a0 sw21
    have l_a1 := Nat.lt_of_lt_of_le l_a1 sw21
    have l_g := Nat.lt_of_lt_of_le l_g sw21
    have l_r := Nat.lt_of_lt_of_le l_r sw21
    have l_x0 := Nat.lt_of_lt_of_le l_x0 sw21
    have l_x1 := Nat.lt_of_lt_of_le l_x1 sw21
    have ho_r := Ow.below ho_r hpw21
    have ho_g := Ow.below ho_g hpw21
    clear hbw21 hpw21
    have y_h_l_a0 : w.heap.size < w21.heap.size + 1 := by omega
    have m_h_l_a0 : ¬ w.heap.size = w21.heap.size := by omega
    have n_h_l_a0 : ¬ w21.heap.size = w.heap.size := by omega
    have y_h_l_a1 : w.heap.size + 1 < w21.heap.size + 1 := by omega
    have m_h_l_a1 : ¬ w.heap.size + 1 = w21.heap.size := by omega
    have n_h_l_a1 : ¬ w21.heap.size = w.heap.size + 1 := by omega
    have y_h_l_r : g_r < w21.heap.size + 1 := by omega
    have m_h_l_r : ¬ g_r = w21.heap.size := by omega
    have n_h_l_r : ¬ w21.heap.size = g_r := by omega
    have y_h_l_x0 : w9.heap.size < w21.heap.size + 1 := by omega
    have m_h_l_x0 : ¬ w9.heap.size = w21.heap.size := by omega
    have n_h_l_x0 : ¬ w21.heap.size = w9.heap.size := by omega
    have y_h_l_x1 : w10.heap.size < w21.heap.size + 1 := by omega
    have m_h_l_x1 : ¬ w10.heap.size = w21.heap.size := by omega
    have n_h_l_x1 : ¬ w21.heap.size = w10.heap.size := by omega
    have y_h_l_g : w11.heap.size < w21.heap.size + 1 := by omega
    have m_h_l_g : ¬ w11.heap.size = w21.heap.size := by omega
    have n_h_l_g : ¬ w21.heap.size = w11.heap.size := by omega
    have z_h : w.heap.size ≤ w21.heap.size := hBw21.size
    go_upto_region 31 with fail
    go_cut [15, 16] (fun s15 s16 wx => ∃ (gb lo hi : Nat) (ha hb : Value), s15 = .pointer (some ⟨gb, 0, none⟩) ∧ s16 = .bool (prodV c d) ∧ wx.cell? ⟨gb, 0, none⟩ = some ha ∧ wx.cell? ⟨gb, 1, none⟩ = some hb ∧ gb < wx.heap.size ∧ (gb < lo ∨ hi ≤ gb) ∧ w21.heap.size ≤ gb ∧ Ow lo hi wx [ha, hb] ((prodC c d)) ∧ w21.heap.size ≤ lo ∧ hi ≤ wx.heap.size ∧ wx.cell? ⟨w.heap.size, 0, none⟩ = some (c0a) ∧ wx.cell? ⟨w.heap.size, 1, none⟩ = some (c0b) ∧ wx.cell? ⟨w.heap.size + 1, 0, none⟩ = some (c1a) ∧ wx.cell? ⟨w.heap.size + 1, 1, none⟩ = some (c1b) ∧ wx.cell? ⟨g_r, 0, none⟩ = some (.slice aor nr cpr) ∧ wx.cell? ⟨g_r, 1, none⟩ = some (.slice bor mr dpr) ∧ wx.cell? ⟨w9.heap.size, 0, none⟩ = some (.slice aox0 nx0 cpx0) ∧ wx.cell? ⟨w9.heap.size, 1, none⟩ = some (.slice box0 mx0 dpx0) ∧ wx.cell? ⟨w10.heap.size, 0, none⟩ = some (.slice aox1 nx1 cpx1) ∧ wx.cell? ⟨w10.heap.size, 1, none⟩ = some (.slice box1 mx1 dpx1) ∧ wx.cell? ⟨w11.heap.size, 0, none⟩ = some (.slice aog ng cpg) ∧ wx.cell? ⟨w11.heap.size, 1, none⟩ = some (.slice bog mg dpg) ∧ w.heap.size < wx.heap.size ∧ w.heap.size + 1 < wx.heap.size ∧ g_r < wx.heap.size ∧ w9.heap.size < wx.heap.size ∧ w10.heap.size < wx.heap.size ∧ w11.heap.size < wx.heap.size ∧ Ow (lo_r) (hi_r) wx [.slice aor nr cpr, .slice bor mr dpr] ((prodC c d)) ∧ Ow (w10.heap.size + 1) (w11.heap.size) wx [.slice aog ng cpg, .slice bog mg dpg] (((marks 1 (prodC c d).1.length, marks (1 + (prodC c d).1.length) (prodC c d).2.length) : Cls)) ∧ Below w.heap.size w wx)
    case first =>
      go_region_held3 (fun w' => w'.cell? ⟨w.heap.size, 0, none⟩ = some (c0a) ∧ w'.cell? ⟨w.heap.size, 1, none⟩ = some (c0b) ∧ w'.cell? ⟨w.heap.size + 1, 0, none⟩ = some (c1a) ∧ w'.cell? ⟨w.heap.size + 1, 1, none⟩ = some (c1b)) (go_keep) (first | (go_at_call_of 17 (c0a); refine (toClasses_any _ _ _ c (h0.below (by repeat' (first | (with_reducible exact Below.refl _ _) | (with_reducible assumption) | (with_reducible refine Below.alloc ?_ (by first | omega | (simp; omega) | simp) _) | (with_reducible refine Below.setCell ?_ (by first | omega | (simp; omega) | simp) _) | (with_reducible refine Below.drew ?_) | (with_reducible refine below_drewN ?_ _)))) (by omega) (by omega)).mono ?_; rintro e w22 ⟨t0ha, t0hb, rfl, ho_t0h, hbw22⟩; (try simp only [World.size_alloc, World.size_drew] at ho_t0h); have hBw22 : Below w.heap.size w w22 := Below.after (by repeat' (first | (with_reducible exact Below.refl _ _) | (with_reducible assumption) | (with_reducible refine Below.alloc ?_ (by first | omega | (simp; omega) | simp) _) | (with_reducible refine Below.setCell ?_ (by first | omega | (simp; omega) | simp) _) | (with_reducible refine Below.drew ?_) | (with_reducible refine below_drewN ?_ _))) hbw22 (by first | omega | (simp; omega)); have sw22 := hbw22.size; obtain ⟨hcw22, hfw22⟩ := bcell hbw22; (try simp only [World.size_alloc, World.size_drew, World.size_setCell] at sw22 hcw22 hfw22); have lw22l_a0 : w.heap.size < w22.heap.size := (by omega); have mw22l_a0 : w.heap.size < w22.heap.size + 1 := (by omega); have nw22l_a0 : ¬ w.heap.size = w22.heap.size := (by omega); have ow22l_a0 : ¬ w22.heap.size = w.heap.size := (by omega); have lw22l_a1 : w.heap.size + 1 < w22.heap.size := (by omega); have mw22l_a1 : w.heap.size + 1 < w22.heap.size + 1 := (by omega); have nw22l_a1 : ¬ w.heap.size + 1 = w22.heap.size := (by omega); have ow22l_a1 : ¬ w22.heap.size = w.heap.size + 1 := (by omega); have lw22l_r : g_r < w22.heap.size := (by omega); have mw22l_r : g_r < w22.heap.size + 1 := (by omega); have nw22l_r : ¬ g_r = w22.heap.size := (by omega); have ow22l_r : ¬ w22.heap.size = g_r := (by omega); have lw22l_x0 : w9.heap.size < w22.heap.size := (by omega); have mw22l_x0 : w9.heap.size < w22.heap.size + 1 := (by omega); have nw22l_x0 : ¬ w9.heap.size = w22.heap.size := (by omega); have ow22l_x0 : ¬ w22.heap.size = w9.heap.size := (by omega); have lw22l_x1 : w10.heap.size < w22.heap.size := (by omega); have mw22l_x1 : w10.heap.size < w22.heap.size + 1 := (by omega); have nw22l_x1 : ¬ w10.heap.size = w22.heap.size := (by omega); have ow22l_x1 : ¬ w22.heap.size = w10.heap.size := (by omega); have lw22l_g : w11.heap.size < w22.heap.size := (by omega); have mw22l_g : w11.heap.size < w22.heap.size + 1 := (by omega); have nw22l_g : ¬ w11.heap.size = w22.heap.size := (by omega); have ow22l_g : ¬ w22.heap.size = w11.heap.size := (by omega); (first | (have ho_t1h := Ow.below ho_t1h (Below.after (by repeat' (first | (with_reducible exact Below.refl _ _) | (with_reducible assumption) | (with_reducible refine Below.alloc ?_ (by first | omega | (simp; omega) | simp) _) | (with_reducible refine Below.setCell ?_ (by first | omega | (simp; omega) | simp) _) | (with_reducible refine Below.drew ?_) | (with_reducible refine below_drewN ?_ _))) hbw22 (by first | omega | (simp; omega) | simp))) | skip); (first | (have ho_r := Ow.below ho_r (Below.after (by repeat' (first | (with_reducible exact Below.refl _ _) | (with_reducible assumption) | (with_reducible refine Below.alloc ?_ (by first | omega | (simp; omega) | simp) _) | (with_reducible refine Below.setCell ?_ (by first | omega | (simp; omega) | simp) _) | (with_reducible refine Below.drew ?_) | (with_reducible refine below_drewN ?_ _))) hbw22 (by first | omega | (simp; omega) | simp))) | skip); (first | (have ho_g := Ow.below ho_g (Below.after (by repeat' (first | (with_reducible exact Below.refl _ _) | (with_reducible assumption) | (with_reducible refine Below.alloc ?_ (by first | omega | (simp; omega) | simp) _) | (with_reducible refine Below.setCell ?_ (by first | omega | (simp; omega) | simp) _) | (with_reducible refine Below.drew ?_) | (with_reducible refine below_drewN ?_ _))) hbw22 (by first | omega | (simp; omega) | simp))) | skip); (first | (have kw22 : w21.heap.size < w22.heap.size := (by omega)) | skip); (first | (have kkw22 : w21.heap.size ≤ w22.heap.size := (by omega)) | skip)) | (go_at_call_of 17 (c1a); refine (toClasses_any _ _ _ d (h1.below (by repeat' (first | (with_reducible exact Below.refl _ _) | (with_reducible assumption) | (with_reducible refine Below.alloc ?_ (by first | omega | (simp; omega) | simp) _) | (with_reducible refine Below.setCell ?_ (by first | omega | (simp; omega) | simp) _) | (with_reducible refine Below.drew ?_) | (with_reducible refine below_drewN ?_ _)))) (by omega) (by omega)).mono ?_; rintro e w23 ⟨t1ha, t1hb, rfl, ho_t1h, hbw23⟩; (try simp only [World.size_alloc, World.size_drew] at ho_t1h); have hBw23 : Below w.heap.size w w23 := Below.after (by repeat' (first | (with_reducible exact Below.refl _ _) | (with_reducible assumption) | (with_reducible refine Below.alloc ?_ (by first | omega | (simp; omega) | simp) _) | (with_reducible refine Below.setCell ?_ (by first | omega | (simp; omega) | simp) _) | (with_reducible refine Below.drew ?_) | (with_reducible refine below_drewN ?_ _))) hbw23 (by first | omega | (simp; omega)); have sw23 := hbw23.size; obtain ⟨hcw23, hfw23⟩ := bcell hbw23; (try simp only [World.size_alloc, World.size_drew, World.size_setCell] at sw23 hcw23 hfw23); have lw23l_a0 : w.heap.size < w23.heap.size := (by omega); have mw23l_a0 : w.heap.size < w23.heap.size + 1 := (by omega); have nw23l_a0 : ¬ w.heap.size = w23.heap.size := (by omega); have ow23l_a0 : ¬ w23.heap.size = w.heap.size := (by omega); have lw23l_a1 : w.heap.size + 1 < w23.heap.size := (by omega); have mw23l_a1 : w.heap.size + 1 < w23.heap.size + 1 := (by omega); have nw23l_a1 : ¬ w.heap.size + 1 = w23.heap.size := (by omega); have ow23l_a1 : ¬ w23.heap.size = w.heap.size + 1 := (by omega); have lw23l_r : g_r < w23.heap.size := (by omega); have mw23l_r : g_r < w23.heap.size + 1 := (by omega); have nw23l_r : ¬ g_r = w23.heap.size := (by omega); have ow23l_r : ¬ w23.heap.size = g_r := (by omega); have lw23l_x0 : w9.heap.size < w23.heap.size := (by omega); have mw23l_x0 : w9.heap.size < w23.heap.size + 1 := (by omega); have nw23l_x0 : ¬ w9.heap.size = w23.heap.size := (by omega); have ow23l_x0 : ¬ w23.heap.size = w9.heap.size := (by omega); have lw23l_x1 : w10.heap.size < w23.heap.size := (by omega); have mw23l_x1 : w10.heap.size < w23.heap.size + 1 := (by omega); have nw23l_x1 : ¬ w10.heap.size = w23.heap.size := (by omega); have ow23l_x1 : ¬ w23.heap.size = w10.heap.size := (by omega); have lw23l_g : w11.heap.size < w23.heap.size := (by omega); have mw23l_g : w11.heap.size < w23.heap.size + 1 := (by omega); have nw23l_g : ¬ w11.heap.size = w23.heap.size := (by omega); have ow23l_g : ¬ w23.heap.size = w11.heap.size := (by omega); (first | (have ho_t0h := Ow.below ho_t0h (Below.after (by repeat' (first | (with_reducible exact Below.refl _ _) | (with_reducible assumption) | (with_reducible refine Below.alloc ?_ (by first | omega | (simp; omega) | simp) _) | (with_reducible refine Below.setCell ?_ (by first | omega | (simp; omega) | simp) _) | (with_reducible refine Below.drew ?_) | (with_reducible refine below_drewN ?_ _))) hbw23 (by first | omega | (simp; omega) | simp))) | skip); (first | (have ho_r := Ow.below ho_r (Below.after (by repeat' (first | (with_reducible exact Below.refl _ _) | (with_reducible assumption) | (with_reducible refine Below.alloc ?_ (by first | omega | (simp; omega) | simp) _) | (with_reducible refine Below.setCell ?_ (by first | omega | (simp; omega) | simp) _) | (with_reducible refine Below.drew ?_) | (with_reducible refine below_drewN ?_ _))) hbw23 (by first | omega | (simp; omega) | simp))) | skip); (first | (have ho_g := Ow.below ho_g (Below.after (by repeat' (first | (with_reducible exact Below.refl _ _) | (with_reducible assumption) | (with_reducible refine Below.alloc ?_ (by first | omega | (simp; omega) | simp) _) | (with_reducible refine Below.setCell ?_ (by first | omega | (simp; omega) | simp) _) | (with_reducible refine Below.drew ?_) | (with_reducible refine below_drewN ?_ _))) hbw23 (by first | omega | (simp; omega) | simp))) | skip); (first | (have gw23x0 : w22.heap.size < w23.heap.size := (by omega)) | skip); (first | (have kw23 : w21.heap.size < w23.heap.size := (by omega)) | skip); (first | (have kkw23 : w21.heap.size ≤ w23.heap.size := (by omega)) | skip)) | (go_at_call 35; refine (prodI_any _ _ _  _ _ c d (ho_t0h.rd.below (by repeat' (first | (with_reducible exact Below.refl _ _) | (with_reducible assumption) | (with_reducible refine Below.alloc ?_ (by first | omega | (simp; omega) | simp) _) | (with_reducible refine Below.setCell ?_ (by first | omega | (simp; omega) | simp) _) | (with_reducible refine Below.drew ?_) | (with_reducible refine below_drewN ?_ _)))) (ho_t1h.rd.below (by repeat' (first | (with_reducible exact Below.refl _ _) | (with_reducible assumption) | (with_reducible refine Below.alloc ?_ (by first | omega | (simp; omega) | simp) _) | (with_reducible refine Below.setCell ?_ (by first | omega | (simp; omega) | simp) _) | (with_reducible refine Below.drew ?_) | (with_reducible refine below_drewN ?_ _))))).mono ?_; rintro e w24 ⟨ha, hb, rfl, ho_h, hbw24⟩; (try simp only [World.size_alloc, World.size_drew] at ho_h); have hBw24 : Below w.heap.size w w24 := Below.after (by repeat' (first | (with_reducible exact Below.refl _ _) | (with_reducible assumption) | (with_reducible refine Below.alloc ?_ (by first | omega | (simp; omega) | simp) _) | (with_reducible refine Below.setCell ?_ (by first | omega | (simp; omega) | simp) _) | (with_reducible refine Below.drew ?_) | (with_reducible refine below_drewN ?_ _))) hbw24 (by first | omega | (simp; omega)); have sw24 := hbw24.size; obtain ⟨hcw24, hfw24⟩ := bcell hbw24; (try simp only [World.size_alloc, World.size_drew, World.size_setCell] at sw24 hcw24 hfw24); have lw24l_a0 : w.heap.size < w24.heap.size := (by omega); have mw24l_a0 : w.heap.size < w24.heap.size + 1 := (by omega); have nw24l_a0 : ¬ w.heap.size = w24.heap.size := (by omega); have ow24l_a0 : ¬ w24.heap.size = w.heap.size := (by omega); have lw24l_a1 : w.heap.size + 1 < w24.heap.size := (by omega); have mw24l_a1 : w.heap.size + 1 < w24.heap.size + 1 := (by omega); have nw24l_a1 : ¬ w.heap.size + 1 = w24.heap.size := (by omega); have ow24l_a1 : ¬ w24.heap.size = w.heap.size + 1 := (by omega); have lw24l_r : g_r < w24.heap.size := (by omega); have mw24l_r : g_r < w24.heap.size + 1 := (by omega); have nw24l_r : ¬ g_r = w24.heap.size := (by omega); have ow24l_r : ¬ w24.heap.size = g_r := (by omega); have lw24l_x0 : w9.heap.size < w24.heap.size := (by omega); have mw24l_x0 : w9.heap.size < w24.heap.size + 1 := (by omega); have nw24l_x0 : ¬ w9.heap.size = w24.heap.size := (by omega); have ow24l_x0 : ¬ w24.heap.size = w9.heap.size := (by omega); have lw24l_x1 : w10.heap.size < w24.heap.size := (by omega); have mw24l_x1 : w10.heap.size < w24.heap.size + 1 := (by omega); have nw24l_x1 : ¬ w10.heap.size = w24.heap.size := (by omega); have ow24l_x1 : ¬ w24.heap.size = w10.heap.size := (by omega); have lw24l_g : w11.heap.size < w24.heap.size := (by omega); have mw24l_g : w11.heap.size < w24.heap.size + 1 := (by omega); have nw24l_g : ¬ w11.heap.size = w24.heap.size := (by omega); have ow24l_g : ¬ w24.heap.size = w11.heap.size := (by omega); (first | (have ho_r := Ow.below ho_r (Below.after (by repeat' (first | (with_reducible exact Below.refl _ _) | (with_reducible assumption) | (with_reducible refine Below.alloc ?_ (by first | omega | (simp; omega) | simp) _) | (with_reducible refine Below.setCell ?_ (by first | omega | (simp; omega) | simp) _) | (with_reducible refine Below.drew ?_) | (with_reducible refine below_drewN ?_ _))) hbw24 (by first | omega | (simp; omega) | simp))) | skip); (first | (have ho_g := Ow.below ho_g (Below.after (by repeat' (first | (with_reducible exact Below.refl _ _) | (with_reducible assumption) | (with_reducible refine Below.alloc ?_ (by first | omega | (simp; omega) | simp) _) | (with_reducible refine Below.setCell ?_ (by first | omega | (simp; omega) | simp) _) | (with_reducible refine Below.drew ?_) | (with_reducible refine below_drewN ?_ _))) hbw24 (by first | omega | (simp; omega) | simp))) | skip); (first | (have gw24x0 : w22.heap.size < w24.heap.size := (by omega)) | skip); (first | (have gw24x1 : w23.heap.size < w24.heap.size := (by omega)) | skip); (first | (have kw24 : w21.heap.size < w24.heap.size := (by omega)) | skip); (first | (have kkw24 : w21.heap.size ≤ w24.heap.size := (by omega)) | skip); obtain ⟨aoh, nh, cph, boh, mh, dph, rfl, rfl⟩ := shapeCls ho_h.rd))
      all_goals
        go_wp2_with fail
        go_meet
      all_goals exact ⟨_, _, _, _, _, rfl, rfl, by simp [go_sem, *], by simp [go_sem, *], (by first | omega | (simp; omega) | simp), (by first | omega | (simp; omega) | simp), (by first | omega | (simp; omega) | simp), Ow.keep ho_h (by repeat' (first | (with_reducible exact Zone.refl _ _ _) | (with_reducible refine Zone.setCell ?_ (Or.inl (by first | omega | (simp; omega) | simp)) _) | (with_reducible refine Zone.alloc ?_ (by first | omega | (simp; omega) | simp) _) | (with_reducible refine Zone.drew ?_))), (by first | omega | (simp; omega) | simp), (by first | omega | (simp; omega) | simp), by simp [go_sem, *], by simp [go_sem, *], by simp [go_sem, *], by simp [go_sem, *], by simp [go_sem, *], by simp [go_sem, *], by simp [go_sem, *], by simp [go_sem, *], by simp [go_sem, *], by simp [go_sem, *], by simp [go_sem, *], by simp [go_sem, *], (by first | omega | (simp; omega) | simp), (by first | omega | (simp; omega) | simp), (by first | omega | (simp; omega) | simp), (by first | omega | (simp; omega) | simp), (by first | omega | (simp; omega) | simp), (by first | omega | (simp; omega) | simp), Ow.keep ho_r (by repeat' (first | (with_reducible exact Zone.refl _ _ _) | (with_reducible refine Zone.setCell ?_ (by first | (left; omega) | (right; omega) | (left; simp; omega) | (right; simp; omega) | (left; simp; done)) _) | (with_reducible refine Zone.alloc ?_ (by first | omega | (simp; omega) | simp) _) | (with_reducible refine Zone.drew ?_))), Ow.keep ho_g (by repeat' (first | (with_reducible exact Zone.refl _ _ _) | (with_reducible refine Zone.setCell ?_ (by first | (left; omega) | (right; omega) | (left; simp; omega) | (right; simp; omega) | (left; simp; done)) _) | (with_reducible refine Zone.alloc ?_ (by first | omega | (simp; omega) | simp) _) | (with_reducible refine Zone.drew ?_))), (by repeat' (first | (with_reducible exact Below.refl _ _) | (with_reducible assumption) | (with_reducible refine Below.alloc ?_ (by first | omega | (simp; omega) | simp) _) | (with_reducible refine Below.setCell ?_ (by first | omega | (simp; omega) | simp) _) | (with_reducible refine Below.drew ?_) | (with_reducible refine below_drewN ?_ _)))⟩
    case rest =>
      obtain ⟨g_h, lo_h, hi_h, ha, hb, rfl, rfl, q_h0, q_h1, l_h, d_h, f_h, ho_h, e_h, t_h, q_a00, q_a01, q_a10, q_a11, q_r0, q_r1, q_x00, q_x01, q_x10, q_x11, q_g0, q_g1, l_a0, l_a1, l_r, l_x0, l_x1, l_g, ho_r, ho_g, hBCh⟩ := hcut
      clear y_h_l_a0 m_h_l_a0 n_h_l_a0
      clear y_h_l_a1 m_h_l_a1 n_h_l_a1
      clear y_h_l_r m_h_l_r n_h_l_r
      clear y_h_l_x0 m_h_l_x0 n_h_l_x0
      clear y_h_l_x1 m_h_l_x1 n_h_l_x1
      clear y_h_l_g m_h_l_g n_h_l_g
      obtain ⟨wch, hwch⟩ : ∃ W : World, W = wc := ⟨_, rfl⟩
      subst hwch
      have hBwch : Below w.heap.size w wch := hBCh
      have szwch := hBwch.size
      clear hBCh
      obtain ⟨aoh, nh, cph, boh, mh, dph, rfl, rfl⟩ := shapeCls ho_h.rd
      go_wp2_with fail
      refine (eqClasses_b _ _ _ _ _ (prodC c d) (prodC c d) (ho_h.rd.below (by repeat' (first | (with_reducible exact Below.refl _ _) | (with_reducible assumption) | (with_reducible refine Below.alloc ?_ (by first | omega | (simp; omega) | simp) _) | (with_reducible refine Below.setCell ?_ (by first | omega | (simp; omega) | simp) _) | (with_reducible refine Below.drew ?_) | (with_reducible refine below_drewN ?_ _)))) (ho_r.rd.below (by repeat' (first | (with_reducible exact Below.refl _ _) | (with_reducible assumption) | (with_reducible refine Below.alloc ?_ (by first | omega | (simp; omega) | simp) _) | (with_reducible refine Below.setCell ?_ (by first | omega | (simp; omega) | simp) _) | (with_reducible refine Below.drew ?_) | (with_reducible refine below_drewN ?_ _)))) true (by simp)).mono ?_
      rintro e w25 ⟨rfl, hbw25⟩
      have hpw25 : Below wch.heap.size wch w25 := Below.after (by repeat' (first | (with_reducible exact Below.refl _ _) | (with_reducible assumption) | (with_reducible refine Below.alloc ?_ (by first | omega | (simp; omega) | simp) _) | (with_reducible refine Below.setCell ?_ (by first | omega | (simp; omega) | simp) _) | (with_reducible refine Below.drew ?_) | (with_reducible refine below_drewN ?_ _))) hbw25 (by first | omega | (simp only [World.size_alloc, World.size_setCell, World.size_drew] at *; omega) | (simp; omega) | simp)
      have sw25 := hpw25.size
      have hBw25 : Below w.heap.size w w25 := Below.trans hBwch (Below.mono hpw25 hBwch.size)
      have q_a00 := oldc hpw25 l_a0 q_a00
      have q_a01 := oldc hpw25 l_a0 q_a01
      have q_a10 := oldc hpw25 l_a1 q_a10
      have q_a11 := oldc hpw25 l_a1 q_a11
      have q_r0 := oldc hpw25 l_r q_r0
      have q_r1 := oldc hpw25 l_r q_r1
      have q_x00 := oldc hpw25 l_x0 q_x00
      have q_x01 := oldc hpw25 l_x0 q_x01
      have q_x10 := oldc hpw25 l_x1 q_x10
      have q_x11 := oldc hpw25 l_x1 q_x11
      have q_g0 := oldc hpw25 l_g q_g0
      have q_g1 := oldc hpw25 l_g q_g1
      have q_h0 := oldc hpw25 l_h q_h0
      have q_h1 := oldc hpw25 l_h q_h1
      have l_a0 := Nat.lt_of_lt_of_le l_a0 sw25
      have l_a1 := Nat.lt_of_lt_of_le l_a1 sw25
      have l_g := Nat.lt_of_lt_of_le l_g sw25
      have l_h := Nat.lt_of_lt_of_le l_h sw25
      have l_r := Nat.lt_of_lt_of_le l_r sw25
      have l_x0 := Nat.lt_of_lt_of_le l_x0 sw25
      have l_x1 := Nat.lt_of_lt_of_le l_x1 sw25
      have ho_r := Ow.below ho_r hpw25
      have ho_g := Ow.below ho_g hpw25
      have ho_h := Ow.below ho_h hpw25
      clear hbw25 hpw25
      clear ho_h
      go_wp2_with fail
      refine (heldClasses_any _ _ _ (prodC c d).1.length (prodC c d).2.length 1 ho_g.rd (by omega) (by omega)).mono ?_
      rintro e w26 ⟨rfl, hbw26⟩
      have hpw26 : Below w25.heap.size w25 w26 := Below.after (by repeat' (first | (with_reducible exact Below.refl _ _) | (with_reducible assumption) | (with_reducible refine Below.alloc ?_ (by first | omega | (simp; omega) | simp) _) | (with_reducible refine Below.setCell ?_ (by first | omega | (simp; omega) | simp) _) | (with_reducible refine Below.drew ?_) | (with_reducible refine below_drewN ?_ _))) hbw26 (by first | omega | (simp only [World.size_alloc, World.size_setCell, World.size_drew] at *; omega) | (simp; omega) | simp)
      have sw26 := hpw26.size
      have hBw26 : Below w.heap.size w w26 := Below.trans hBw25 (Below.mono hpw26 hBw25.size)
      have q_a00 := oldc hpw26 l_a0 q_a00
      have q_a01 := oldc hpw26 l_a0 q_a01
      have q_a10 := oldc hpw26 l_a1 q_a10
      have q_a11 := oldc hpw26 l_a1 q_a11
      have q_r0 := oldc hpw26 l_r q_r0
      have q_r1 := oldc hpw26 l_r q_r1
      have q_x00 := oldc hpw26 l_x0 q_x00
      have q_x01 := oldc hpw26 l_x0 q_x01
      have q_x10 := oldc hpw26 l_x1 q_x10
      have q_x11 := oldc hpw26 l_x1 q_x11
      have q_g0 := oldc hpw26 l_g q_g0
      have q_g1 := oldc hpw26 l_g q_g1
      have q_h0 := oldc hpw26 l_h q_h0
      have q_h1 := oldc hpw26 l_h q_h1
      have l_a0 := Nat.lt_of_lt_of_le l_a0 sw26
      have l_a1 := Nat.lt_of_lt_of_le l_a1 sw26
      have l_g := Nat.lt_of_lt_of_le l_g sw26
      have l_h := Nat.lt_of_lt_of_le l_h sw26
      have l_r := Nat.lt_of_lt_of_le l_r sw26
      have l_x0 := Nat.lt_of_lt_of_le l_x0 sw26
      have l_x1 := Nat.lt_of_lt_of_le l_x1 sw26
      have ho_r := Ow.below ho_r hpw26
      have ho_g := Ow.below ho_g hpw26
      clear hbw26 hpw26
      go_wp2
      go_ret
      exact ⟨rfl, hBw26⟩
end Go.Proofs.Ytjpdfofhnnifpaa
