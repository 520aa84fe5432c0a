/- Contract of impl.areGiven. -/
import Derived.Test.YtomigopkejlmcaaGiv
namespace Go.Proofs.Ytomigopkejlmcaa
set_option linter.unusedVariables false
set_option linter.unusedSimpArgs false
open Go.RowKit

set_option maxRecDepth 20000 in
set_option maxHeartbeats 4000000 in
theorem givenI_b {z z1 z' : Bool} {lo hi lo1 hi1 lo' hi' : Nat} (w : World) (v v2 u1 u2 v3 : Value) (f : Fam) (c : Cls) (g : List Int) (h : Rd z lo hi w [v, v2] f) (hc : Rd z1 lo1 hi1 w [u1, u2] c) (h' : Rd z' lo' hi' w [v3] g) (hlc : c.1.length ≤ 1048576) (least : Int) (hle0 : -1 ≤ least) (hle1 : least ≤ 0) (r : Bool) (hr : r = givenB f c g least) :
    Calls Try.prog 82 #[.agg #[v, v2], .agg #[u1, u2], v3, .int .i64 least] w (PostB w r) := by
  obtain ⟨ha, -⟩ := h.fam
  obtain ⟨hw, -⟩ := hc.two rfl
  obtain ⟨ao, n, cap, rfl, hn, hnc, hcm, hnone⟩ := ha.shape
  obtain ⟨bo, n2, dap, rfl, hn2, hnc', hcm', hnone'⟩ := hw.shape
  obtain ⟨go, n3, gap, rfl, hn3, hnc3, hcm3, hnone3⟩ := h'.shape
  subst hn hn2 hn3
  unfold maxLen at *
  obtain ⟨r1, hlet_r1⟩ : ∃ r, r = famB f := ⟨_, rfl⟩
  have H1 := Lib.hid hlet_r1
  clear hlet_r1
  obtain ⟨r2, hlet_r2⟩ : ∃ r, r = isCls c := ⟨_, rfl⟩
  have H2 := Lib.hid hlet_r2
  clear hlet_r2
  obtain ⟨r3, hlet_r3⟩ : ∃ r, r = decide (g.length = f.1.length) := ⟨_, rfl⟩
  have H3 := Lib.hid hlet_r3
  clear hlet_r3
  obtain ⟨r4, hlet_r4⟩ : ∃ r, r = g.all (givU c.1.length least) := ⟨_, rfl⟩
  have H4 := Lib.hid hlet_r4
  clear hlet_r4
  have HR := Lib.hid (show r = (r1 && (r2 && (r3 && r4))) by rw [hr, givenB, H1.out, H2.out, H3.out, H4.out])
  clear hr hw ha
  go_enter Try.func82, Try.ntmps82
  go_wp2_with fail
  refine (isFamI_b _ _ _ f (h.below (by repeat' (first | (with_reducible exact Below.refl _ _) | (with_reducible assumption) | (with_reducible refine Below.alloc ?_ (by first | omega | (simp; omega) | simp) _) | (with_reducible refine Below.setCell ?_ (by first | omega | (simp; omega) | simp) _) | (with_reducible refine Below.drew ?_) | (with_reducible refine below_drewN ?_ _)))) r1 H1.out).mono ?_
  rintro e1 w1 ⟨rfl, hbw1⟩
  have hpw1 : Below w.heap.size w w1 := Below.after (by repeat' (first | (with_reducible exact Below.refl _ _) | (with_reducible assumption) | (with_reducible refine Below.alloc ?_ (by first | omega | (simp; omega) | simp) _) | (with_reducible refine Below.setCell ?_ (by first | omega | (simp; omega) | simp) _) | (with_reducible refine Below.drew ?_) | (with_reducible refine below_drewN ?_ _))) hbw1 (by first | omega | (simp only [World.size_alloc, World.size_setCell, World.size_drew] at *; omega) | (simp; omega) | simp)
  have sw1 := hpw1.size
  have hBw1 : Below w.heap.size w w1 := hpw1
  have l_f : w.heap.size < w1.heap.size := by have := hbw1.size; simp at this; omega
  have q_f0 : w1.cell? ⟨w.heap.size, 0, none⟩ = some (.slice ao f.1.length cap) := oldc hbw1 (by first | omega | (simp; omega) | (simp; done)) (by simp [go_sem])
  have q_f1 : w1.cell? ⟨w.heap.size, 1, none⟩ = some (v2) := oldc hbw1 (by first | omega | (simp; omega) | (simp; done)) (by simp [go_sem])
  have l_c : w.heap.size + 1 < w1.heap.size := by have := hbw1.size; simp at this; omega
  have q_c0 : w1.cell? ⟨w.heap.size + 1, 0, none⟩ = some (.slice bo c.1.length dap) := oldc hbw1 (by first | omega | (simp; omega) | (simp; done)) (by simp [go_sem])
  have q_c1 : w1.cell? ⟨w.heap.size + 1, 1, none⟩ = some (u2) := oldc hbw1 (by first | omega | (simp; omega) | (simp; done)) (by simp [go_sem])
  clear hbw1 hpw1
  cases r1
  · go_wp2
    go_ret
    exact ⟨ret_bool (by rw [HR.out]; rfl), (by repeat' (first | (with_reducible exact Below.refl _ _) | (with_reducible assumption) | (with_reducible refine Below.alloc ?_ (by first | omega | (simp; omega) | simp) _) | (with_reducible refine Below.setCell ?_ (by first | omega | (simp; omega) | simp) _) | (with_reducible refine Below.drew ?_) | (with_reducible refine below_drewN ?_ _)))⟩
  go_wp2_with fail
  refine (isClsI_b _ _ _ c (hc.below (by repeat' (first | (with_reducible exact Below.refl _ _) | (with_reducible assumption) | (with_reducible refine Below.alloc ?_ (by first | omega | (simp; omega) | simp) _) | (with_reducible refine Below.setCell ?_ (by first | omega | (simp; omega) | simp) _) | (with_reducible refine Below.drew ?_) | (with_reducible refine below_drewN ?_ _)))) r2 H2.out).mono ?_
  rintro e2 w2 ⟨rfl, hbw2⟩
  have hpw2 : Below w1.heap.size w1 w2 := Below.after (by repeat' (first | (with_reducible exact Below.refl _ _) | (with_reducible assumption) | (with_reducible refine Below.alloc ?_ (by first | omega | (simp; omega) | simp) _) | (with_reducible refine Below.setCell ?_ (by first | omega | (simp; omega) | simp) _) | (with_reducible refine Below.drew ?_) | (with_reducible refine below_drewN ?_ _))) hbw2 (by first | omega | (simp only [World.size_alloc, World.size_setCell, World.size_drew] at *; omega) | (simp; omega) | simp)
  have sw2 := hpw2.size
  have hBw2 : Below w.heap.size w w2 := Below.trans hBw1 (Below.mono hpw2 hBw1.size)
  have q_f0 := oldc hpw2 l_f q_f0
  have q_f1 := oldc hpw2 l_f q_f1
  have q_c0 := oldc hpw2 l_c q_c0
  have q_c1 := oldc hpw2 l_c q_c1
  have l_c := Nat.lt_of_lt_of_le l_c sw2
  have l_f := Nat.lt_of_lt_of_le l_f sw2
  clear hbw2 hpw2
  cases r2
  · go_wp2
    go_ret
    exact ⟨ret_bool (by rw [HR.out]; rfl), (by repeat' (first | (with_reducible exact Below.refl _ _) | (with_reducible assumption) | (with_reducible refine Below.alloc ?_ (by first | omega | (simp; omega) | simp) _) | (with_reducible refine Below.setCell ?_ (by first | omega | (simp; omega) | simp) _) | (with_reducible refine Below.drew ?_) | (with_reducible refine below_drewN ?_ _)))⟩
  obtain ⟨h40, -⟩ := famB_facts H1.out.symm
  by_cases hl : g.length = f.1.length
  rotate_left
  · have hbne : (((g.length : Int)) != (f.1.length : Int)) = true := by simp; omega
    obtain rfl : r3 = false := by rw [H3.out]; simp [hl]
    clear hl H4
    go_wp2
    go_ret
    exact ⟨ret_bool (by rw [HR.out]; rfl), (by repeat' (first | (with_reducible exact Below.refl _ _) | (with_reducible assumption) | (with_reducible refine Below.alloc ?_ (by first | omega | (simp; omega) | simp) _) | (with_reducible refine Below.setCell ?_ (by first | omega | (simp; omega) | simp) _) | (with_reducible refine Below.drew ?_) | (with_reducible refine below_drewN ?_ _)))⟩
  have hbne : (((g.length : Int)) != (f.1.length : Int)) = false := by simp [hl]
  obtain rfl : r3 = true := by rw [H3.out]; simp [hl]
  have hl1 : ¬ g.length < f.1.length := by omega
  have hl2 : ¬ f.1.length < g.length := by omega
  have HL := Lib.hid hl
  clear hl H3 H1 H2
  obtain ⟨W0, hW0⟩ : ∃ W : World, W = w2 := ⟨_, rfl⟩
  subst hW0
  have hB0 : Below w.heap.size w W0 := hBw2
  go_wp2
  go_loopw [10, 29] (fun _ s29 wr => ∃ k : Nat, k ≤ g.length ∧ s29 = .int .i64 k ∧ Hid (r4 = (g.drop k).all (givU c.1.length least)) ∧ Below W0.heap.size W0 wr) (fun _ s29 _ => g.length - (intOf s29).toNat)
  case atStart => exact ⟨0, Nat.zero_le _, rfl, H4, Below.refl _ _⟩
  case round =>
    rename_i wr
    clear H4
    obtain ⟨k, hk, rfl, hd, hb2⟩ := hrel
    have hbw : Below w.heap.size w wr := Below.trans hB0 (hb2.mono hB0.size)
    have s2 := hb2.size
    have s3 := hbw.size
    have q_c0 := oldc hb2 l_c q_c0
    by_cases hlt : k < g.length
    · have hI : (k : Int) < (g.length : Int) := by omega
      obtain ⟨b, off, x, rfl, hx, hcx, hx1, hx2, _⟩ := (h'.below hbw).int_at hlt
      have HS := Lib.hid (show (g.drop k).all (givU c.1.length least) = (givU c.1.length least x && (g.drop (k + 1)).all (givU c.1.length least)) by rw [drop_cons hx.out, List.all_cons])
      clear hx h h' hc
      by_cases e1 : x < least
      · have HX := Lib.hid (show false = r by rw [HR.out, hd.out, HS.out, givU, show decide (least ≤ x ∧ x < (c.1.length : Int)) = false by simp; omega]; rfl)
        clear hd HS
        go_wp2
        go_ret
        exact ⟨ret_bool HX.out, (by repeat' (first | (with_reducible exact Below.refl _ _) | (with_reducible assumption) | (with_reducible refine Below.alloc ?_ (by first | omega | (simp; omega) | simp) _) | (with_reducible refine Below.setCell ?_ (by first | omega | (simp; omega) | simp) _) | (with_reducible refine Below.drew ?_) | (with_reducible refine below_drewN ?_ _)))⟩
      by_cases e2 : (c.1.length : Int) ≤ x
      · have HX := Lib.hid (show false = r by rw [HR.out, hd.out, HS.out, givU, show decide (least ≤ x ∧ x < (c.1.length : Int)) = false by simp; omega]; rfl)
        clear hd HS
        go_wp2
        go_ret
        exact ⟨ret_bool HX.out, (by repeat' (first | (with_reducible exact Below.refl _ _) | (with_reducible assumption) | (with_reducible refine Below.alloc ?_ (by first | omega | (simp; omega) | simp) _) | (with_reducible refine Below.setCell ?_ (by first | omega | (simp; omega) | simp) _) | (with_reducible refine Below.drew ?_) | (with_reducible refine below_drewN ?_ _)))⟩
      have HN := Lib.hid (show r4 = (g.drop (k + 1)).all (givU c.1.length least) by rw [hd.out, HS.out, givU, show decide (least ≤ x ∧ x < (c.1.length : Int)) = true by simp; omega]; rfl)
      clear hd HS
      go_wp2
      go_roundw
      case rel => exact ⟨k + 1, by omega, by go_num, HN, hb2⟩
      case measure => simp [intOf]; omega
    · have HX := Lib.hid (show true = r by rw [HR.out, hd.out, List.drop_eq_nil_of_le (by omega)]; rfl)
      have hI : ¬ (k : Int) < (g.length : Int) := by omega
      clear hd
      go_wp2
      go_ret
      exact ⟨ret_bool HX.out, hbw⟩
end Go.Proofs.Ytomigopkejlmcaa
