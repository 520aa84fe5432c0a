/- Contracts of l6Step and l3Listed. -/
import Derived.Test.YtomigopkejlmcaaErr
import Derived.Test.YtomigopkejlmcaaGrow3
namespace Go.Proofs.Ytomigopkejlmcaa
set_option linter.unusedVariables false
set_option linter.unusedSimpArgs false
open Go.RowKit

/-- The class to which a step leads. -/
def stepX (c : Cls) (kind sex x : Int) : Int :=
  if kind = 1 then getI (inv c.2) x else if kind = 2 then getI c.1 (getI (inv c.2) x)
  else if kind = 5 ∨ kind = 6 then (if sex = 1 then getI c.2 x else getI c.2 (getI (inv c.1) x))
  else if kind = 7 then getI (inv c.1) x else if kind = 8 then getI c.1 x else x

set_option maxRecDepth 20000 in
set_option maxHeartbeats 4000000 in
theorem l6Step_any {z : Bool} {lo hi : Nat} (w : World) (u1 u2 : Value) (c : Cls) (hc : Rd z lo hi w [u1, u2] c) (hcls : isCls c = true) (kind sex : Int) (m : Nat) (hm : m < c.1.length) :
    Calls Try.prog 80 #[.agg #[u1, u2], .int .i64 kind, .int .i64 sex, .int .i64 m] w (PostI w (stepX c kind sex m)) := by
  obtain ⟨c0, c8, c12, hpw, hpc⟩ := isCls_facts hcls
  have HPW := Lib.hid (isPerm_range hpw)
  have HPC := Lib.hid (isPerm_range hpc)
  have e1 : invP c.1 = inv c.1 := if_pos hpw
  have e2 : invP c.2 = inv c.2 := if_pos hpc
  have HC := Lib.hid c12
  have hc2 : 0 < c.2.length := by omega
  have hc28 : c.2.length ≤ 8 := by omega
  obtain ⟨fx, hfx⟩ := Int.eq_ofNat_of_zero_le (getI_in (inv_range (xs := c.2)) (i := m) (by rw [inv_len]; omega)).1
  have fx1 : fx < c.1.length := by have := (getI_in (inv_range (xs := c.2)) (i := m) (by rw [inv_len]; omega)).2; omega
  obtain ⟨hx, hhx⟩ := Int.eq_ofNat_of_zero_le (getI_in (inv_range (xs := c.1)) (i := m) (by rw [inv_len]; omega)).1
  have hx1 : hx < c.2.length := by have := (getI_in (inv_range (xs := c.1)) (i := m) (by rw [inv_len]; omega)).2; omega
  have hm2 : m < c.2.length := by omega
  have HF := Lib.hid hfx
  have HH := Lib.hid hhx
  have E1 := Lib.hid e1
  have E2 := Lib.hid e2
  clear hpw hpc hcls c12 hfx hhx e1 e2
  obtain ⟨hw, hq⟩ := hc.two rfl
  clear hc
  obtain ⟨bo, n3, dap, rfl, hn3, hnc3, hcm3, hnone3⟩ := hw.shape
  obtain ⟨bo2, n4, dap2, rfl, hn4, hnc4, hcm4, hnone4⟩ := hq.shape
  subst hn3 hn4
  unfold maxLen at *
  obtain ⟨wb, woff, rfl, -, -, wbl⟩ := hw.pos (by omega)
  obtain ⟨qb, qoff, rfl, -, -, qbl⟩ := hq.pos hc2
  clear hnone3 hnone4
  obtain ⟨R, hR⟩ : ∃ R, R = stepX c kind sex m := ⟨_, rfl⟩
  rw [← hR]
  have HR := Lib.hid hR
  clear hR
  go_enter Try.func80, Try.ntmps80
  go_wp2_with fail
  refine (inversePermS_any (z := z) (lo := lo) (hi := hi) _ _ c.2 (hq.below (by repeat' (first | (with_reducible exact Below.refl _ _) | (with_reducible assumption) | (with_reducible refine Below.alloc ?_ (by first | omega | (simp; omega) | simp) _) | (with_reducible refine Below.setCell ?_ (by first | omega | (simp; omega) | simp) _) | (with_reducible refine Below.drew ?_) | (with_reducible refine below_drewN ?_ _)))) (by omega)).mono ?_
  rintro e1 w1 ⟨fv, rfl, hof, hbw1⟩
  have hpw1 : Below w.heap.size w w1 := Below.after (by repeat' (first | (with_reducible exact Below.refl _ _) | (with_reducible assumption) | (with_reducible refine Below.alloc ?_ (by first | omega | (simp; omega) | simp) _) | (with_reducible refine Below.setCell ?_ (by first | omega | (simp; omega) | simp) _) | (with_reducible refine Below.drew ?_) | (with_reducible refine below_drewN ?_ _))) hbw1 (by first | omega | (simp only [World.size_alloc, World.size_setCell, World.size_drew] at *; omega) | (simp; omega) | simp)
  have sw1 := hpw1.size
  have hBw1 : Below w.heap.size w w1 := hpw1
  have l_c : w.heap.size < w1.heap.size := by have := hbw1.size; simp at this; omega
  have q_c0 : w1.cell? ⟨w.heap.size, 0, none⟩ = some (.slice (some ⟨wb, woff, none⟩) c.1.length dap) := oldc hbw1 (by first | omega | (simp; omega) | (simp; done)) (by simp [go_sem])
  have q_c1 : w1.cell? ⟨w.heap.size, 1, none⟩ = some (.slice (some ⟨qb, qoff, none⟩) c.2.length dap2) := oldc hbw1 (by first | omega | (simp; omega) | (simp; done)) (by simp [go_sem])
  clear hbw1 hpw1
  rw [E2.out] at hof
  obtain ⟨fo, n6, fap, rfl, hn6, hnc6, hcm6, -⟩ := hof.rd.shape
  rw [inv_len] at hn6
  subst hn6
  obtain ⟨fb, foff, rfl, -, -, -⟩ := hof.rd.pos (by omega)
  have cf := hof.rd.num (i := m) hm2
  rw [HF.out] at cf
  have fI : (m : Int) < (c.2.length : Int) := by omega
  have fI1 : (m : Int) < (c.1.length : Int) := by omega
  go_wp2_with fail
  refine (inversePermS_any (z := z) (lo := lo) (hi := hi) _ _ c.1 (hw.below (by repeat' (first | (with_reducible exact Below.refl _ _) | (with_reducible assumption) | (with_reducible refine Below.alloc ?_ (by first | omega | (simp; omega) | simp) _) | (with_reducible refine Below.setCell ?_ (by first | omega | (simp; omega) | simp) _) | (with_reducible refine Below.drew ?_) | (with_reducible refine below_drewN ?_ _)))) (by omega)).mono ?_
  rintro e2 w2 ⟨hv, rfl, hoh, hbw2⟩
  have hpw2 : Below w1.heap.size w1 w2 := Below.after (by repeat' (first | (with_reducible exact Below.refl _ _) | (with_reducible assumption) | (with_reducible refine Below.alloc ?_ (by first | omega | (simp; omega) | simp) _) | (with_reducible refine Below.setCell ?_ (by first | omega | (simp; omega) | simp) _) | (with_reducible refine Below.drew ?_) | (with_reducible refine below_drewN ?_ _))) hbw2 (by first | omega | (simp only [World.size_alloc, World.size_setCell, World.size_drew] at *; omega) | (simp; omega) | simp)
  have sw2 := hpw2.size
  have hBw2 : Below w.heap.size w w2 := Below.trans hBw1 (Below.mono hpw2 hBw1.size)
  have q_c0 := oldc hpw2 l_c q_c0
  have q_c1 := oldc hpw2 l_c q_c1
  have l_c := Nat.lt_of_lt_of_le l_c sw2
  have hof := Ow.below hof hpw2
  clear hbw2 hpw2
  rw [E1.out] at hoh
  obtain ⟨ho, n7, hap, rfl, hn7, hnc7, hcm7, -⟩ := hoh.rd.shape
  rw [inv_len] at hn7
  subst hn7
  obtain ⟨hb, hoff, rfl, -, -, -⟩ := hoh.rd.pos (by omega)
  have ch := hoh.rd.num (i := m) hm
  rw [HH.out] at ch
  have cwf := (hw.below hBw2).num (i := fx) fx1
  have cqm := (hq.below hBw2).num (i := m) hm2
  have cqh := (hq.below hBw2).num (i := hx) hx1
  have cwm := (hw.below hBw2).num (i := m) hm
  have fxI : (fx : Int) < (c.1.length : Int) := by omega
  have hxI : (hx : Int) < (c.2.length : Int) := by omega
  clear hoh hof hw hq cf
  by_cases k1 : kind = 1
  · subst k1
    have HX := Lib.hid (show (fx : Int) = R by rw [HR.out, stepX, if_pos rfl, HF.out])
    clear HR
    go_wp2
    go_ret
    exact ⟨ret_int HX.out, (by repeat' (first | (with_reducible exact Below.refl _ _) | (with_reducible assumption) | (with_reducible refine Below.alloc ?_ (by first | omega | (simp; omega) | simp) _) | (with_reducible refine Below.setCell ?_ (by first | omega | (simp; omega) | simp) _) | (with_reducible refine Below.drew ?_) | (with_reducible refine below_drewN ?_ _)))⟩
  have k1' : (kind == 1) = false := by simpa using k1
  by_cases k2 : kind = 2
  · subst k2
    have HX := Lib.hid (show getI c.1 (fx : Int) = R by rw [HR.out, stepX, if_neg (by decide), if_pos rfl, HF.out])
    clear HR
    go_wp2
    go_ret
    exact ⟨ret_int HX.out, (by repeat' (first | (with_reducible exact Below.refl _ _) | (with_reducible assumption) | (with_reducible refine Below.alloc ?_ (by first | omega | (simp; omega) | simp) _) | (with_reducible refine Below.setCell ?_ (by first | omega | (simp; omega) | simp) _) | (with_reducible refine Below.drew ?_) | (with_reducible refine below_drewN ?_ _)))⟩
  have k2' : (kind == 2) = false := by simpa using k2
  by_cases k5 : kind = 5 ∨ kind = 6
  · by_cases s1 : sex = 1
    · have HX := Lib.hid (show getI c.2 (m : Int) = R by rw [HR.out, stepX, if_neg k1, if_neg k2, if_pos k5, if_pos s1])
      subst s1
      clear HR
      rcases k5 with rfl | rfl
      all_goals
        go_wp2
        go_ret
        exact ⟨ret_int HX.out, (by repeat' (first | (with_reducible exact Below.refl _ _) | (with_reducible assumption) | (with_reducible refine Below.alloc ?_ (by first | omega | (simp; omega) | simp) _) | (with_reducible refine Below.setCell ?_ (by first | omega | (simp; omega) | simp) _) | (with_reducible refine Below.drew ?_) | (with_reducible refine below_drewN ?_ _)))⟩
    · have HX := Lib.hid (show getI c.2 (hx : Int) = R by rw [HR.out, stepX, if_neg k1, if_neg k2, if_pos k5, if_neg s1, HH.out])
      have s1' : (sex == 1) = false := by simpa using s1
      clear HR
      rcases k5 with rfl | rfl
      all_goals
        go_wp2
        go_ret
        exact ⟨ret_int HX.out, (by repeat' (first | (with_reducible exact Below.refl _ _) | (with_reducible assumption) | (with_reducible refine Below.alloc ?_ (by first | omega | (simp; omega) | simp) _) | (with_reducible refine Below.setCell ?_ (by first | omega | (simp; omega) | simp) _) | (with_reducible refine Below.drew ?_) | (with_reducible refine below_drewN ?_ _)))⟩
  have k5a : ¬ kind = 5 := fun h => k5 (.inl h)
  have k6a : ¬ kind = 6 := fun h => k5 (.inr h)
  have k5' : (kind == 5) = false := by simpa using k5a
  have k6' : (kind == 6) = false := by simpa using k6a
  by_cases k7 : kind = 7
  · subst k7
    have HX := Lib.hid (show (hx : Int) = R by rw [HR.out, stepX, if_neg k1, if_neg k2, if_neg k5, if_pos rfl, HH.out])
    clear HR
    go_wp2
    go_ret
    exact ⟨ret_int HX.out, (by repeat' (first | (with_reducible exact Below.refl _ _) | (with_reducible assumption) | (with_reducible refine Below.alloc ?_ (by first | omega | (simp; omega) | simp) _) | (with_reducible refine Below.setCell ?_ (by first | omega | (simp; omega) | simp) _) | (with_reducible refine Below.drew ?_) | (with_reducible refine below_drewN ?_ _)))⟩
  have k7' : (kind == 7) = false := by simpa using k7
  by_cases k8 : kind = 8
  · subst k8
    have HX := Lib.hid (show getI c.1 (m : Int) = R by rw [HR.out, stepX, if_neg k1, if_neg k2, if_neg k5, if_neg k7, if_pos rfl])
    clear HR
    go_wp2
    go_ret
    exact ⟨ret_int HX.out, (by repeat' (first | (with_reducible exact Below.refl _ _) | (with_reducible assumption) | (with_reducible refine Below.alloc ?_ (by first | omega | (simp; omega) | simp) _) | (with_reducible refine Below.setCell ?_ (by first | omega | (simp; omega) | simp) _) | (with_reducible refine Below.drew ?_) | (with_reducible refine below_drewN ?_ _)))⟩
  have k8' : (kind == 8) = false := by simpa using k8
  have HX := Lib.hid (show (m : Int) = R by rw [HR.out, stepX, if_neg k1, if_neg k2, if_neg k5, if_neg k7, if_neg k8])
  clear HR k1 k2 k5 k5a k6a k7 k8
  go_wp2
  go_ret
  exact ⟨ret_int HX.out, (by repeat' (first | (with_reducible exact Below.refl _ _) | (with_reducible assumption) | (with_reducible refine Below.alloc ?_ (by first | omega | (simp; omega) | simp) _) | (with_reducible refine Below.setCell ?_ (by first | omega | (simp; omega) | simp) _) | (with_reducible refine Below.drew ?_) | (with_reducible refine below_drewN ?_ _)))⟩
set_option maxRecDepth 20000 in
set_option maxHeartbeats 4000000 in
theorem l3Listed_any {z : Bool} {lo hi : Nat} (w : World) (v : Value) (M : List Bool) (h : Rd z lo hi w [v] M) (hl : M.length ≤ 1048576) :
    Calls Try.prog 81 #[v] w (PostOw w (listedTo M M.length)) := by
  obtain ⟨ao, n, cap, rfl, hn, hnc, hcm, hnone⟩ := h.shape
  subst hn
  unfold maxLen at *
  go_enter Try.func81, Try.ntmps81
  go_wp2
  go_loopw [3, 4, 5, 9] (fun s3 _ _ s9 wi => ∃ k : Nat, k ≤ M.length ∧ s9 = .int .i64 k ∧ Hid (GL true w.heap.size w.heap.size wi.heap.size wi 3 s3 (listedTo M k)) ∧ Below w.heap.size w wi) (fun _ _ _ s9 _ => M.length - (intOf s9).toNat)
  case atStart => exact ⟨0, Nat.zero_le _, rfl, Lib.hid ((GL.lit0 _ _ _ _ _ (Nat.le_refl _)).top), (by repeat' (first | (with_reducible exact Below.refl _ _) | (with_reducible assumption) | (with_reducible refine Below.alloc ?_ (by first | omega | (simp; omega) | simp) _) | (with_reducible refine Below.setCell ?_ (by first | omega | (simp; omega) | simp) _) | (with_reducible refine Below.drew ?_) | (with_reducible refine below_drewN ?_ _)))⟩
  case round =>
    obtain ⟨wi, hwi⟩ : ∃ wm : World, wm = wr := ⟨_, rfl⟩
    subst hwi
    obtain ⟨k, hk, rfl, hG, hbi⟩ := hrel
    have sI := hbi.size
    by_cases hlt : k < M.length
    · have hI : (k : Int) < (M.length : Int) := by omega
      obtain ⟨b, off, t, rfl, ht, hct, -, -, -, -⟩ := (h.below hbi).bool_at (i := k) hlt
      have hG := hG.out
      have hll := listedTo_len M k
      cases t
      · have HN := Lib.hid (show GL true w.heap.size w.heap.size wi.heap.size wi 3 _ (listedTo M (k + 1)) by rw [listedTo_out ht.out]; exact hG)
        clear ht hG
        go_wp2
        go_roundw
        case rel => exact ⟨k + 1, by omega, by go_num, HN, hbi⟩
        case measure => simp [intOf]; omega
      · have HX := Lib.hid (listedTo_in ht.out)
        clear ht
        go_wp2_with (at_builtin; refine wpList_push rfl rfl slInt (by show (0 : Nat) < 1; omega) (hG.alloc _) rfl (ad := ⟨wi.heap.size, 0, none⟩) rfl (cs := [.int .i64 k]) (y := (k : Int)) (lx := wi.heap.size) (hx' := wi.heap.size) ?c1 (It.flat (z := true) (w0 := wi) (fp := []) ⟨rfl, ⟨by omega, by omega⟩, rfl⟩) (by omega) (.inl (by first | omega | (simp only [World.size_alloc, World.size_setCell, World.size_drew] at *; omega) | (simp; omega) | simp)) (by unfold maxLen; omega) (by omega) ?c2 ?_)
        case c1 =>
          intro j c hj
          match j, hj with
          | 0, hj => simp at hj; subst hj; simp [Addr.add]
        case c2 => first | omega | (simp; omega)
        intro v1 w3 hG3 _ hb3
        have HN := Lib.hid (show GL true w.heap.size w.heap.size w3.heap.size w3 3 v1 (listedTo M (k + 1)) by rw [HX.out]; exact hG3)
        have hbi3 : Below w.heap.size w w3 := Below.trans (by repeat' (first | (with_reducible exact Below.refl _ _) | (with_reducible assumption) | (with_reducible refine Below.alloc ?_ (by first | omega | (simp; omega) | simp) _) | (with_reducible refine Below.setCell ?_ (by first | omega | (simp; omega) | simp) _) | (with_reducible refine Below.drew ?_) | (with_reducible refine below_drewN ?_ _))) hb3
        clear hG hG3 hb3
        go_wp2
        go_roundw
        case rel => exact ⟨k + 1, by omega, by go_num, HN, hbi3⟩
        case measure => simp [intOf]; omega
    · obtain rfl : k = M.length := by omega
      have nI3 : ¬ (M.length : Int) < (M.length : Int) := by omega
      have HO := Lib.hid (show Ow w.heap.size wi.heap.size wi [_] (listedTo M M.length) from GL.ow (l0 := w.heap.size) hG.out (Nat.le_refl _) (Nat.le_refl _))
      clear hG
      go_wp2
      go_ret
      exact ⟨_, rfl, HO.out, hbi⟩
end Go.Proofs.Ytomigopkejlmcaa
