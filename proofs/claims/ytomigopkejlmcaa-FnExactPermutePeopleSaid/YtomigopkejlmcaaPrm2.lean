/- Contract of PermutePeople (impl). -/
import Derived.Test.YtomigopkejlmcaaPrmI
namespace Go.Proofs.Ytomigopkejlmcaa
set_option linter.unusedVariables false
set_option linter.unusedSimpArgs false
open Go.RowKit

set_option maxRecDepth 20000 in
set_option maxHeartbeats 4000000 in
theorem permuteI_any {z z' : Bool} {lo hi lo' hi' : Nat} (w : World) (v v2 v3 : Value) (f : Fam) (xs : List Int) (h : Rd z lo hi w [v, v2] f) (h' : Rd z' lo' hi' w [v3] xs) (hxl : xs.length ≤ 1048576) (V : Bool) (hV : V = permV f xs) :
    Calls Try.prog 43 #[.agg #[v, v2], v3] w (PostOw2B w (permX f xs) V) := by
  obtain ⟨ha, -⟩ := h.fam
  obtain ⟨ao, n, cap, rfl, hn, hnc, hcm, hnone⟩ := ha.shape
  subst hn
  obtain ⟨go, n5, gap, rfl, hn5, hnc5, hcm5, hnone5⟩ := h'.shape
  subst hn5
  unfold maxLen at *
  obtain ⟨r1, hlet_r1⟩ : ∃ r, r = famB f := ⟨_, rfl⟩
  have H1 := Lib.hid hlet_r1
  clear hlet_r1
  obtain ⟨r2, hlet_r2⟩ : ∃ r, r = isPerm xs := ⟨_, rfl⟩
  have H2 := Lib.hid hlet_r2
  clear hlet_r2
  obtain ⟨r3, hlet_r3⟩ : ∃ r, r = famB (ordF f xs) := ⟨_, rfl⟩
  have H3 := Lib.hid hlet_r3
  clear hlet_r3
  obtain ⟨r4, hlet_r4⟩ : ∃ r, r = decide (xs.length = f.1.length) := ⟨_, rfl⟩
  have H4 := Lib.hid hlet_r4
  clear hlet_r4
  have HV := Lib.hid (show V = (r1 && (r4 && r2) && r3) by rw [hV, permV, permOk, H1.out, H2.out, H3.out, H4.out])
  obtain ⟨X, hX⟩ : ∃ X, X = permX f xs := ⟨_, rfl⟩
  rw [← hX]
  have HX := Lib.hid (show X = if V = true then ordF f xs else ([], []) by rw [hX, permX, hV])
  have HK := Lib.hid (show permOk f xs = (r1 && (r4 && r2)) by rw [permOk, H1.out, H2.out, H4.out])
  clear hX hV hnone hnone5 ha
  go_enter Try.func43, Try.ntmps43
  go_wp2_with fail
  refine (isFamI_b _ _ _ f (h.below (by repeat' (first | (with_reducible exact Below.refl _ _) | (with_reducible assumption) | (with_reducible refine Below.alloc ?_ (by first | omega | (simp; omega) | simp) _) | (with_reducible refine Below.setCell ?_ (by first | omega | (simp; omega) | simp) _) | (with_reducible refine Below.drew ?_) | (with_reducible refine below_drewN ?_ _)))) r1 H1.out).mono ?_
  rintro e1 w1 ⟨rfl, hbw1⟩
  have hpw1 : Below w.heap.size w w1 := Below.after (by repeat' (first | (with_reducible exact Below.refl _ _) | (with_reducible assumption) | (with_reducible refine Below.alloc ?_ (by first | omega | (simp; omega) | simp) _) | (with_reducible refine Below.setCell ?_ (by first | omega | (simp; omega) | simp) _) | (with_reducible refine Below.drew ?_) | (with_reducible refine below_drewN ?_ _))) hbw1 (by first | omega | (simp only [World.size_alloc, World.size_setCell, World.size_drew] at *; omega) | (simp; omega) | simp)
  have sw1 := hpw1.size
  have hBw1 : Below w.heap.size w w1 := hpw1
  have l_f : w.heap.size < w1.heap.size := by have := hbw1.size; simp at this; omega
  have q_f0 : w1.cell? ⟨w.heap.size, 0, none⟩ = some (.slice ao f.1.length cap) := oldc hbw1 (by first | omega | (simp; omega) | (simp; done)) (by simp [go_sem])
  have q_f1 : w1.cell? ⟨w.heap.size, 1, none⟩ = some (v2) := oldc hbw1 (by first | omega | (simp; omega) | (simp; done)) (by simp [go_sem])
  have l_r : w.heap.size + 1 < w1.heap.size := by have := hbw1.size; simp at this; omega
  have q_r0 : w1.cell? ⟨w.heap.size + 1, 0, none⟩ = some (.slice none 0 0) := oldc hbw1 (by first | omega | (simp; omega) | (simp; done)) (by simp [go_sem])
  have q_r1 : w1.cell? ⟨w.heap.size + 1, 1, none⟩ = some (.slice none 0 0) := oldc hbw1 (by first | omega | (simp; omega) | (simp; done)) (by simp [go_sem])
  have f_r : ∀ o, w1.frozen? ⟨w.heap.size + 1, o, none⟩ = false := fun o => (hbw1.frozen (p := ⟨w.heap.size + 1, o, none⟩) (by first | omega | (simp; omega) | (simp; done))).trans (by simp [go_sem])
  clear hbw1 hpw1
  cases r1
  · obtain rfl : V = false := by rw [HV.out]; rfl
    have HF := Lib.hid (show X = ([], []) by rw [HX.out]; rfl)
    clear HX h h'
    go_wp2
    exact bodyPost_ret (v := .tuple #[.agg #[.slice none 0 0, .slice none 0 0], .bool false]) (by simp [results, Try.results43, go_sem, *]) rfl ⟨_, _, rfl, by rw [HF.out]; exact Ow.nilF _ _ _, (by repeat' (first | (with_reducible exact Below.refl _ _) | (with_reducible assumption) | (with_reducible refine Below.alloc ?_ (by first | omega | (simp; omega) | simp) _) | (with_reducible refine Below.setCell ?_ (by first | omega | (simp; omega) | simp) _) | (with_reducible refine Below.drew ?_) | (with_reducible refine below_drewN ?_ _)))⟩
  obtain ⟨h40, -⟩ := famB_facts H1.out.symm
  by_cases hl : xs.length = f.1.length
  rotate_left
  · have hbne : (((xs.length : Int)) != (f.1.length : Int)) = true := by simp; omega
    obtain rfl : r4 = false := by rw [H4.out]; simp [hl]
    obtain rfl : V = false := by rw [HV.out]; rfl
    have HF := Lib.hid (show X = ([], []) by rw [HX.out]; rfl)
    clear HX h h' hl
    go_wp2
    exact bodyPost_ret (v := .tuple #[.agg #[.slice none 0 0, .slice none 0 0], .bool false]) (by simp [results, Try.results43, go_sem, *]) rfl ⟨_, _, rfl, by rw [HF.out]; exact Ow.nilF _ _ _, (by repeat' (first | (with_reducible exact Below.refl _ _) | (with_reducible assumption) | (with_reducible refine Below.alloc ?_ (by first | omega | (simp; omega) | simp) _) | (with_reducible refine Below.setCell ?_ (by first | omega | (simp; omega) | simp) _) | (with_reducible refine Below.drew ?_) | (with_reducible refine below_drewN ?_ _)))⟩
  have hbne : (((xs.length : Int)) != (f.1.length : Int)) = false := by simp [hl]
  obtain rfl : r4 = true := by rw [H4.out]; simp [hl]
  have hl1 : ¬ xs.length < f.1.length := by omega
  have hl2 : ¬ f.1.length < xs.length := by omega
  clear hl
  go_wp2_with fail
  refine (isPermI_b _ _ xs (h'.below (by repeat' (first | (with_reducible exact Below.refl _ _) | (with_reducible assumption) | (with_reducible refine Below.alloc ?_ (by first | omega | (simp; omega) | simp) _) | (with_reducible refine Below.setCell ?_ (by first | omega | (simp; omega) | simp) _) | (with_reducible refine Below.drew ?_) | (with_reducible refine below_drewN ?_ _)))) hxl r2 H2.out).mono ?_
  rintro e2 w2 ⟨rfl, hbw2⟩
  have hpw2 : Below w1.heap.size w1 w2 := Below.after (by repeat' (first | (with_reducible exact Below.refl _ _) | (with_reducible assumption) | (with_reducible refine Below.alloc ?_ (by first | omega | (simp; omega) | simp) _) | (with_reducible refine Below.setCell ?_ (by first | omega | (simp; omega) | simp) _) | (with_reducible refine Below.drew ?_) | (with_reducible refine below_drewN ?_ _))) hbw2 (by first | omega | (simp only [World.size_alloc, World.size_setCell, World.size_drew] at *; omega) | (simp; omega) | simp)
  have sw2 := hpw2.size
  have hBw2 : Below w.heap.size w w2 := Below.trans hBw1 (Below.mono hpw2 hBw1.size)
  have q_f0 := oldc hpw2 l_f q_f0
  have q_f1 := oldc hpw2 l_f q_f1
  have q_r0 := oldc hpw2 l_r q_r0
  have q_r1 := oldc hpw2 l_r q_r1
  have f_r : ∀ o, w2.frozen? ⟨w.heap.size + 1, o, none⟩ = false := fun o => (hpw2.frozen (p := ⟨w.heap.size + 1, o, none⟩) l_r).trans (f_r o)
  have l_f := Nat.lt_of_lt_of_le l_f sw2
  have l_r := Nat.lt_of_lt_of_le l_r sw2
  clear hbw2 hpw2
  cases r2
  · obtain rfl : V = false := by rw [HV.out]; rfl
    have HF := Lib.hid (show X = ([], []) by rw [HX.out]; rfl)
    clear HX h h'
    go_wp2
    exact bodyPost_ret (v := .tuple #[.agg #[.slice none 0 0, .slice none 0 0], .bool false]) (by simp [results, Try.results43, go_sem, *]) rfl ⟨_, _, rfl, by rw [HF.out]; exact Ow.nilF _ _ _, (by repeat' (first | (with_reducible exact Below.refl _ _) | (with_reducible assumption) | (with_reducible refine Below.alloc ?_ (by first | omega | (simp; omega) | simp) _) | (with_reducible refine Below.setCell ?_ (by first | omega | (simp; omega) | simp) _) | (with_reducible refine Below.drew ?_) | (with_reducible refine below_drewN ?_ _)))⟩
  go_wp2_with fail
  refine (orderedI_any (z := z) (z' := z') (lo := lo) (hi := hi) (lo' := lo') (hi' := hi') _ _ _ _ f xs (h.below (by repeat' (first | (with_reducible exact Below.refl _ _) | (with_reducible assumption) | (with_reducible refine Below.alloc ?_ (by first | omega | (simp; omega) | simp) _) | (with_reducible refine Below.setCell ?_ (by first | omega | (simp; omega) | simp) _) | (with_reducible refine Below.drew ?_) | (with_reducible refine below_drewN ?_ _)))) (h'.below (by repeat' (first | (with_reducible exact Below.refl _ _) | (with_reducible assumption) | (with_reducible refine Below.alloc ?_ (by first | omega | (simp; omega) | simp) _) | (with_reducible refine Below.setCell ?_ (by first | omega | (simp; omega) | simp) _) | (with_reducible refine Below.drew ?_) | (with_reducible refine below_drewN ?_ _)))) HK.out).mono ?_
  rintro e3 w3 ⟨oa, ob, rfl, ho, hbw3⟩
  have hpw3 : Below w2.heap.size w2 w3 := Below.after (by repeat' (first | (with_reducible exact Below.refl _ _) | (with_reducible assumption) | (with_reducible refine Below.alloc ?_ (by first | omega | (simp; omega) | simp) _) | (with_reducible refine Below.setCell ?_ (by first | omega | (simp; omega) | simp) _) | (with_reducible refine Below.drew ?_) | (with_reducible refine below_drewN ?_ _))) hbw3 (by first | omega | (simp only [World.size_alloc, World.size_setCell, World.size_drew] at *; omega) | (simp; omega) | simp)
  have sw3 := hpw3.size
  have hBw3 : Below w.heap.size w w3 := Below.trans hBw2 (Below.mono hpw3 hBw2.size)
  have q_f0 := oldc hpw3 l_f q_f0
  have q_f1 := oldc hpw3 l_f q_f1
  have q_r0 := oldc hpw3 l_r q_r0
  have q_r1 := oldc hpw3 l_r q_r1
  have f_r : ∀ o, w3.frozen? ⟨w.heap.size + 1, o, none⟩ = false := fun o => (hpw3.frozen (p := ⟨w.heap.size + 1, o, none⟩) l_r).trans (f_r o)
  have l_f := Nat.lt_of_lt_of_le l_f sw3
  have l_r := Nat.lt_of_lt_of_le l_r sw3
  clear hbw3 hpw3
  obtain ⟨aoO, nO, cpO, boO, mO, dpO, rfl, rfl⟩ := shapeFam ho.rd
  have hlo := hBw2.size
  go_wp2_with fail
  refine (isFamI_b _ _ _ (ordF f xs) (ho.rd.below (by repeat' (first | (with_reducible exact Below.refl _ _) | (with_reducible assumption) | (with_reducible refine Below.alloc ?_ (by first | omega | (simp; omega) | simp) _) | (with_reducible refine Below.setCell ?_ (by first | omega | (simp; omega) | simp) _) | (with_reducible refine Below.drew ?_) | (with_reducible refine below_drewN ?_ _)))) r3 H3.out).mono ?_
  rintro e4 w4 ⟨rfl, hbw4⟩
  have hpw4 : Below w3.heap.size w3 w4 := Below.after (by repeat' (first | (with_reducible exact Below.refl _ _) | (with_reducible assumption) | (with_reducible refine Below.alloc ?_ (by first | omega | (simp; omega) | simp) _) | (with_reducible refine Below.setCell ?_ (by first | omega | (simp; omega) | simp) _) | (with_reducible refine Below.drew ?_) | (with_reducible refine below_drewN ?_ _))) hbw4 (by first | omega | (simp only [World.size_alloc, World.size_setCell, World.size_drew] at *; omega) | (simp; omega) | simp)
  have sw4 := hpw4.size
  have hBw4 : Below w.heap.size w w4 := Below.trans hBw3 (Below.mono hpw4 hBw3.size)
  have q_f0 := oldc hpw4 l_f q_f0
  have q_f1 := oldc hpw4 l_f q_f1
  have q_r0 := oldc hpw4 l_r q_r0
  have q_r1 := oldc hpw4 l_r q_r1
  have f_r : ∀ o, w4.frozen? ⟨w.heap.size + 1, o, none⟩ = false := fun o => (hpw4.frozen (p := ⟨w.heap.size + 1, o, none⟩) l_r).trans (f_r o)
  have l_f := Nat.lt_of_lt_of_le l_f sw4
  have l_r := Nat.lt_of_lt_of_le l_r sw4
  have l_o : w3.heap.size < w4.heap.size := by have := hbw4.size; simp at this; omega
  have q_o0 : w4.cell? ⟨w3.heap.size, 0, none⟩ = some (.slice aoO nO cpO) := oldc hbw4 (by first | omega | (simp; omega) | (simp; done)) (by simp [go_sem])
  have q_o1 : w4.cell? ⟨w3.heap.size, 1, none⟩ = some (.slice boO mO dpO) := oldc hbw4 (by first | omega | (simp; omega) | (simp; done)) (by simp [go_sem])
  have ho := Ow.below ho hpw4
  clear hbw4 hpw4
  cases r3
  · obtain rfl : V = false := by rw [HV.out]; rfl
    have HF := Lib.hid (show X = ([], []) by rw [HX.out]; rfl)
    clear HX h h' ho
    go_wp2
    exact bodyPost_ret (v := .tuple #[.agg #[.slice none 0 0, .slice none 0 0], .bool false]) (by simp [results, Try.results43, go_sem, *]) rfl ⟨_, _, rfl, by rw [HF.out]; exact Ow.nilF _ _ _, (by repeat' (first | (with_reducible exact Below.refl _ _) | (with_reducible assumption) | (with_reducible refine Below.alloc ?_ (by first | omega | (simp; omega) | simp) _) | (with_reducible refine Below.setCell ?_ (by first | omega | (simp; omega) | simp) _) | (with_reducible refine Below.drew ?_) | (with_reducible refine below_drewN ?_ _)))⟩
  obtain rfl : V = true := by rw [HV.out]; rfl
  have HO := Lib.hid (show Ow _ _ _ _ X by rw [HX.out]; exact ho)
  clear HX h h' ho
  go_wp2
  exact bodyPost_ret (v := .tuple #[.agg #[.slice aoO nO cpO, .slice boO mO dpO], .bool true]) (by simp [results, Try.results43, go_sem, *]) rfl ⟨_, _, rfl, (HO.out.keep (by repeat' (first | (with_reducible exact Zone.refl _ _ _) | (with_reducible refine Zone.setCell ?_ (by first | (left; omega) | (right; omega) | (left; simp; omega) | (right; simp; omega) | (left; simp; done)) _) | (with_reducible refine Zone.alloc ?_ (by first | omega | (simp; omega) | simp) _) | (with_reducible refine Zone.drew ?_)))).mono (by omega) (by simp; omega), (by repeat' (first | (with_reducible exact Below.refl _ _) | (with_reducible assumption) | (with_reducible refine Below.alloc ?_ (by first | omega | (simp; omega) | simp) _) | (with_reducible refine Below.setCell ?_ (by first | omega | (simp; omega) | simp) _) | (with_reducible refine Below.drew ?_) | (with_reducible refine below_drewN ?_ _)))⟩
end Go.Proofs.Ytomigopkejlmcaa
