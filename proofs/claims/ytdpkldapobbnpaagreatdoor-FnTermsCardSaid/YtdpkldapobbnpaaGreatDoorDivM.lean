/- Texts laid one behind the other (merge.py): Div, Rev, Rec. -/
import Derived.Test.YtdpkldapobbnpaaGreatDoorTrmC
import Derived.Test.YtdpkldapobbnpaaGreatDoorRulM
import Derived.Test.YtdpkldapobbnpaaGreatDoorBase
namespace Go.Proofs.YtdpkldapobbnpaaGreatDoor
set_option linter.unusedVariables false
set_option linter.unusedSimpArgs false
open Go.RowKit
section
theorem agr_eq (a b : Option ByteArray) : (decide (a.isSome = b.isSome) && decide (tmText a = tmText b)) = decide (a = b) := by
 cases a <;> cases b
 ·simp [tmText]
 ·simp [tmText]
 ·simp [tmText]
 ·rename_i x y
  have : decide ((some x).isSome = (some y).isSome) = true := by simp
  rw [this, Bool.true_and]
  exact decide_eq_decide.2 (by simp [tmText])
def agD (y z : Trm) (T : List Kin) (i j : Nat) : Bool :=
 match T[i]?, T[j]? with
 | some s, some t => decide (decide (termOf y s = termOf y t) = decide (termOf z s = termOf z t))
 | _, _ => true
def rowD (y z : Trm) (T : List Kin) (i j : Nat) : Bool := (List.range j).all (agD y z T i)
def divD (y z : Trm) (T : List Kin) (m : Nat) : Bool := (List.range m).all fun i => rowD y z T i i
def sameV (y z : Trm) (n : Int) : Bool := isTerm y && (isTerm z && decide (1 ≤ n ∧ n ≤ 3))
def sameDiv (y z : Trm) (n : Int) : Bool := sameV y z n && (divD y z (typesX 1 n) (typesX 1 n).length && divD y z (typesX 2 n) (typesX 2 n).length)
theorem rowD_succ (y z : Trm) (T : List Kin) (i j : Nat) : rowD y z T i (j + 1) = (rowD y z T i j && agD y z T i j) := by
 unfold rowD; rw [List.range_succ, List.all_append]; simp
theorem divD_succ (y z : Trm) (T : List Kin) (m : Nat) : divD y z T (m + 1) = (divD y z T m && rowD y z T m m) := by
 unfold divD; rw [List.range_succ, List.all_append]; simp
theorem rowD_bad {y z : Trm} {T : List Kin} {i j k : Nat} (hj : j < k) (h : agD y z T i j = false) : rowD y z T i k = false := by
 unfold rowD
 rw [List.all_eq_false]
 exact ⟨j, List.mem_range.2 hj, by rw [h]; decide⟩
theorem divD_bad {y z : Trm} {T : List Kin} {i m : Nat} (hi : i < m) (h : rowD y z T i i = false) : divD y z T m = false := by
 unfold divD
 rw [List.all_eq_false]
 exact ⟨i, List.mem_range.2 hi, by rw [h]; decide⟩
theorem divF_end {R D d1 d2 : Bool} {x : Bool} {k : Nat} (hR : R = (d1 && d2)) (hD : D = x) (h : (k = 0 → D = d1) ∧ (k = 1 → D = d2)) (hk : k < 2) (hx : x = false) : R = false := by
 subst hx
 by_cases h0 : k = 0
 ·rw [hR, ← h.1 h0, hD]; rfl
 ·rw [hR, ← h.2 (by omega), hD, Bool.and_false]
end
section
def backSt (s : Stp) (sex : Int) : Stp :=
 if s.1 = 1 ∨ s.1 = 2 then (if sex = 1 then 5 else 6, 0)
 else if s.1 = 5 ∨ s.1 = 6 then (if sex = 1 then 1 else 2, 0)
 else if s.1 = 3 ∨ s.1 = 4 then (if sex = 1 then 3 else 4, if s.2 = 0 then 0 else 3 - s.2)
 else if s.1 = 7 then (8, 0) else (7, 0)
def backs : Int → List Stp → List Stp
 | _, [] => []
 | sex, s :: l => backSt s sex :: backs (stSex s.1) l
def revV (t : Kin) : Bool := isKin t && decide (t.2 = [] ∨ egoOf t ≠ 0)
def revK (t : Kin) : Kin := (sexOf t, (backs (egoOf t) t.2).reverse)
def revX (t : Kin) : Kin := if revV t = true then revK t else (0, [])
theorem backs_len : ∀ (l : List Stp) (sex : Int), (backs sex l).length = l.length
 | [], _ => rfl
 | s :: l, sex => by rw [backs, List.length_cons, List.length_cons, backs_len l]
theorem backs_at : ∀ (l : List Stp) (sex : Int) (i : Nat) (s : Stp), l[i]? = some s → (backs sex l)[i]? = some (backSt s (match i with | 0 => sex | k + 1 => match l[k]? with | some x => stSex x.1 | none => 0))
 | [], _, i, s, h => by simp at h
 | x :: l, sex, 0, s, h => by simp at h; subst h; rfl
 | x :: l, sex, 1, s, h => by
   have := backs_at l (stSex x.1) 0 s (by simpa using h)
   simpa [backs] using this
 | x :: l, sex, k + 2, s, h => by
   have := backs_at l (stSex x.1) (k + 1) s (by simpa using h)
   simpa [backs] using this
theorem revK_at {t : Kin} {i : Nat} {s : Stp} (h : t.2[i]? = some s) : (backs (egoOf t) t.2)[i]? = some (backSt s (sexAt t i)) := by
 rw [backs_at _ _ _ _ h]
 cases i with
 | zero => rfl
 | succ k => rfl
theorem drop_rev {α : Type} {l : List α} {i : Nat} {x : α} (h : l[i]? = some x) : (l.drop i).reverse = (l.drop (i + 1)).reverse ++ [x] := by
 rw [drop_cons h, List.reverse_cons]
theorem sexEnd_app (a b : List Stp) (sex : Int) : sexEnd sex (a ++ b) = sexEnd (sexEnd sex a) b := by
 induction a generalizing sex with
 | nil => rfl
 | cons s a ih => rw [List.cons_append, sexEnd_cons, ih, sexEnd_cons]
theorem back_fits {s : Stp} {sex : Int} (hs : sex = 1 ∨ sex = 2) (h : stFits s sex = true) : stFits (backSt s sex) (stSex s.1) = true ∧ stSex (backSt s sex).1 = sex := by
 obtain ⟨⟨h1, h2⟩, ⟨h3, h4⟩, h5, h6⟩ := stFits_facts h
 obtain ⟨k, a⟩ := s
 dsimp only at *
 have hk : k = 1 ∨ k = 2 ∨ k = 3 ∨ k = 4 ∨ k = 5 ∨ k = 6 ∨ k = 7 ∨ k = 8 := by omega
 have ha : a = 0 ∨ a = 1 ∨ a = 2 := by omega
 rcases hk with rfl | rfl | rfl | rfl | rfl | rfl | rfl | rfl <;> rcases ha with rfl | rfl | rfl <;> rcases hs with rfl | rfl <;>
  first
  | exact ⟨by decide, by decide⟩
  | (exfalso; omega)
theorem back_kin : ∀ (l : List Stp) (sex : Int), (sex = 1 ∨ sex = 2) → kinGo sex l = true → kinGo (sexEnd sex l) (backs sex l).reverse = true ∧ sexEnd (sexEnd sex l) (backs sex l).reverse = sex
 | [], _, _, _ => ⟨rfl, rfl⟩
 | s :: l, sex, hs, h => by
   rw [kinGo, Bool.and_eq_true] at h
   obtain ⟨i1, i2⟩ := back_kin l (stSex s.1) (stSex_in _) h.2
   obtain ⟨b1, b2⟩ := back_fits hs h.1
   rw [backs, List.reverse_cons, sexEnd_cons, kinGo_app, sexEnd_app, i1, i2, Bool.true_and]
   refine ⟨?_, ?_⟩
   ·rw [kinGo, kinGo, b1]; rfl
   ·rw [sexEnd_cons, b2]; rfl
theorem revX_kin (t : Kin) : isKin (revX t) = true := by
 unfold revX
 split
 ·rename_i h
  unfold revV at h
  simp only [Bool.and_eq_true, decide_eq_true_eq] at h
  obtain ⟨hk, he⟩ := h
  obtain ⟨h1, h2, h3, -⟩ := isKin_facts hk
  unfold revK isKin
  dsimp only
  simp only [Bool.and_eq_true, decide_eq_true_eq]
  refine ⟨?_, by rw [List.length_reverse, backs_len]; exact h2, ?_⟩
  ·unfold sexOf
   split
   ·rename_i s _; rcases stSex_in s.1 with e | e <;> rw [e] <;> omega
   ·exact h1
  ·rcases he with he | he
   ·rw [he]; rfl
   ·have hin := egoOf_in hk
    have hg := kinGo_ego hk
    have := (back_kin t.2 (egoOf t) (by omega) hg).1
    cases hl : t.2 with
    | nil => rfl
    | cons s l =>
      have e : sexOf t = sexEnd (egoOf t) t.2 := by
       unfold sexOf sexEnd
       cases hx : t.2.getLast? with
       | none => rw [hl] at hx; simp at hx
       | some z => rfl
      rw [← hl, e]; exact this
 ·rfl
end
section
def recB (y : Trm) (T : List Kin) (i j : Nat) : Bool :=
 match T[i]?, T[j]? with
 | some s, some t => !((termOf y s).isSome && (decide (termOf y s = termOf y t) && decide (sexOf s = sexOf t))) || decide (termOf y (revX s) = termOf y (revX t))
 | _, _ => true
def rowR (y : Trm) (T : List Kin) (i j : Nat) : Bool := (List.range j).all (recB y T i)
def divR (y : Trm) (T : List Kin) (m : Nat) : Bool := (List.range m).all fun i => rowR y T i i
def isRecip (y : Trm) (n : Int) : Bool := (isTerm y && decide (1 ≤ n ∧ n ≤ 3)) && (divR y (typesX 1 n) (typesX 1 n).length && divR y (typesX 2 n) (typesX 2 n).length)
theorem rowR_succ (y : Trm) (T : List Kin) (i j : Nat) : rowR y T i (j + 1) = (rowR y T i j && recB y T i j) := by
 unfold rowR; rw [List.range_succ, List.all_append]; simp
theorem divR_succ (y : Trm) (T : List Kin) (m : Nat) : divR y T (m + 1) = (divR y T m && rowR y T m m) := by
 unfold divR; rw [List.range_succ, List.all_append]; simp
theorem rowR_bad {y : Trm} {T : List Kin} {i j k : Nat} (hj : j < k) (h : recB y T i j = false) : rowR y T i k = false := by
 unfold rowR
 rw [List.all_eq_false]
 exact ⟨j, List.mem_range.2 hj, by rw [h]; decide⟩
theorem divR_bad {y : Trm} {T : List Kin} {i m : Nat} (hi : i < m) (h : rowR y T i i = false) : divR y T m = false := by
 unfold divR
 rw [List.all_eq_false]
 exact ⟨i, List.mem_range.2 hi, by rw [h]; decide⟩
theorem recB_at {y : Trm} {T : List Kin} {i j : Nat} {s t : Kin} (hs : T[i]? = some s) (ht : T[j]? = some t) : recB y T i j = (!((termOf y s).isSome && (decide (termOf y s = termOf y t) && decide (sexOf s = sexOf t))) || decide (termOf y (revX s) = termOf y (revX t))) := by
 unfold recB; rw [hs, ht]
end
end Go.Proofs.YtdpkldapobbnpaaGreatDoor
