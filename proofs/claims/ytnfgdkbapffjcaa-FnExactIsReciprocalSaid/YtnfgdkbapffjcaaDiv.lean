/- Plain: the same division (SameDivision). -/
import Derived.Test.YtnfgdkbapffjcaaTrmC
namespace Go.Proofs.Ytnfgdkbapffjcaa
set_option linter.unusedVariables false
set_option linter.unusedSimpArgs false
open Go.RowKit

theorem agr_eq (a b : Option ByteArray) : (decide (a.isSome = b.isSome) && decide (tmText a = tmText b)) = decide (a = b) := by
  cases a <;> cases b
  · simp [tmText]
  · simp [tmText]
  · simp [tmText]
  · rename_i x y
    have : decide ((some x).isSome = (some y).isSome) = true := by simp
    rw [this, Bool.true_and]
    exact decide_eq_decide.2 (by simp [tmText])
theorem txt_eq {y : Trm} (h : true = isTerm y) (s t : Kin) : decide (tmText (termOf y s) = tmText (termOf y t)) = decide (termOf y s = termOf y t) := by
  have ne : ∀ (k : Kin) (x : ByteArray), termOf y k = some x → x ≠ ByteArray.empty := by
    rintro k x e rfl
    exact absurd (termOf_ne h.symm e) (by decide)
  cases e1 : termOf y s <;> cases e2 : termOf y t
  · simp
  · rename_i x
    have := ne _ _ e2
    simp only [tmText]
    exact decide_eq_decide.2 ⟨fun e => absurd e.symm this, fun e => by cases e⟩
  · rename_i x
    have := ne _ _ e1
    simp only [tmText]
    exact decide_eq_decide.2 ⟨fun e => absurd e this, fun e => by cases e⟩
  · exact decide_eq_decide.2 (by simp [tmText])
/-- Two types, by their places, are named alike by both terminologies or by neither. -/
def agD (y z : Trm) (T : List Kin) (i j : Nat) : Bool :=
  match T[i]?, T[j]? with
  | some s, some t => decide (decide (termOf y s = termOf y t) = decide (termOf z s = termOf z t))
  | _, _ => true
def rowD (y z : Trm) (T : List Kin) (i j : Nat) : Bool := (List.range j).all (agD y z T i)
def divD (y z : Trm) (T : List Kin) (m : Nat) : Bool := (List.range m).all fun i => rowD y z T i i
def sameV (y z : Trm) (n : Int) : Bool := isTerm y && (isTerm z && decide (1 ≤ n ∧ n ≤ 3))
def sameDiv (y z : Trm) (n : Int) : Bool := sameV y z n && (divD y z (typesX 1 n) (typesX 1 n).length && divD y z (typesX 2 n) (typesX 2 n).length)
theorem rowD_succ (y z : Trm) (T : List Kin) (i j : Nat) : rowD y z T i (j + 1) = (rowD y z T i j && agD y z T i j) := by
  unfold rowD; rw [List.range_succ, List.all_append]; simp
theorem divD_succ (y z : Trm) (T : List Kin) (m : Nat) : divD y z T (m + 1) = (divD y z T m && rowD y z T m m) := by
  unfold divD; rw [List.range_succ, List.all_append]; simp
theorem rowD_bad {y z : Trm} {T : List Kin} {i j k : Nat} (hj : j < k) (h : agD y z T i j = false) : rowD y z T i k = false := by
  unfold rowD
  rw [List.all_eq_false]
  exact ⟨j, List.mem_range.2 hj, by rw [h]; decide⟩
theorem divD_bad {y z : Trm} {T : List Kin} {i m : Nat} (hi : i < m) (h : rowD y z T i i = false) : divD y z T m = false := by
  unfold divD
  rw [List.all_eq_false]
  exact ⟨i, List.mem_range.2 hi, by rw [h]; decide⟩
theorem divF_end {R D d1 d2 : Bool} {x : Bool} {k : Nat} (hR : R = (d1 && d2)) (hD : D = x) (h : (k = 0 → D = d1) ∧ (k = 1 → D = d2)) (hk : k < 2) (hx : x = false) : R = false := by
  subst hx
  by_cases h0 : k = 0
  · rw [hR, ← h.1 h0, hD]; rfl
  · rw [hR, ← h.2 (by omega), hD, Bool.and_false]
end Go.Proofs.Ytnfgdkbapffjcaa
