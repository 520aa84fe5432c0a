/- Plain: reciprocal terms (IsReciprocal). -/
import Derived.Test.YtnfgdkbapffjcaaDiv
import Derived.Test.YtnfgdkbapffjcaaRev
namespace Go.Proofs.Ytnfgdkbapffjcaa
set_option linter.unusedVariables false
set_option linter.unusedSimpArgs false
open Go.RowKit

/-- Two types with one term (by their places), that lead to one sex, are answered by one term or by none. -/
def recB (y : Trm) (T : List Kin) (i j : Nat) : Bool :=
  match T[i]?, T[j]? with
  | some s, some t => !((termOf y s).isSome && (decide (termOf y s = termOf y t) && decide (sexOf s = sexOf t))) || decide (termOf y (revX s) = termOf y (revX t))
  | _, _ => true
def rowR (y : Trm) (T : List Kin) (i j : Nat) : Bool := (List.range j).all (recB y T i)
def divR (y : Trm) (T : List Kin) (m : Nat) : Bool := (List.range m).all fun i => rowR y T i i
def isRecip (y : Trm) (n : Int) : Bool := (isTerm y && decide (1 ≤ n ∧ n ≤ 3)) && (divR y (typesX 1 n) (typesX 1 n).length && divR y (typesX 2 n) (typesX 2 n).length)
theorem rowR_succ (y : Trm) (T : List Kin) (i j : Nat) : rowR y T i (j + 1) = (rowR y T i j && recB y T i j) := by
  unfold rowR; rw [List.range_succ, List.all_append]; simp
theorem divR_succ (y : Trm) (T : List Kin) (m : Nat) : divR y T (m + 1) = (divR y T m && rowR y T m m) := by
  unfold divR; rw [List.range_succ, List.all_append]; simp
theorem rowR_bad {y : Trm} {T : List Kin} {i j k : Nat} (hj : j < k) (h : recB y T i j = false) : rowR y T i k = false := by
  unfold rowR
  rw [List.all_eq_false]
  exact ⟨j, List.mem_range.2 hj, by rw [h]; decide⟩
theorem divR_bad {y : Trm} {T : List Kin} {i m : Nat} (hi : i < m) (h : rowR y T i i = false) : divR y T m = false := by
  unfold divR
  rw [List.all_eq_false]
  exact ⟨i, List.mem_range.2 hi, by rw [h]; decide⟩
theorem recB_at {y : Trm} {T : List Kin} {i j : Nat} {s t : Kin} (hs : T[i]? = some s) (ht : T[j]? = some t) : recB y T i j = (!((termOf y s).isSome && (decide (termOf y s = termOf y t) && decide (sexOf s = sexOf t))) || decide (termOf y (revX s) = termOf y (revX t))) := by
  unfold recB; rw [hs, ht]
end Go.Proofs.Ytnfgdkbapffjcaa
