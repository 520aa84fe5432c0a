/- Contracts of the functions on permutations. -/
import Derived.Test.YtiingmngeiakgaaCls
import Derived.Test.YtiingmngeiakgaaPermDef
namespace Go.Proofs.Ytiingmngeiakgaa
set_option linter.unusedVariables false
set_option linter.unusedSimpArgs false
open Go.RowKit

theorem l1In_any (x a b : Int) (w : World) :
    Calls Try.prog 68 #[.int .i64 x, .int .i64 a, .int .i64 b] w (PostB w (decide (a ≤ x ∧ x ≤ b))) := by
  by_cases h1 : a ≤ x
  · by_cases h2 : x ≤ b
    · have HF := Lib.hid (show decide (a ≤ x ∧ x ≤ b) = true by simp [h1, h2])
      rw [HF.out]
      go_enter Try.func68, Try.ntmps68
      go_wp2
      go_ret
      exact ⟨rfl, Below.refl _ _⟩
    · have HF := Lib.hid (show decide (a ≤ x ∧ x ≤ b) = false by simp [h2])
      rw [HF.out]
      go_enter Try.func68, Try.ntmps68
      go_wp2
      go_ret
      exact ⟨rfl, Below.refl _ _⟩
  · have HF := Lib.hid (show decide (a ≤ x ∧ x ≤ b) = false by simp [h1])
    rw [HF.out]
    go_enter Try.func68, Try.ntmps68
    go_wp2
    go_ret
    exact ⟨rfl, Below.refl _ _⟩
theorem l1In_b (x a b : Int) (w : World) (r : Bool) (h : r = decide (a ≤ x ∧ x ≤ b)) :
    Calls Try.prog 68 #[.int .i64 x, .int .i64 a, .int .i64 b] w (PostB w r) := h ▸ l1In_any x a b w

theorem permGo_no1 {n : Nat} {s : List Bool} {x : Int} {xs : List Int} (h : x < 0) : permGo n s (x :: xs) = false := by rw [permGo, if_neg]; omega
theorem permGo_no2 {n : Nat} {s : List Bool} {x : Int} {xs : List Int} (h : n ≤ x) : permGo n s (x :: xs) = false := by rw [permGo, if_neg]; omega
theorem permGo_no3 {n : Nat} {s : List Bool} {m : Nat} {xs : List Int} (h : s[m]? = some true) : permGo n s (m :: xs) = false := by
  rw [permGo, if_neg]; intro hh; have := hh.2.2; simp [List.getD_eq_getElem?_getD, h] at this
theorem permGo_yes {n : Nat} {s : List Bool} {m : Nat} {xs : List Int} (hm : m < n) (h : s[m]? = some false) : permGo n s (m :: xs) = permGo n (s.set m true) xs := by
  rw [permGo, if_pos]
  · simp
  · simp [List.getD_eq_getElem?_getD, h]; omega


/-- A slice and true come back, or nothing and false. -/
def PostOk {α : Type} [Rep α] (w : World) (r : Option α) (e : Ending) (w' : World) : Prop :=
  (match r with
   | some x => ∃ u, e = .returned (.tuple #[u, .bool true]) ∧ Ow w.heap.size w'.heap.size w' [u] x
   | none => e = .returned (.tuple #[.slice none 0 0, .bool false])) ∧ Below w.heap.size w w'

theorem invGo_no1 {n : Nat} {s : List Int} {k : Nat} {x : Int} {xs : List Int} (h : x < 0) : invGo n s k (x :: xs) = none := by rw [invGo, if_neg]; omega
theorem invGo_no2 {n : Nat} {s : List Int} {k : Nat} {x : Int} {xs : List Int} (h : n ≤ x) : invGo n s k (x :: xs) = none := by rw [invGo, if_neg]; omega
theorem invGo_no3 {n : Nat} {s : List Int} {k m : Nat} {y : Int} {xs : List Int} (h : s[m]? = some y) (hy : 0 ≤ y) : invGo n s k (m :: xs) = none := by
  rw [invGo, if_neg]; intro hh; have := hh.2.2; simp [List.getD_eq_getElem?_getD, h] at this; omega
theorem invGo_yes {n : Nat} {s : List Int} {k m : Nat} {y : Int} {xs : List Int} (hm : m < n) (h : s[m]? = some y) (hy : y < 0) : invGo n s k (m :: xs) = invGo n (s.set m k) (k + 1) xs := by
  rw [invGo, if_pos]
  · simp
  · simp [List.getD_eq_getElem?_getD, h]; omega

theorem rep_set_snoc {α : Type} {n k : Nat} {a b : α} (h : k < n) : (List.replicate k a ++ List.replicate (n - k) b).set k a = List.replicate (k + 1) a ++ List.replicate (n - (k + 1)) b := by
  rw [List.set_append_right _ _ (by simp)]
  have e : n - k = (n - (k + 1)) + 1 := by omega
  rw [e, List.replicate_succ]
  simp [List.replicate_succ']

end Go.Proofs.Ytiingmngeiakgaa
