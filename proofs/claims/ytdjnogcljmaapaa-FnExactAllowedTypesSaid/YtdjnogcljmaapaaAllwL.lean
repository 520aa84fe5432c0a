/- Plain: how much the allowed types hold. -/
import Derived.Test.YtdjnogcljmaapaaAllwI
import Derived.Test.YtdjnogcljmaapaaDKinType
namespace Go.Proofs.Ytdjnogcljmaapaa
set_option linter.unusedVariables false
set_option linter.unusedSimpArgs false
open Go.RowKit

theorem lenBy_bound {α : Type} {cnt : α → Nat} {m : Nat} : ∀ {xs : List α}, (∀ x ∈ xs, cnt x ≤ m) → lenBy cnt xs ≤ m * xs.length
  | [], _ => by simp [lenBy]
  | x :: xs, h => by
    have h1 := h x (by simp)
    have h2 := lenBy_bound (cnt := cnt) (m := m) (xs := xs) (fun y hy => h y (by simp [hy]))
    rw [lenBy, List.length_cons, Nat.mul_add, Nat.mul_one]; omega
theorem typesX_kin {ego n : Int} {t : Kin} (h : t ∈ typesX ego n) : isKin t = true ∧ t.2.length ≤ 3 ∧ t.1 = ego := by
  unfold typesX at h
  split at h
  · rename_i hv
    unfold typesV at hv
    simp only [Bool.and_eq_true, decide_eq_true_eq] at hv
    have := outT_ok hv.1 n.toNat (by omega) t h
    exact ⟨this.1, by omega, this.2.2⟩
  · cases h
theorem kins_cnt {l : List Kin} {m k : Nat} (h1 : l.length ≤ m) (h2 : ∀ t ∈ l, t.2.length ≤ k) : lenBy cntKin l ≤ (1 + 2 * k) * m :=
  Nat.le_trans (lenBy_bound fun t ht => by have := h2 t ht; unfold cntKin; dsimp only; omega) (Nat.mul_le_mul_left _ h1)
theorem allowX_cnt (c : Cls) (n : Int) : lenBy cntKin (allowX c n) ≤ 20000 := by
  refine Nat.le_trans (kins_cnt (m := 600) (k := 3) ?_ ?_) (by omega)
  · unfold allowX allowL
    split
    · exact Nat.le_trans (List.length_filter_le _ _) (typesX_len 1 n)
    · simp
  · intro t ht
    unfold allowX allowL at ht
    split at ht
    · exact (typesX_kin (List.mem_filter.1 ht).1).2.1
    · cases ht
end Go.Proofs.Ytdjnogcljmaapaa
