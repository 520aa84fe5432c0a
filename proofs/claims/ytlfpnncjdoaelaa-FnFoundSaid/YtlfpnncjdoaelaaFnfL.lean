/- Plain: the rules that are found are the fewest: none may be left out. -/
import Derived.Test.YtlfpnncjdoaelaaFnr
namespace Go.Proofs.Ytlfpnncjdoaelaa
set_option linter.unusedVariables false
set_option linter.unusedSimpArgs false
open Go.RowKit

/-- Ascending numbers from a one on, below another. -/
def AscF (a n : Nat) (l : List Int) : Prop := (∀ k ∈ l, (a : Int) ≤ k ∧ k < (n : Int)) ∧ l.Pairwise (· < ·)
theorem AscF.nil (a n : Nat) : AscF a n [] := ⟨(fun _ h => by cases h), List.Pairwise.nil⟩
theorem AscF.cons {a n k : Nat} {l : List Int} (h : AscF (k + 1) n l) (ha : a ≤ k) (hk : k < n) : AscF a n ((k : Int) :: l) := by
  refine ⟨fun x hx => ?_, List.Pairwise.cons (fun x hx => by have := (h.1 x hx).1; omega) h.2⟩
  rcases List.mem_cons.1 hx with rfl | hx
  · omega
  · have := h.1 x hx; omega
theorem AscF.uncons {a n : Nat} {x : Int} {l : List Int} (h : AscF a n (x :: l)) : ∃ k : Nat, x = (k : Int) ∧ a ≤ k ∧ k < n ∧ AscF (k + 1) n l := by
  have h1 := h.1 x (by simp)
  obtain ⟨k, rfl⟩ := Int.eq_ofNat_of_zero_le (show 0 ≤ x by omega)
  refine ⟨k, rfl, by omega, by omega, fun y hy => ?_, (List.pairwise_cons.1 h.2).2⟩
  have h2 := (List.pairwise_cons.1 h.2).1 y hy
  have h3 := h.1 y (by simp [hy])
  omega
theorem firstK_sound {f : Nat → Option (List Int)} {m : Nat} : ∀ {a : Nat} {l : List Int}, firstK f a m = some l → ∃ k, a ≤ k ∧ k < a + m ∧ f k = some l := by
  induction m with
  | zero => intro a l h; cases h
  | succ m ih =>
    intro a l h
    rw [firstK] at h
    cases e : f a with
    | none => rw [e] at h; obtain ⟨k, h1, h2, h3⟩ := ih h; exact ⟨k, by omega, by omega, h3⟩
    | some x => rw [e] at h; cases h; exact ⟨a, Nat.le_refl _, by omega, e⟩
theorem firstK_none_all {f : Nat → Option (List Int)} {m : Nat} : ∀ {a : Nat}, firstK f a m = none → ∀ k, a ≤ k → k < a + m → f k = none := by
  induction m with
  | zero => intro a _ k h1 h2; omega
  | succ m ih =>
    intro a h k h1 h2
    rw [firstK] at h
    cases e : f a with
    | none =>
      rw [e] at h
      by_cases hk : k = a
      · rw [hk]; exact e
      · exact ih h k (by omega) (by omega)
    | some x => rw [e] at h; cases h
theorem chooseN_sound {cat : List Rul} {same apart : List TPr} : ∀ (n : Nat) {a : Nat} {front l : List Int}, chooseN cat same apart n a front = some l → ∃ t, l = front ++ t ∧ t.length = n ∧ AscF a cat.length t ∧ solvB (pickR cat l) same apart = true
  | 0, a, front, l, h => by
    rw [chooseN] at h
    split at h
    · rename_i hs
      cases h
      exact ⟨[], by simp, rfl, AscF.nil _ _, hs⟩
    · cases h
  | n + 1, a, front, l, h => by
    rw [chooseN] at h
    obtain ⟨k, h1, h2, h3⟩ := firstK_sound h
    obtain ⟨t, rfl, ht, hasc, hs⟩ := chooseN_sound n h3
    exact ⟨(k : Int) :: t, by simp, by simp [ht], hasc.cons h1 (by omega), hs⟩
theorem chooseN_none {cat : List Rul} {same apart : List TPr} : ∀ (n : Nat) {a : Nat} {front : List Int}, chooseN cat same apart n a front = none → ∀ t : List Int, t.length = n → AscF a cat.length t → solvB (pickR cat (front ++ t)) same apart = false
  | 0, a, front, h, t, ht, _ => by
    rw [chooseN] at h
    obtain rfl := List.eq_nil_of_length_eq_zero ht
    rw [List.append_nil]
    cases hs : solvB (pickR cat front) same apart with
    | false => rfl
    | true => rw [hs] at h; cases h
  | n + 1, a, front, h, t, ht, hasc => by
    match t, ht with
    | x :: t, ht =>
      obtain ⟨k, rfl, h1, h2, h3⟩ := hasc.uncons
      rw [chooseN] at h
      have h4 := firstK_none_all h k h1 (by omega)
      have h5 := chooseN_none n h4 t (by simpa using ht) h3
      rw [List.append_assoc] at h5
      exact h5
theorem leastK_sound {cat : List Rul} {same apart : List TPr} : ∀ (t m : Nat) {l : List Int}, leastK cat same apart m t = some l → ∃ k, m ≤ k ∧ chooseN cat same apart k 0 [] = some l ∧ ∀ j, m ≤ j → j < k → chooseN cat same apart j 0 [] = none
  | 0, m, l, h => by cases h
  | t + 1, m, l, h => by
    rw [leastK] at h
    cases e : chooseN cat same apart m 0 [] with
    | none =>
      rw [e] at h
      obtain ⟨k, h1, h2, h3⟩ := leastK_sound t (m + 1) h
      refine ⟨k, by omega, h2, fun j hj1 hj2 => ?_⟩
      by_cases hj : j = m
      · rw [hj]; exact e
      · exact h3 j (by omega) hj2
    | some x => rw [e] at h; cases h; exact ⟨m, Nat.le_refl _, e, fun j h1 h2 => by omega⟩
/-- What FindRules finds. -/
theorem find_law {cat : List Rul} {same apart : List TPr} {l : List Int} (h : findO cat same apart = some l) :
    findV cat same apart = true ∧ AscF 0 cat.length l ∧ solvB (pickR cat l) same apart = true ∧ ∀ i, i < l.length → solvB (pickR cat (l.eraseIdx i)) same apart = false := by
  unfold findO at h
  split at h
  · rename_i hv
    obtain ⟨n, -, h1, h2⟩ := leastK_sound _ _ h
    obtain ⟨t, ht, htl, hasc, hs⟩ := chooseN_sound n h1
    rw [List.nil_append] at ht
    subst ht
    refine ⟨hv, hasc, hs, fun i hi => ?_⟩
    have hn : n - 1 < n := by omega
    have h3 := chooseN_none (n - 1) (h2 (n - 1) (Nat.zero_le _) hn) (l.eraseIdx i) (by rw [List.length_eraseIdx_of_lt hi, htl]) ⟨fun k hk => hasc.1 k (List.mem_of_mem_eraseIdx hk), hasc.2.sublist (List.eraseIdx_sublist _ _)⟩
    rwa [List.nil_append] at h3
  · cases h
end Go.Proofs.Ytlfpnncjdoaelaa
