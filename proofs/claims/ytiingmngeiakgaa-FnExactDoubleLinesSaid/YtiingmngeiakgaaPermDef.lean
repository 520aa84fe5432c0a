/- Plain: what the functions on permutations compute. -/
import Derived.Test.YtiingmngeiakgaaLib
namespace Go.Proofs.Ytiingmngeiakgaa
set_option linter.unusedVariables false
set_option linter.unusedSimpArgs false

def permGo (n : Nat) : List Bool → List Int → Bool
  | _, [] => true
  | seen, x :: xs => if 0 ≤ x ∧ x < n ∧ seen.getD x.toNat true = false then permGo n (seen.set x.toNat true) xs else false
def isPerm (xs : List Int) : Bool := permGo xs.length (List.replicate xs.length false) xs

def invGo (n : Nat) : List Int → Nat → List Int → Option (List Int)
  | out, _, [] => some out
  | out, k, x :: xs => if 0 ≤ x ∧ x < n ∧ out.getD x.toNat 0 < 0 then invGo n (out.set x.toNat k) (k + 1) xs else none
def l1Inv (order : List Int) (n : Nat) : Option (List Int) := if order.length = n then invGo n (List.replicate n (-1)) 0 order else none

def invSet : List Int → Nat → List Int → List Int
  | out, _, [] => out
  | out, k, x :: xs => invSet (out.set x.toNat k) (k + 1) xs
def inv (p : List Int) : List Int := invSet (List.replicate p.length 0) 0 p

def comp (p q : List Int) : List Int := p.map fun x => q.getD x.toNat 0

def InRange (n : Nat) (p : List Int) : Prop := ∀ x ∈ p, 0 ≤ x ∧ x < n

theorem permGo_range {n : Nat} : ∀ {seen : List Bool} {xs : List Int}, permGo n seen xs = true → InRange n xs
  | _, [], _ => fun x h => by cases h
  | seen, x :: xs, h => by
    rw [permGo] at h
    by_cases c : 0 ≤ x ∧ x < n ∧ seen.getD x.toNat true = false
    · rw [if_pos c] at h
      intro y hy
      rcases List.mem_cons.1 hy with rfl | hy
      · exact ⟨c.1, c.2.1⟩
      · exact permGo_range h y hy
    · rw [if_neg c] at h; cases h
theorem isPerm_range {xs : List Int} (h : isPerm xs = true) : InRange xs.length xs := permGo_range h

/-- The positions not yet seen, and what will fill them. -/
theorem permGo_invGo (n : Nat) : ∀ (xs : List Int) (seen : List Bool) (out : List Int) (k : Nat), seen.length = n → out.length = n → (∀ i, i < n → (seen.getD i true = false ↔ out.getD i 0 < 0)) →
    permGo n seen xs = (invGo n out k xs).isSome
  | [], _, _, _, _, _, _ => rfl
  | x :: xs, seen, out, k, h1, h2, h3 => by
    rw [permGo, invGo]
    by_cases c : 0 ≤ x ∧ x < n
    · obtain ⟨c1, c2⟩ := c
      have hi : x.toNat < n := by omega
      have := h3 x.toNat hi
      by_cases d : seen.getD x.toNat true = false
      · rw [if_pos ⟨c1, c2, d⟩, if_pos ⟨c1, c2, this.1 d⟩]
        refine permGo_invGo n xs _ _ (k + 1) (by simpa using h1) (by simpa using h2) fun i hi' => ?_
        simp only [List.getD_eq_getElem?_getD, List.getElem?_set]
        by_cases e : x.toNat = i
        · subst e; rw [if_pos rfl, if_pos rfl, if_pos (by omega), if_pos (by omega)]; simp
        · rw [if_neg e, if_neg e]
          have := h3 i hi'
          simpa only [List.getD_eq_getElem?_getD] using this
      · rw [if_neg (fun h => d h.2.2), if_neg (fun h => d (this.2 h.2.2))]; rfl
    · rw [if_neg (fun h => c ⟨h.1, h.2.1⟩), if_neg (fun h => c ⟨h.1, h.2.1⟩)]; rfl

theorem l1Inv_isPerm (xs : List Int) : isPerm xs = (l1Inv xs xs.length).isSome := by
  rw [l1Inv, if_pos rfl, isPerm]
  refine permGo_invGo _ xs _ _ 0 (by simp) (by simp) fun i hi => ?_
  simp [List.getD_eq_getElem?_getD, List.getElem?_replicate, hi]

theorem invSet_len : ∀ (xs : List Int) (out : List Int) (k : Nat), (invSet out k xs).length = out.length
  | [], _, _ => rfl
  | x :: xs, out, k => by rw [invSet, invSet_len xs]; simp

/-- What has not been written stands as it was. -/
theorem invSet_out : ∀ (xs : List Int) (out : List Int) (k i : Nat), (∀ x ∈ xs, x.toNat ≠ i) → (invSet out k xs)[i]? = out[i]?
  | [], _, _, _, _ => rfl
  | x :: xs, out, k, i, h => by
    rw [invSet, invSet_out xs _ _ i (fun y hy => h y (List.mem_cons_of_mem _ hy)), List.getElem?_set_ne (h x List.mem_cons_self)]
/-- The last writing counts; with different numbers the only one. -/
theorem invSet_in : ∀ (xs : List Int) (out : List Int) (k j : Nat) (x : Int), (xs.map Int.toNat).Nodup → xs[j]? = some x → x.toNat < out.length → (invSet out k xs)[x.toNat]? = some ((k + j : Nat) : Int)
  | [], _, _, j, x, _, h, _ => by simp at h
  | y :: xs, out, k, 0, x, hn, h, hl => by
    simp at h; subst h
    rw [invSet, invSet_out]
    · simp [hl]
    · intro z hz e
      simp only [List.map_cons, List.nodup_cons] at hn
      exact hn.1 (List.mem_map.2 ⟨z, hz, e⟩)
  | y :: xs, out, k, j + 1, x, hn, h, hl => by
    simp only [List.map_cons, List.nodup_cons] at hn
    rw [invSet, invSet_in xs _ (k + 1) j x hn.2 (by simpa using h) (by simpa using hl)]
    congr 2; omega

theorem invGo_invSet (n : Nat) : ∀ (xs : List Int) (out r : List Int) (k : Nat), invGo n out k xs = some r → r = invSet out k xs
  | [], out, r, k, h => by simp [invGo] at h; rw [invSet, h]
  | x :: xs, out, r, k, h => by
    rw [invGo] at h
    by_cases c : 0 ≤ x ∧ x < n ∧ out.getD x.toNat 0 < 0
    · rw [if_pos c] at h; rw [invSet]; exact invGo_invSet n xs _ r _ h
    · rw [if_neg c] at h; cases h

theorem permGo_nodup {n : Nat} : ∀ (xs : List Int) (seen : List Bool), seen.length = n → permGo n seen xs = true → (xs.map Int.toNat).Nodup ∧ ∀ x ∈ xs, seen.getD x.toNat true = false
  | [], _, _, _ => ⟨by simp, fun x h => by cases h⟩
  | x :: xs, seen, hl, h => by
    rw [permGo] at h
    by_cases c : 0 ≤ x ∧ x < n ∧ seen.getD x.toNat true = false
    · rw [if_pos c] at h
      obtain ⟨h1, h2⟩ := permGo_nodup xs _ (by simpa using hl) h
      have hne : ∀ y ∈ xs, y.toNat ≠ x.toNat := by
        intro y hy e
        have := h2 y hy
        rw [e] at this
        simp only [List.getD_eq_getElem?_getD, List.getElem?_set] at this
        have h3 : x.toNat < seen.length := by omega
        simp [h3] at this
      refine ⟨?_, fun y hy => ?_⟩
      · simp only [List.map_cons, List.nodup_cons]
        refine ⟨fun hm => ?_, h1⟩
        obtain ⟨y, hy, e⟩ := List.mem_map.1 hm
        exact hne y hy e
      · rcases List.mem_cons.1 hy with rfl | hy
        · exact c.2.2
        · have := h2 y hy
          simp only [List.getD_eq_getElem?_getD] at this ⊢
          rwa [List.getElem?_set_ne (hne y hy).symm] at this
    · rw [if_neg c] at h; cases h
theorem isPerm_nodup {xs : List Int} (h : isPerm xs = true) : (xs.map Int.toNat).Nodup := (permGo_nodup xs _ (by simp) h).1

/-- Different numbers below n, n of them: each is met. -/
theorem pigeon (n : Nat) (l : List Nat) (hn : l.Nodup) (hl : ∀ x ∈ l, x < n) (hlen : l.length = n) (i : Nat) (hi : i < n) : i ∈ l := by
  refine Classical.byContradiction fun hni => ?_
  have h1 : (i :: l).Nodup := List.nodup_cons.2 ⟨hni, hn⟩
  have h2 : (i :: l) ⊆ List.range n := fun x hx => by
    rcases List.mem_cons.1 hx with rfl | hx
    · exact List.mem_range.2 hi
    · exact List.mem_range.2 (hl x hx)
  have := h1.length_le_of_subset h2
  simp at this; omega

theorem isPerm_onto {xs : List Int} (h : isPerm xs = true) {i : Nat} (hi : i < xs.length) : ∃ j x, xs[j]? = some x ∧ x.toNat = i ∧ j < xs.length := by
  have hr := isPerm_range h
  have hm : i ∈ xs.map Int.toNat := pigeon xs.length _ (isPerm_nodup h) (fun x hx => by
    obtain ⟨y, hy, rfl⟩ := List.mem_map.1 hx
    have := hr y hy; omega) (by simp) i hi
  obtain ⟨x, hx, e⟩ := List.mem_map.1 hm
  obtain ⟨j, hj⟩ := List.mem_iff_getElem?.1 hx
  exact ⟨j, x, hj, e, (List.getElem?_eq_some_iff.1 hj).1⟩

theorem invSet_perm {xs a b : List Int} (h : isPerm xs = true) (ha : a.length = xs.length) (hb : b.length = xs.length) : invSet a 0 xs = invSet b 0 xs := by
  apply List.ext_getElem?
  intro i
  by_cases hi : i < xs.length
  · obtain ⟨j, x, hj, rfl, hjl⟩ := isPerm_onto h hi
    rw [invSet_in xs a 0 j x (isPerm_nodup h) hj (by omega), invSet_in xs b 0 j x (isPerm_nodup h) hj (by omega)]
  · rw [List.getElem?_eq_none (by rw [invSet_len]; omega), List.getElem?_eq_none (by rw [invSet_len]; omega)]

/-- Both ways of turning a permutation round come to one. -/
theorem l1Inv_eq (xs : List Int) : l1Inv xs xs.length = if isPerm xs = true then some (inv xs) else none := by
  have h := l1Inv_isPerm xs
  cases hp : isPerm xs with
  | false =>
    rw [hp] at h
    cases hl : l1Inv xs xs.length with
    | none => rfl
    | some r => rw [hl] at h; cases h
  | true =>
    rw [hp] at h
    cases hl : l1Inv xs xs.length with
    | none => rw [hl] at h; cases h
    | some r =>
      rw [l1Inv, if_pos rfl] at hl
      have := invGo_invSet _ _ _ _ _ hl
      rw [this, if_pos rfl, inv]
      exact congrArg some (invSet_perm hp (by simp) (by simp))
theorem inv_len (xs : List Int) : (inv xs).length = xs.length := by rw [inv, invSet_len]; simp
theorem comp_len (p q : List Int) : (comp p q).length = p.length := by simp [comp]

theorem invSet_range : ∀ (xs out : List Int) (k n : Nat), InRange n out → k + xs.length ≤ n → InRange n (invSet out k xs)
  | [], _, _, _, h, _ => h
  | x :: xs, out, k, n, h, hk => by
    rw [invSet]
    refine invSet_range xs _ _ _ (fun y hy => ?_) (by simp at hk; omega)
    simp only [List.length_cons] at hk
    rcases List.mem_or_eq_of_mem_set hy with hy | rfl
    · exact h y hy
    · omega
theorem inv_range {xs : List Int} : InRange xs.length (inv xs) := by
  cases xs with
  | nil => intro x hx; simp [inv, invSet] at hx
  | cons x xs => exact invSet_range _ _ _ _ (fun y hy => by rw [(List.mem_replicate.1 hy).2]; simp) (by simp)

end Go.Proofs.Ytiingmngeiakgaa
