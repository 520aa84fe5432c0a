/- Contracts: all permutations of n numbers. -/
import Derived.Test.YtoipdgoejichbaaBase
namespace Go.Proofs.Ytoipdgoejichbaa
set_option linter.unusedVariables false
set_option linter.unusedSimpArgs false
open Go.RowKit

def ext (x : Nat) (p : List Int) : List (List Int) := ((List.range x).filter fun (y : Nat) => !p.contains (y : Int)).map fun (y : Nat) => p ++ [(y : Int)]
def perms (n : Nat) : Nat → List (List Int)
  | 0 => [[]]
  | k + 1 => (perms n k).flatMap (ext n)

theorem ext_zero (p : List Int) : ext 0 p = [] := rfl
theorem ext_in {x : Nat} {p : List Int} (h : p.contains (x : Int) = true) : ext (x + 1) p = ext x p := by
  have h' : (x : Int) ∈ p := by simpa using h
  unfold ext; rw [List.range_succ, List.filter_append, List.map_append]; simp [h']
theorem ext_out {x : Nat} {p : List Int} (h : p.contains (x : Int) = false) : ext (x + 1) p = ext x p ++ [p ++ [(x : Int)]] := by
  have h' : ¬ (x : Int) ∈ p := by simpa using h
  unfold ext; rw [List.range_succ, List.filter_append, List.map_append]; simp [h']
theorem ext_len (x : Nat) (p : List Int) : (ext x p).length ≤ x := by
  unfold ext; rw [List.length_map]
  have := List.length_filter_le (fun y : Nat => !p.contains (y : Int)) (List.range x)
  simpa using this
theorem flat_ext_len (n : Nat) : ∀ L : List (List Int), (L.flatMap (ext n)).length ≤ L.length * n
  | [] => by simp
  | p :: L => by
    have h1 := ext_len n p
    have h2 := flat_ext_len n L
    rw [List.flatMap_cons, List.length_append, List.length_cons, Nat.add_mul]; omega
theorem perms_mem {n : Nat} : ∀ {k : Nat} {p : List Int}, p ∈ perms n k → p.length = k
  | 0, p, h => by simp [perms] at h; subst h; rfl
  | k + 1, p, h => by
    rw [perms, List.mem_flatMap] at h
    obtain ⟨q, hq, hp⟩ := h
    unfold ext at hp
    obtain ⟨y, _, rfl⟩ := List.mem_map.1 hp
    rw [List.length_append, perms_mem hq]; rfl
theorem perms_len {n : Nat} (hn : n ≤ 5) : ∀ k, (perms n k).length ≤ 5 ^ k
  | 0 => by simp [perms]
  | k + 1 => by
    rw [perms, Nat.pow_succ]
    have h1 := perms_len hn k
    have h2 := flat_ext_len n (perms n k)
    have h3 := Nat.mul_le_mul h1 hn
    omega
theorem perms_len5 {n k : Nat} (hn : n ≤ 5) (hk : k ≤ 5) : (perms n k).length ≤ 3125 :=
  Nat.le_trans (perms_len hn k) (Nat.le_trans (Nat.pow_le_pow_right (by omega) hk) (by decide))
theorem take_flat {n : Nat} {L : List (List Int)} {i : Nat} {p : List Int} (h : L[i]? = some p) : (L.take (i + 1)).flatMap (ext n) = (L.take i).flatMap (ext n) ++ ext n p := by
  rw [take_snoc h, List.flatMap_append]; simp

theorem Rd.ints_at {z : Bool} {lo hi : Nat} {w : World} {xs : List (List Int)} {ao : Option Addr} {n cap : Nat} (h : Rd z lo hi w [.slice ao n cap] xs) {i : Nat} (hi' : i < n) :
    ∃ b off p v, ao = some ⟨b, off, none⟩ ∧ Hid (xs[i]? = some p) ∧ w.cell? ⟨b, off + i, none⟩ = some v ∧ Rd z lo hi w [v] p ∧ lo ≤ b ∧ b < hi ∧ b < w.heap.size := by
  obtain ⟨b, off, p, cs, e, hx, hr, hl, h1, h2, h3, hc, hf⟩ := h.at hi'
  obtain ⟨v, rfl⟩ : ∃ v, cs = [v] := by
    match cs, hl with
    | [v], _ => exact ⟨v, rfl⟩
  exact ⟨b, off, p, v, e, hx, by have := hc 0 v rfl; simpa [Rep.sz] using this, hr, h1, h2, h3⟩

theorem Ow.lit1 (w : World) (v : Value) (E : TypeId) (hv : ∀ w', Rep.rep true w' [v] ([] : List Int) []) :
    Ow w.heap.size (w.heap.size + 1) (w.alloc (.cells #[v] E)) [.slice (some ⟨w.heap.size, 0, none⟩) 1 1] ([[]] : List (List Int)) := by
  refine ⟨[w.heap.size], ⟨_, rfl, some ⟨w.heap.size, 0, none⟩, 1, 1, rfl, rfl, Nat.le_refl _, by simp [maxLen], (fun h => by cases h), .inr ⟨w.heap.size, 0, [[v]], [[]], rfl, by simp, rfl, ⟨hv _, trivial⟩, ?_, ?_⟩⟩, ?_, by simp⟩
  · intro j c hj
    match j, hj with
    | 0, hj => simp at hj; subst hj; simp [go_sem]
  · intro _ o; simp [go_sem]
  · intro b hb; simp at hb; omega
theorem repNil (ao : Option Addr) (w : World) : Rep.rep true w [.slice ao 0 0] ([] : List Int) [] :=
  ⟨_, rfl, ao, 0, 0, rfl, rfl, Nat.le_refl _, by simp [maxLen], fun _ => rfl, .inl ⟨rfl, rfl⟩⟩

end Go.Proofs.Ytoipdgoejichbaa
