/- Ours: slices of texts that are written out. -/
import Derived.Test.YtdpkldapobbnpaaGreatDoorBase
namespace Go.Proofs.YtdpkldapobbnpaaGreatDoor
set_option linter.unusedVariables false
set_option linter.unusedSimpArgs false
open Go.RowKit
theorem zip_lits {z : Bool} {w : World} : ∀ (xs : List ByteArray), (∀ x ∈ xs, x.size ≤ maxLen) → Zip (Rep.rep z w) (xs.map fun x => [Value.string x]) xs (xs.map fun _ => [])
 | [], _ => trivial
 | x :: xs, h => ⟨⟨rfl, h x (by simp), rfl⟩, zip_lits xs fun y hy => h y (by simp [hy])⟩
theorem flat_lits : ∀ (xs : List ByteArray), (xs.map fun x => [Value.string x]).flatten = xs.map Value.string
 | [] => rfl
 | x :: xs => by simp [flat_lits xs]
theorem nil_lits : ∀ (xs : List ByteArray), (xs.map fun _ => ([] : List Nat)).flatten = []
 | [] => rfl
 | x :: xs => by simp [nil_lits xs]
theorem Ow.strs_lit0 (w : World) (E : TypeId) (xs : List ByteArray) (h : ∀ x ∈ xs, x.size ≤ maxLen) (hl : xs.length ≤ maxLen) :
  Ow w.heap.size (w.heap.size + 1) (w.alloc (.cells (xs.map Value.string).toArray E)) [.slice (some ⟨w.heap.size, 0, none⟩) xs.length xs.length] xs := by
 refine ⟨[w.heap.size], ⟨_, rfl, _, _, _, rfl, rfl, Nat.le_refl _, hl, (fun h => by cases h), .inr ⟨w.heap.size, 0, _, _, rfl, by simp, by rw [nil_lits], zip_lits xs h, ?_, ?_⟩⟩, fun b hb => by simp at hb; omega, by simp⟩
 ·intro j c hj
  rw [flat_lits] at hj
  simp only [Nat.zero_add]
  rw [World.cell?_alloc_new]
  simpa using hj
 ·intro _ o
  simp [go_sem]
end Go.Proofs.YtdpkldapobbnpaaGreatDoor
