/- Contracts: all permutations of n numbers. -/
import Derived.Test.YtdpkldapobbnpaaGreatDoorBase
namespace Go.Proofs.YtdpkldapobbnpaaGreatDoor
set_option linter.unusedVariables false
set_option linter.unusedSimpArgs false
open Go.RowKit
def ext (x : Nat) (p : List Int) : List (List Int) := ((List.range x).filter fun (y : Nat) => !p.contains (y : Int)).map fun (y : Nat) => p ++ [(y : Int)]
def perms (n : Nat) : Nat → List (List Int)
 | 0 => [[]]
 | k + 1 => (perms n k).flatMap (ext n)
theorem Ow.lit1 (w : World) (v : Value) (E : TypeId) (hv : ∀ w', Rep.rep true w' [v] ([] : List Int) []) :
  Ow w.heap.size (w.heap.size + 1) (w.alloc (.cells #[v] E)) [.slice (some ⟨w.heap.size, 0, none⟩) 1 1] ([[]] : List (List Int)) := by
 refine ⟨[w.heap.size], ⟨_, rfl, some ⟨w.heap.size, 0, none⟩, 1, 1, rfl, rfl, Nat.le_refl _, by simp [maxLen], (fun h => by cases h), .inr ⟨w.heap.size, 0, [[v]], [[]], rfl, by simp, rfl, ⟨hv _, trivial⟩, ?_, ?_⟩⟩, ?_, by simp⟩
 ·intro j c hj
  match j, hj with
  | 0, hj => simp at hj; subst hj; simp [go_sem]
 ·intro _ o; simp [go_sem]
 ·intro b hb; simp at hb; omega
end Go.Proofs.YtdpkldapobbnpaaGreatDoor
