/- Contracts of the functions on permutations, third part: permutations joined; valid systems of classes. -/
import Derived.Test.YtiingmngeiakgaaPerm2
namespace Go.Proofs.Ytiingmngeiakgaa
set_option linter.unusedVariables false
set_option linter.unusedSimpArgs false
open Go.RowKit

section
variable {z z' : Bool} {lo hi lo' hi' : Nat} (w : World) (u v : Value) (p q : List Int)


end

theorem compP_len (p q : List Int) {n : Nat} (h : p.length ≤ n) : (compP p q).length ≤ n := by
  unfold compP; split
  · rw [comp_len]; exact h
  · simp

/-- A valid system. -/
def isCls (c : Cls) : Bool := decide (1 ≤ c.1.length ∧ c.1.length ≤ 8 ∧ c.2.length = c.1.length) && isPerm c.1 && isPerm c.2

section
variable {z z' : Bool} {lo hi lo' hi' : Nat} (w : World) (u v : Value) (c : Cls)

end
/-- One value that is owned and new comes back, and a bool. -/
def PostOwB {α : Type} [Rep α] (w : World) (x : α) (b : Bool) (e : Ending) (w' : World) : Prop := ∃ u, e = .returned (.tuple #[u, .bool b]) ∧ Ow w.heap.size w'.heap.size w' [u] x ∧ Below w.heap.size w w'
end Go.Proofs.Ytiingmngeiakgaa
