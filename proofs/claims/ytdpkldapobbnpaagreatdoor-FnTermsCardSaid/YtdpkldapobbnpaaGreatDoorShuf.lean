/- Contracts: permutations drawn; lists compared by the laws. -/
import Derived.Test.YtdpkldapobbnpaaGreatDoorCur
import Derived.Test.YtdpkldapobbnpaaGreatDoorCan
namespace Go.Proofs.YtdpkldapobbnpaaGreatDoor
set_option linter.unusedVariables false
set_option linter.unusedSimpArgs false
open Go.RowKit
section
variable {z z' : Bool} {lo hi lo' hi' : Nat} (w : World) (u v : Value) (xs ys : List Int)
end
def PostShuf (n : Nat) (w : World) (e : Ending) (w' : World) : Prop := ∃ u xs, e = .returned u ∧ Ow w.heap.size w'.heap.size w' [u] (xs : List Int) ∧ Hid (xs.Perm (idL n)) ∧ Below w.heap.size w w'
def PostShufC (p n : Nat) (w : World) (e : Ending) (w' : World) : Prop := ∃ u xs, e = .returned u ∧ Ow w.heap.size w'.heap.size w' [u] (xs : List Int) ∧ Hid (xs.Perm (idL n)) ∧ CurOk p w' ∧ OffF [p] w w'
theorem OffF.belowA {fp : List Nat} {a w w' : World} (h : OffF fp a w) (k : Below a.heap.size w w') : OffF fp a w' :=
 ⟨k.os.trans h.os, k.tape.trans h.tape, k.output.trans h.output, Nat.le_trans h.size k.size, fun i hi hn => (k.block i hi).trans (h.block i hi hn)⟩
end Go.Proofs.YtdpkldapobbnpaaGreatDoor
