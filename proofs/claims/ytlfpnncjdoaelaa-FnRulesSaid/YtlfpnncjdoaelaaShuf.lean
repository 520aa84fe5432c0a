/- Contracts: permutations drawn; lists compared by the laws. -/
import Derived.Test.YtlfpnncjdoaelaaCur
import Derived.Test.YtlfpnncjdoaelaaCan
namespace Go.Proofs.Ytlfpnncjdoaelaa
set_option linter.unusedVariables false
set_option linter.unusedSimpArgs false
open Go.RowKit

section
variable {z z' : Bool} {lo hi lo' hi' : Nat} (w : World) (u v : Value) (xs ys : List Int)
end

def PostShuf (n : Nat) (w : World) (e : Ending) (w' : World) : Prop := ∃ u xs, e = .returned u ∧ Ow w.heap.size w'.heap.size w' [u] (xs : List Int) ∧ Hid (xs.Perm (idL n)) ∧ Below w.heap.size w w'
def PostShufC (p n : Nat) (w : World) (e : Ending) (w' : World) : Prop := ∃ u xs, e = .returned u ∧ Ow w.heap.size w'.heap.size w' [u] (xs : List Int) ∧ Hid (xs.Perm (idL n)) ∧ CurOk p w' ∧ OffF [p] w w'

theorem OffF.belowA {fp : List Nat} {a w w' : World} (h : OffF fp a w) (k : Below a.heap.size w w') : OffF fp a w' :=
  ⟨k.os.trans h.os, k.tape.trans h.tape, k.output.trans h.output, Nat.le_trans h.size k.size, fun i hi hn => (k.block i hi).trans (h.block i hi hn)⟩
theorem swap_perm {xs : List Int} {k m : Nat} {a : Int} (hk : xs.length = k) (ha : (xs ++ [(k : Int)])[m]? = some a) : (((xs ++ [(k : Int)]).set k a).set m (k : Int)).Perm (xs ++ [(k : Int)]) := by
  obtain ⟨hm, rfl⟩ := List.getElem?_eq_some_iff.1 ha
  have hk2 : k < (xs ++ [(k : Int)]).length := by simp; omega
  have e : (xs ++ [(k : Int)])[k] = (k : Int) := by subst hk; simp
  have := List.set_set_perm (i := k) (j := m) hk2 hm
  rw [e] at this
  exact this


end Go.Proofs.Ytlfpnncjdoaelaa
