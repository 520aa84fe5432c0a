/- Ours: texts compared. -/
import Derived.Test.YtiingmngeiakgaaTy
namespace Go.Proofs.Ytiingmngeiakgaa
set_option linter.unusedVariables false
set_option linter.unusedSimpArgs false
open Go.RowKit
instance lawText : LawfulBEq ByteArray where
  eq_of_beq {a b} h := by
    cases a; cases b
    exact congrArg ByteArray.mk (eq_of_beq h)
  rfl {a} := by cases a; exact beq_self_eq_true (α := Array UInt8) _
instance decEqText : DecidableEq ByteArray := fun a b => decidable_of_iff (a.data = b.data) ⟨ByteArray.ext, congrArg _⟩
/-- A value comes back; what was there is as it was. -/
def PostV (w : World) (v : Value) (e : Ending) (w' : World) : Prop := e = .returned v ∧ Below w.heap.size w w'
theorem text_eq (a b : ByteArray) : (a.toList == b.toList) = decide (a = b) := by
  rw [ByteArray.toList_eq, ByteArray.toList_eq]
  by_cases e : a = b
  · subst e; simp
  · have h2 : ¬ a.data = b.data := fun h => e (ByteArray.ext h)
    simp [e, h2]
end Go.Proofs.Ytiingmngeiakgaa
