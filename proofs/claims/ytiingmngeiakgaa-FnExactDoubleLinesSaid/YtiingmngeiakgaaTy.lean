/- Ours: what the program's table says of the slice types that are met, and the posts of contracts. -/
import Derived.Test.YtiingmngeiakgaaGrow
import Derived.Test.YtiingmngeiakgaaRows
import Derived.WalkLawsBesides
import Derived.WalkSpells
import Derived.IntWalk
import Derived.Handy
import Derived.Deep.RegionWith
import Derived.Deep.RegionHeld3
import Derived.Deep.QuietTactic
import Derived.BigQuiet
import Derived.Deep.DeepMust
import Derived.Deep.LoopGhost
import Derived.Deep.DeepFit
import Derived.Deep.DeepCutAuto
import Derived.Lib.Hide
namespace Go.Proofs.Ytiingmngeiakgaa
set_option linter.unusedVariables false
set_option linter.unusedSimpArgs false
open Go.RowKit

theorem slInt : SlTy Try.prog 43 3 (.int .i64 0) 1 8 := SlTy.of Try.underlying43 (by kernel_rfl) rfl
theorem slInts : SlTy Try.prog 27 43 (.slice none 0 0) 1 24 := SlTy.of Try.underlying27 (by kernel_rfl) rfl

/-- One value comes back that is owned and new. -/
def PostOw {α : Type} [Rep α] (w : World) (x : α) (e : Ending) (w' : World) : Prop := ∃ u, e = .returned u ∧ Ow w.heap.size w'.heap.size w' [u] x ∧ Below w.heap.size w w'
/-- A bool comes back; what was there is as it was. -/
def PostB (w : World) (b : Bool) (e : Ending) (w' : World) : Prop := e = .returned (.bool b) ∧ Below w.heap.size w w'
def PostI (w : World) (n : Int) (e : Ending) (w' : World) : Prop := e = .returned (.int .i64 n) ∧ Below w.heap.size w w'
end Go.Proofs.Ytiingmngeiakgaa
