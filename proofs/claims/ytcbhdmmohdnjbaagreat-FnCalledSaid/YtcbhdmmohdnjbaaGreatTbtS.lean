/- Contract of spec.TypesBetween. -/
import Derived.Test.YtcbhdmmohdnjbaaGreatWls
import Derived.Test.YtcbhdmmohdnjbaaGreatTbtI
import Derived.Test.YtcbhdmmohdnjbaaGreatTrmC
namespace Go.Proofs.YtcbhdmmohdnjbaaGreat
set_option linter.unusedVariables false
set_option linter.unusedSimpArgs false
open Go.RowKit
theorem leadsB_at {f : Fam} {l : List Stp} {i j : Nat} {x : Bool} (h : (reachL f (single f.1.length i) l)[j]? = some x) : x = leadsB f l i j := by
 rw [leadsB, List.getD_eq_getElem?_getD, h]; rfl
end Go.Proofs.YtcbhdmmohdnjbaaGreat
