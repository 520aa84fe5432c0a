/- Contracts: systems of classes compared, the first one under other names. -/
import Derived.Test.YtdpkldapobbnpaaGreatDoorAll
import Derived.Test.YtdpkldapobbnpaaGreatDoorBase
namespace Go.Proofs.YtdpkldapobbnpaaGreatDoor
set_option linter.unusedVariables false
set_option linter.unusedSimpArgs false
open Go.RowKit
def lexC (a b : Cls) : Bool := lexB a.1 b.1 || (decide (a.1 = b.1) && lexB a.2 b.2)
def relC (c : Cls) (p : List Int) : Cls := (relab p c.1, relab p c.2)
def canonGo (c : Cls) : List (List Int) → Cls → Cls
 | [], b => b
 | p :: ps, b => canonGo c ps (if lexC (relC c p) b = true then relC c p else b)
def canonC (c : Cls) : Cls := canonGo c (perms c.1.length c.1.length) (relC c (idL c.1.length))
def canonV (c : Cls) : Bool := isCls c && decide (c.1.length ≤ 5)
def canonR (c : Cls) : Cls := if canonV c = true then canonC c else ([], [])
section
variable {z z' : Bool} {lo hi lo' hi' : Nat} (w : World) (u1 u2 v1 v2 : Value) (a b : Cls)
end
end Go.Proofs.YtdpkldapobbnpaaGreatDoor
