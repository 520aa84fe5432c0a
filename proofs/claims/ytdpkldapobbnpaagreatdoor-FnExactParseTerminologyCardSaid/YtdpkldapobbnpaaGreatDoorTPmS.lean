/- Contracts of TypePermutation (spec) and what it calls. -/
import Derived.Test.YtdpkldapobbnpaaGreatDoorTypS
import Derived.Test.YtdpkldapobbnpaaGreatDoorBase
namespace Go.Proofs.YtdpkldapobbnpaaGreatDoor
set_option linter.unusedVariables false
set_option linter.unusedSimpArgs false
open Go.RowKit

theorem comp_getP {p q : List Int} {x : Int} (h0 : 0 ≤ x) (h1 : x < p.length) : getP (comp p q) x = getP q (getP p x) := by
  have h := getP_some h0 h1
  have h2 : (comp p q)[x.toNat]? = some (getP q (getP p x)) := by
    show (p.map fun x => q.getD x.toNat 0)[x.toNat]? = _
    rw [List.getElem?_map, h]; rfl
  simp [getP, List.getD_eq_getElem?_getD, h2]
theorem idL_getP {n x : Nat} (h : x < n) : getP (idL n) (x : Int) = x := by simp [getP, idL, List.getD_eq_getElem?_getD, h]

end Go.Proofs.YtdpkldapobbnpaaGreatDoor
