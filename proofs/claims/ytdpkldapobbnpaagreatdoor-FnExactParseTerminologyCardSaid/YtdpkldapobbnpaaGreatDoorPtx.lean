/- ParseTerminology of both programs: one answer; how large it can be. -/
import Derived.Test.YtdpkldapobbnpaaGreatDoorPtrI
import Derived.Test.YtdpkldapobbnpaaGreatDoorPtrS
namespace Go.Proofs.YtdpkldapobbnpaaGreatDoor
set_option linter.unusedVariables false
set_option linter.unusedSimpArgs false
open Go.RowKit

def ptrO (s : ByteArray) : Option Trm := fin s (parI s.data.toList)
theorem parseTrmI_x (w : World) (m : Int) (hm : w.cell? ⟨0, 0, none⟩ = some (.int .i64 m)) (hgl : 0 < w.heap.size) (s : ByteArray) (hs : s.size ≤ 1048576) (X : Trm) (hX : X = (ptrO s).getD ([], [])) (V : Bool) (hV : V = (ptrO s).isSome) :
    Calls Tryz.prog 6 #[.string s] w (PostOw2B w X V) := by
  subst hX hV
  exact parseTrmI_any w m hm hgl s hs _ rfl
theorem parseTrmS_x (w : World) (s : ByteArray) (hs : s.size ≤ 1048576) (X : Trm) (hX : X = (ptrO s).getD ([], [])) (V : Bool) (hV : V = (ptrO s).isSome) :
    Calls Tryz.prog 5 #[.string s] w (PostOw2B w X V) := by
  subst hX hV
  exact parseTrmS_any w s hs _ (by unfold ptrO; exact par_eq s)
theorem term_cnt {y : Trm} (h : isTerm y = true) : lenBy cntRul y.1 + lenBy cntEnt y.2 ≤ 20000 := by
  have h1 := (isTerm_facts h).1
  have h2 := (isTerm_facts h).2.1
  have hr := term_rules h
  unfold areRules at h1
  simp only [Bool.and_eq_true, decide_eq_true_eq] at h1
  have a1 : lenBy cntRul y.1 ≤ 19 * y.1.length := lenBy_bound fun r hm => by
    obtain ⟨-, -, -, q1, q2⟩ := rul_SOk (hr r hm)
    show 3 + 2 * r.2.2.2.1.length + 2 * r.2.2.2.2.length ≤ 19
    omega
  have a2 : lenBy cntEnt y.2 ≤ 40 * y.2.length := lenBy_bound fun e hm => by
    have := ((isTerm_facts h).2.2.1 e hm).2.1
    unfold isKin at this
    simp only [Bool.and_eq_true, decide_eq_true_eq] at this
    show 2 + 2 * e.1.2.length ≤ 40
    omega
  omega
theorem ptrO_cnt (s : ByteArray) : lenBy cntRul ((ptrO s).getD ([], [])).1 + lenBy cntEnt ((ptrO s).getD ([], [])).2 ≤ 20000 := by
  cases h : ptrO s with
  | none => show lenBy cntRul [] + lenBy cntEnt [] ≤ _; simp [lenBy]
  | some y => exact term_cnt (fin_some.1 h).2.1
end Go.Proofs.YtdpkldapobbnpaaGreatDoor
