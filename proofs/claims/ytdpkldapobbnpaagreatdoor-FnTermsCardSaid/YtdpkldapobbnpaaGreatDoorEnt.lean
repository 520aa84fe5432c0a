/- Plain: entries, terminologies, pairs of types. -/
import Derived.Test.YtdpkldapobbnpaaGreatDoorRulM
namespace Go.Proofs.YtdpkldapobbnpaaGreatDoor
set_option linter.unusedVariables false
set_option linter.unusedSimpArgs false
open Go.RowKit
abbrev Ent := Kin × ByteArray
abbrev TPr := Kin × Kin
abbrev Trm := List Rul × List Ent
def entFits (n : Kin) (e : Ent) : Bool := decide (e.1.2 = n.2) && decide (e.1.1 = 0 ∨ e.1.1 = egoOf n)
def termOf (y : Trm) (t : Kin) : Option ByteArray := (y.2.find? (entFits (nf y.1 t))).map (·.2)
def entOk (rs : List Rul) (e : Ent) : Bool := nameOk e.2 && (isKin e.1 && decide (e.1 = nf rs e.1))
def isTerm (y : Trm) : Bool := areRules y.1 && (decide (y.2.length ≤ 60) && (y.2.all (entOk y.1) && decide ((y.2.map (·.1)).Nodup)))
theorem isTerm_facts {y : Trm} (h : isTerm y = true) : areRules y.1 = true ∧ y.2.length ≤ 60 ∧ (∀ e ∈ y.2, nameOk e.2 = true ∧ isKin e.1 = true ∧ e.1 = nf y.1 e.1) ∧ (y.2.map (·.1)).Nodup := by
 unfold isTerm at h
 simp only [Bool.and_eq_true, decide_eq_true_eq, List.all_eq_true] at h
 refine ⟨h.1, h.2.1, fun e he => ?_, h.2.2.2⟩
 have := h.2.2.1 e he
 unfold entOk at this
 simp only [Bool.and_eq_true, decide_eq_true_eq] at this
 exact this
theorem termOf_ne {y : Trm} (h : isTerm y = true) {t : Kin} {s : ByteArray} (hs : termOf y t = some s) : nameOk s = true := by
 unfold termOf at hs
 rw [Option.map_eq_some_iff] at hs
 obtain ⟨e, he, rfl⟩ := hs
 exact ((isTerm_facts h).2.2.1 e (List.mem_of_find?_eq_some he)).1
end Go.Proofs.YtdpkldapobbnpaaGreatDoor
