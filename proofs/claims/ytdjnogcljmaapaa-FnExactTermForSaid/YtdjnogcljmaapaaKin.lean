/- Plain: kin types. -/
import Derived.Test.YtdjnogcljmaapaaLib
namespace Go.Proofs.Ytdjnogcljmaapaa
set_option linter.unusedVariables false
set_option linter.unusedSimpArgs false
open Go.RowKit

/-- A step: kind, age. A kin type: sex of ego, steps. -/
abbrev Stp := Int × Int
abbrev Kin := Int × List Stp
instance decEqStps : DecidableEq (List Stp) := fun a b => instDecidableEqList a b
instance decEqKin : DecidableEq (Int × List Stp) := instDecidableEqProd

def stSex (k : Int) : Int := if k.tmod 2 = 1 then 1 else 2
def stFits (s : Stp) (sex : Int) : Bool := decide (1 ≤ s.1 ∧ s.1 ≤ 8) && (decide (0 ≤ s.2 ∧ s.2 ≤ 2) && (decide (s.2 = 0 ∨ s.1 = 3 ∨ s.1 = 4) && !decide (s.1 = 7 ∧ sex = 1 ∨ s.1 = 8 ∧ sex = 2)))
def kinGo : Int → List Stp → Bool
  | _, [] => true
  | sex, s :: l => stFits s sex && kinGo (stSex s.1) l
def isKin (t : Kin) : Bool := decide (0 ≤ t.1 ∧ t.1 ≤ 2) && (decide (t.2.length ≤ 8) && kinGo t.1 t.2)
/-- The sex of the person at whom a step is made (0: any), the relative's sex. -/
def egoOf (t : Kin) : Int := if t.1 = 0 then (match t.2 with | s :: _ => if s.1 = 7 then 2 else if s.1 = 8 then 1 else 0 | [] => 0) else t.1
def sexAt (t : Kin) : Nat → Int
  | 0 => egoOf t
  | i + 1 => match t.2[i]? with | some s => stSex s.1 | none => 0
def sexOf (t : Kin) : Int := match t.2.getLast? with | some s => stSex s.1 | none => t.1

theorem stFits_facts {s : Stp} {sex : Int} (h : stFits s sex = true) : (1 ≤ s.1 ∧ s.1 ≤ 8) ∧ (0 ≤ s.2 ∧ s.2 ≤ 2) ∧ (s.2 = 0 ∨ s.1 = 3 ∨ s.1 = 4) ∧ ¬ (s.1 = 7 ∧ sex = 1 ∨ s.1 = 8 ∧ sex = 2) := by
  simp only [stFits, Bool.and_eq_true, decide_eq_true_eq, Bool.not_eq_true', decide_eq_false_iff_not] at h
  exact h
theorem kinGo_mem : ∀ {l : List Stp} {sex : Int}, kinGo sex l = true → ∀ s ∈ l, (1 ≤ s.1 ∧ s.1 ≤ 8) ∧ (0 ≤ s.2 ∧ s.2 ≤ 2)
  | s :: l, sex, h, x, hx => by
    rw [kinGo, Bool.and_eq_true] at h
    rcases List.mem_cons.1 hx with rfl | hx
    · have := stFits_facts h.1; exact ⟨this.1, this.2.1⟩
    · exact kinGo_mem h.2 x hx
theorem isKin_facts {t : Kin} (h : isKin t = true) : (0 ≤ t.1 ∧ t.1 ≤ 2) ∧ t.2.length ≤ 8 ∧ kinGo t.1 t.2 = true ∧ ∀ s ∈ t.2, (1 ≤ s.1 ∧ s.1 ≤ 8) ∧ (0 ≤ s.2 ∧ s.2 ≤ 2) := by
  simp only [isKin, Bool.and_eq_true, decide_eq_true_eq] at h
  exact ⟨h.1, h.2.1, h.2.2, kinGo_mem h.2.2⟩
theorem stSex_in (k : Int) : stSex k = 1 ∨ stSex k = 2 := by unfold stSex; split <;> simp
end Go.Proofs.Ytdjnogcljmaapaa
