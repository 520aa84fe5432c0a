/- Plain: classes that are given to persons. -/
import Derived.Test.YtomigopkejlmcaaFnd2
import Derived.Test.YtomigopkejlmcaaPerm3
namespace Go.Proofs.Ytomigopkejlmcaa
set_option linter.unusedVariables false
set_option linter.unusedSimpArgs false
open Go.RowKit

def givU (n : Nat) (least x : Int) : Bool := decide (least ≤ x ∧ x < (n : Int))
def givenB (f : Fam) (c : Cls) (g : List Int) (least : Int) : Bool := famB f && (isCls c && (decide (g.length = f.1.length) && g.all (givU c.1.length least)))
theorem isCls_facts {c : Cls} (h : isCls c = true) : 1 ≤ c.1.length ∧ c.1.length ≤ 8 ∧ c.2.length = c.1.length ∧ isPerm c.1 = true ∧ isPerm c.2 = true := by
  simp only [isCls, Bool.and_eq_true, decide_eq_true_eq] at h
  exact ⟨h.1.1.1, h.1.1.2.1, h.1.1.2.2, h.1.2, h.2⟩
theorem givenB_facts {f : Fam} {c : Cls} {g : List Int} {least : Int} (h : givenB f c g least = true) : famB f = true ∧ isCls c = true ∧ g.length = f.1.length ∧ ∀ x ∈ g, least ≤ x ∧ x < (c.1.length : Int) := by
  simp only [givenB, givU, Bool.and_eq_true, decide_eq_true_eq, List.all_eq_true] at h
  exact ⟨h.1, h.2.1, h.2.2.1, h.2.2.2⟩
end Go.Proofs.Ytomigopkejlmcaa
