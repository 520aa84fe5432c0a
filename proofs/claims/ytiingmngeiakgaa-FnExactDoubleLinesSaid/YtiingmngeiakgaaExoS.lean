/- Contract of IsExogamous (spec). -/
import Derived.Test.YtiingmngeiakgaaFamS
namespace Go.Proofs.Ytiingmngeiakgaa
set_option linter.unusedVariables false
set_option linter.unusedSimpArgs false
open Go.RowKit

theorem famSz_le (f : Fam) : f.1.length ≤ famSz f ∧ f.2.length ≤ famSz f := by unfold famSz; omega
def exoU (g : List Int) (u : Uni) : Bool := !decide (g.getD u.1.toNat 0 = g.getD u.2.1.toNat 0)
def exoB (f : Fam) (g : List Int) : Bool := famB f && (decide (g.length = f.1.length) && f.2.all (exoU g))

theorem famB_facts {f : Fam} (h : famB f = true) : f.1.length ≤ 40 ∧ f.2.length ≤ 60 ∧ PplTo f.1 f.1.length ∧ ∀ k, k < f.2.length → uniOk f k = true := by
  simp only [famB, Bool.and_eq_true, decide_eq_true_eq] at h
  exact ⟨h.1.1, h.1.2, all_range.1 h.2.1, all_range.1 h.2.2.2⟩
theorem uniOk_facts {f : Fam} {k : Nat} {m wo fr tl : Int} (h : uniOk f k = true) (hu : f.2[k]? = some (m, wo, fr, tl)) : (0 ≤ m ∧ m < f.1.length) ∧ (0 ≤ wo ∧ wo < f.1.length) := by
  unfold uniOk at h
  rw [hu] at h
  simp only [uniC, Bool.and_eq_true, decide_eq_true_eq] at h
  exact h.1
theorem getD_at {g : List Int} {m : Nat} {x : Int} (h : g[m]? = some x) : g.getD ((m : Nat) : Int).toNat 0 = x := by
  rw [Int.toNat_natCast, List.getD_eq_getElem?_getD, h]; rfl

end Go.Proofs.Ytiingmngeiakgaa
