/- Plain: bounds of the lines. -/
import Derived.Test.YtiingmngeiakgaaLin
import Derived.Test.YtiingmngeiakgaaIntSS
namespace Go.Proofs.Ytiingmngeiakgaa
set_option linter.unusedVariables false
set_option linter.unusedSimpArgs false
open Go.RowKit
theorem lenSS_bd {a : Nat} : ∀ (L : List (List Int)), (∀ l ∈ L, l.length ≤ a) → lenSS L ≤ L.length * a
  | [], _ => by simp [lenSS]
  | l :: L, h => by
    have h1 := h l (by simp)
    have h2 := lenSS_bd L (fun x hx => h x (by simp [hx]))
    rw [lenSS, List.length_cons, Nat.add_mul]; omega
theorem linesV_len (f : Fam) (sex : Int) : lenSS (linesV f sex) ≤ 1600 := by
  unfold linesV
  split
  · rename_i h
    have hf : famB f = true := by simp at h; exact h.1
    obtain ⟨h40, -⟩ := famB_facts hf
    have h1 := lenSS_bd (a := f.1.length) (linesTo f.1 sex f.1.length) (fun l hl => by
      unfold linesTo at hl
      rw [List.mem_filter, List.mem_map] at hl
      obtain ⟨⟨q, _, rfl⟩, _⟩ := hl
      exact lineTo_len _ _ _ _)
    have h2 := linesTo_len f.1 sex f.1.length
    have h3 : (linesTo f.1 sex f.1.length).length * f.1.length ≤ 40 * 40 := Nat.mul_le_mul (by omega) h40
    omega
  · simp [lenSS]
end Go.Proofs.Ytiingmngeiakgaa
