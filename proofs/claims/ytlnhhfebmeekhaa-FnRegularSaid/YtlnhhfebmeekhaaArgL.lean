/- Plain: the law of the regular systems that are listed, and of products. -/
import Derived.Test.YtlnhhfebmeekhaaArg
import Derived.Test.YtlnhhfebmeekhaaZ10M
import Derived.Test.YtlnhhfebmeekhaaZ10I
namespace Go.Proofs.Ytlnhhfebmeekhaa
set_option linter.unusedVariables false
set_option linter.unusedSimpArgs false
open Go.RowKit

theorem sAll_each {n : Nat} (h : n ≤ 4) : ∀ r ∈ sAll n, r.1.length ≤ 8 ∧ isReg r = true ∧ canonV r = true ∧ canonR r = r := by
  have : n = 0 ∨ n = 1 ∨ n = 2 ∨ n = 3 ∨ n = 4 := by omega
  rcases this with rfl | rfl | rfl | rfl | rfl <;> decide +kernel
theorem sAll_pairs {n : Nat} (h : n ≤ 4) : ∀ p ∈ perms n n, ∀ q ∈ perms n n, (isReg (p, q) = decide (canonC (p, q) ∈ sAll n)) := by
  have : n = 0 ∨ n = 1 ∨ n = 2 ∨ n = 3 ∨ n = 4 := by omega
  rcases this with rfl | rfl | rfl | rfl | rfl <;> decide +kernel
theorem cls_perms {c : Cls} (h : isCls c = true) (h4 : c.1.length ≤ 5) : c.1 ∈ perms c.1.length c.1.length ∧ c.2 ∈ perms c.1.length c.1.length := by
  obtain ⟨h1, h2, h3, h5, h6, h7, h8⟩ := isCls_parts h
  exact ⟨(perms_iff h4).2 ((isP_iff rfl).1 h7), (perms_iff h4).2 ((isP_iff h3).1 h8)⟩
/-- A system is regular just if its canonical form is listed. -/
theorem listed {c : Cls} (h : isCls c = true) (h4 : c.1.length ≤ 4) : decide (canonC c ∈ sAll c.1.length) = isReg c := by
  obtain ⟨h1, h2⟩ := cls_perms h (by omega)
  exact (sAll_pairs h4 c.1 h1 c.2 h2).symm
theorem prod_pairs {n m : Nat} (h : n ≤ 4) (h1 : m ≤ 2) : ∀ p ∈ perms n n, ∀ q ∈ perms m m, isPerm (prodL m p q) = true ∧ noFix 0 (prodL m p q) = (noFix 0 p || noFix 0 q) := by
  have hn : n = 0 ∨ n = 1 ∨ n = 2 ∨ n = 3 ∨ n = 4 := by omega
  have hm : m = 0 ∨ m = 1 ∨ m = 2 := by omega
  rcases hn with rfl | rfl | rfl | rfl | rfl <;> rcases hm with rfl | rfl | rfl <;> decide +kernel
theorem prod_law {c d : Cls} (h : isCls c = true) (h4 : c.1.length ≤ 4) (h' : isCls d = true) (h2 : d.1.length ≤ 2) : prodV c d = true ∧ forb (prodC c d) = (forb c || forb d) := by
  have hm : c.1.length * d.1.length ≤ 8 := Nat.le_trans (Nat.mul_le_mul h4 h2) (by decide)
  have hv : prodV c d = true := by unfold prodV; rw [h, h']; simpa using hm
  refine ⟨hv, ?_⟩
  obtain ⟨a1, a2⟩ := cls_perms h (by omega)
  obtain ⟨b1, b2⟩ := cls_perms h' (by omega)
  obtain ⟨k1, -, k3, -⟩ := isCls_parts h
  obtain ⟨l1, -, l3, -⟩ := isCls_parts h'
  have q1 := prod_pairs h4 h2 c.1 a1 d.1 b1
  have q2 := prod_pairs h4 h2 c.2 a2 d.2 b2
  unfold prodC
  rw [if_pos hv]
  unfold forb
  rw [h, h', Bool.true_and, Bool.true_and]
  have hz : isCls (prodL d.1.length c.1 d.1, prodL d.1.length c.2 d.2) = true := by
    unfold isCls
    rw [q1.1, q2.1]
    simp only [prodL_len, k3, l3, Bool.and_true, decide_eq_true_eq]
    exact ⟨Nat.mul_pos k1 l1, hm, trivial⟩
  rw [hz, Bool.true_and]
  exact q1.2
theorem canonR_of {c : Cls} (h : isCls c = true) (h5 : c.1.length ≤ 5) : canonR c = canonC c ∧ canonV c = true := by
  have : canonV c = true := by unfold canonV; rw [h]; simpa using h5
  exact ⟨by unfold canonR; rw [if_pos this], this⟩
end Go.Proofs.Ytlnhhfebmeekhaa
