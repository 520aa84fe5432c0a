/- Contracts of RelabelClasses. -/
import Derived.Test.YtiingmngeiakgaaRel
namespace Go.Proofs.Ytiingmngeiakgaa
set_option linter.unusedVariables false
set_option linter.unusedSimpArgs false
open Go.RowKit

def relabV (c : Cls) (p : List Int) : Bool := isCls c && isPerm p && decide (p.length = c.1.length)
def relabC (c : Cls) (p : List Int) : Cls := if relabV c p = true then (relab p c.1, relab p c.2) else ([], [])

theorem relabC_len (c : Cls) (p : List Int) {n : Nat} (h : p.length ≤ n) : (relabC c p).1.length ≤ n ∧ (relabC c p).2.length ≤ n := by
  unfold relabC; split
  · simp only [relab_len]; exact ⟨h, h⟩
  · simp

/-- A struct comes back, owned and new, and a bool. -/
def PostOw2B {α : Type} [Rep α] (w : World) (x : α) (r : Bool) (e : Ending) (w' : World) : Prop := ∃ a b, e = .returned (.tuple #[.agg #[a, b], .bool r]) ∧ Ow w.heap.size w'.heap.size w' [a, b] x ∧ Below w.heap.size w w'

theorem Ow.nil2 (lo hi : Nat) (w : World) : Ow lo hi w [.slice none 0 0, .slice none 0 0] (([], []) : Cls) := by
  refine ⟨[], ⟨[.slice none 0 0], [.slice none 0 0], [], [], rfl, rfl, ?_, ?_⟩, fun b hb => (by cases hb), List.nodup_nil⟩ <;> exact ⟨_, rfl, none, 0, 0, rfl, rfl, Nat.le_refl _, by simp [maxLen], fun _ => rfl, .inl ⟨rfl, rfl⟩⟩

theorem isCls_parts {c : Cls} (h : isCls c = true) : 1 ≤ c.1.length ∧ c.1.length ≤ 8 ∧ c.2.length = c.1.length ∧ InRange c.1.length c.1 ∧ InRange c.1.length c.2 ∧ isPerm c.1 = true ∧ isPerm c.2 = true := by
  simp only [isCls, Bool.and_eq_true, decide_eq_true_eq] at h
  obtain ⟨⟨⟨h1, h2, h3⟩, h4⟩, h5⟩ := h
  exact ⟨h1, h2, h3, isPerm_range h4, by rw [← h3]; exact isPerm_range h5, h4, h5⟩

section
variable {z z' : Bool} {lo hi lo' hi' : Nat} (w : World) (u v vp : Value) (c : Cls) (p : List Int)

end
end Go.Proofs.Ytiingmngeiakgaa
