/- Ours: what can be read and takes none but blocks of S; a list that the call grows of shared items (any type). -/
import Derived.Test.YtdpkldapobbnpaaGreatDoorBase
import Derived.Test.YtdpkldapobbnpaaGreatDoorRds
namespace Go.Proofs.YtdpkldapobbnpaaGreatDoor
set_option linter.unusedVariables false
set_option linter.unusedSimpArgs false
open Go.RowKit
theorem RdS.kin_at {S : Nat → Prop} {w : World} {xs : List Kin} {ao : Option Addr} {n cap : Nat} (h : RdS S w [.slice ao n cap] xs) {i : Nat} (hi' : i < n) :
  ∃ b off t v, ao = some ⟨b, off, none⟩ ∧ Hid (xs[i]? = some t) ∧ w.cell? ⟨b, off + i * 2, none⟩ = some (.int .i64 t.1) ∧ w.cell? ⟨b, off + i * 2 + 1, none⟩ = some v ∧ RdS S w [.int .i64 t.1, v] t ∧ b < w.heap.size := by
 obtain ⟨fp, ⟨v, e, ao', n', cap', e2, hn, h2, h3, h4, hh⟩, hz⟩ := h
 simp only [List.cons.injEq, and_true] at e
 subst e
 simp only [Value.slice.injEq] at e2
 obtain ⟨rfl, rfl, rfl⟩ := e2
 rcases hh with ⟨h0, _⟩ | ⟨b, off, css, fps, rfl, hb, rfl, hzip, hc, hf⟩
 ·omega
 ·obtain ⟨x, hx⟩ : ∃ x, xs[i]? = some x := ⟨_, List.getElem?_eq_getElem (by omega)⟩
  obtain ⟨c, f, k1, k2, k3⟩ := hzip.get hx
  obtain ⟨v, rfl, _, _⟩ := repKin_inv k3
  have h2 : Rep.sz Kin = 2 := rfl
  refine ⟨b, off, x, v, rfl, hx, ?_, ?_, ⟨f, k3, fun b hb => hz b (List.mem_cons_of_mem _ (List.mem_flatten.2 ⟨f, List.mem_of_getElem? k2, hb⟩))⟩, hb⟩
  ·have := cellsAt_flat hzip.sizes k1 0 (by rw [h2]; omega)
   have := hc (i * 2 + 0) (.int .i64 x.1) (by rw [h2] at this; simpa using this)
   simpa using this
  ·have := cellsAt_flat hzip.sizes k1 1 (by rw [h2]; omega)
   have := hc (i * 2 + 1) v (by rw [h2] at this; simpa using this)
   simpa [Nat.add_assoc] using this
theorem GR.len {α : Type} [Rep α] {S : Nat → Prop} {lo : Nat} {w : World} {E : TypeId} {v : Value} {xs : List α} (h : GR S lo w E v xs) : ∃ ao cap, v = .slice ao xs.length cap := by
 obtain ⟨css, fps, ho, _⟩ := h
 rcases ho.2 with ⟨rfl, h⟩ | ⟨g, cap, cur, rfl, _⟩
 ·have h0 : xs.length = 0 := by omega
  exact ⟨none, 0, by rw [h0]⟩
 ·exact ⟨_, _, rfl⟩
section
variable {P : Program} {α : Type} [Rep α] {S : Nat → Prop} {lo : Nat} {w : World} {E : TypeId} {v : Value} {xs : List α}
end
theorem Rd.rds {α : Type} [Rep α] {S : Nat → Prop} {z : Bool} {lo hi : Nat} {w : World} {cs : List Value} {x : α} (h : Rd z lo hi w cs x) (k : ∀ b, lo ≤ b → b < hi → S b) : RdS S w cs x := by
 obtain ⟨fp, h1, h2⟩ := h
 exact ⟨fp, Rep.weak h1, fun b hb => ⟨Rep.lt h1 b hb, k b (h2 b hb).1 (h2 b hb).2⟩⟩
end Go.Proofs.YtdpkldapobbnpaaGreatDoor
