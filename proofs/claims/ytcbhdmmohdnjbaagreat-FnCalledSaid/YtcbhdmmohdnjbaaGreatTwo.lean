/- Ours: two lists of flat items that grow by turns in the fields 1 and 2 of a struct of the call (field 0 stays). -/
import Derived.Test.YtcbhdmmohdnjbaaGreatBase
namespace Go.Proofs.YtcbhdmmohdnjbaaGreat
set_option linter.unusedVariables false
set_option linter.unusedSimpArgs false
open Go.RowKit
structure Two {α β : Type} [FlatRep α] [FlatRep β] (G : Nat) (wb wr : World) (E F : TypeId) (tv : Value) (l1 : List α) (l2 : List β) : Prop where
 at_ : ∃ v1 v2, wr.cell? ⟨G, 0, none⟩ = some tv ∧ wr.cell? ⟨G, 1, none⟩ = some v1 ∧ wr.cell? ⟨G, 2, none⟩ = some v2 ∧ GL true (G + 1) (G + 1) wr.heap.size wr E v1 l1 ∧ GL true (G + 1) (G + 1) wr.heap.size wr F v2 l2 ∧ (∀ g, v1.ownBlock = some g → v2.ownBlock ≠ some g)
 fr : ∀ o, wr.frozen? ⟨G, o, none⟩ = false
 lt : G < wr.heap.size
 below : Below G wb wr
theorem GL.oltA {α : Type} [Rep α] {nd : Bool} {lo lo' hi : Nat} {w : World} {E : TypeId} {v : Value} {xs : List α} (h : GL nd lo lo' hi w E v xs) {g : Nat} (hg : v.ownBlock = some g) : lo ≤ g ∧ g < w.heap.size := by
 obtain ⟨css, fps, ho, _⟩ := h
 exact ho.lt g hg
theorem Two.keep {α β : Type} [FlatRep α] [FlatRep β] {G : Nat} {wb wr w' : World} {E F : TypeId} {tv : Value} {l1 : List α} {l2 : List β} (h : Two G wb wr E F tv l1 l2) (hb : Below wr.heap.size wr w') : Two G wb w' E F tv l1 l2 := by
 obtain ⟨⟨v1, v2, q0, q1, q2, hG1, hG2, hne⟩, hfr, hl, hB⟩ := h
 refine ⟨⟨v1, v2, oldc hb hl q0, oldc hb hl q1, oldc hb hl q2, (hG1.below hb).top, (hG2.below hb).top, hne⟩, fun o => (hb.frozen (p := ⟨G, o, none⟩) hl).trans (hfr o), ltL hl hb.size, hB.trans (hb.mono (Nat.le_of_lt hl))⟩
theorem Two.mk1 {α β : Type} [FlatRep α] [FlatRep β] {G : Nat} {wb W w5 : World} {E F : TypeId} {tv : Value} {l1 : List α} {l2 : List β} {v1 v2 u : Value} {g n c : Nat} (hb : Below G wb W) (q0 : W.cell? ⟨G, 0, none⟩ = some tv) (q1 : W.cell? ⟨G, 1, none⟩ = some u) (q2 : W.cell? ⟨G, 2, none⟩ = some v2) (hfr : ∀ o, W.frozen? ⟨G, o, none⟩ = false) (hl : G < W.heap.size)
  (hG2 : GL true (G + 1) (G + 1) W.heap.size W F v2 l2) (hne : ∀ g, v1.ownBlock = some g → v2.ownBlock ≠ some g)
  (hG5 : GL true (G + 1) (G + 1) w5.heap.size w5 E (.slice (some ⟨g, 0, none⟩) n c) l1) (hg5 : W.grownBy w5 v1.ownBlock) (hat : v1.ownBlock = some g ∨ g = W.heap.size) (hb5 : Below (G + 1) W w5) :
  Two G wb (w5.setCell ⟨G, 1, none⟩ (.slice (some ⟨g, 0, none⟩) n c)) E F tv l1 l2 := by
 have q0' := oldc hb5 (Nat.lt_succ_self _) q0
 have q1' := oldc hb5 (Nat.lt_succ_self _) q1
 have q2' := oldc hb5 (Nat.lt_succ_self _) q2
 refine ⟨⟨_, v2, ?_, ?_, ?_, (hG5.keep znT znT).top, ((hG2.far hg5 (fun k hk e => hne k e.symm hk)).keep znT znT).top, ?_⟩, fun o => ?_, ?_, ?_⟩
 ·rw [cell_setCell _ _ _ _ _ _ q0']; simp
 ·rw [cell_setCell _ _ _ _ _ _ q1']; simp
 ·rw [cell_setCell _ _ _ _ _ _ q2']; simp
 ·intro k hk e
  have hkg : k = g := by simpa [Value.ownBlock, eq_comm] using hk
  subst hkg
  rcases hat with hat | hat
  ·exact hne _ hat e
  ·have := (hG2.oltA e).2; omega
 ·exact frozen_setCell _ _ _ _ _ ((hb5.frozen (p := ⟨G, o, none⟩) (Nat.lt_succ_self _)).trans (hfr o))
 ·have := hb5.size; simp; omega
 ·exact (hb.trans (hb5.mono (Nat.le_succ _))).setCell (Nat.le_refl _) _
end Go.Proofs.YtcbhdmmohdnjbaaGreat
