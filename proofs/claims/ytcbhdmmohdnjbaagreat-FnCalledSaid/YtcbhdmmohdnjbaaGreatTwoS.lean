/- Ours: a list of flat items that the call grows from nil or from an empty literal; two such lists side by side in slots. -/
import Derived.Test.YtcbhdmmohdnjbaaGreatTrmC
import Derived.Test.YtcbhdmmohdnjbaaGreatTwo
namespace Go.Proofs.YtcbhdmmohdnjbaaGreat
set_option linter.unusedVariables false
set_option linter.unusedSimpArgs false
open Go.RowKit
def GLZ {α : Type} [FlatRep α] (K : Nat) (w : World) (E : TypeId) (v : Value) (xs : List α) : Prop := GL true K K w.heap.size w E v xs ∨ (xs = [] ∧ ∃ a, v = .slice (some ⟨a, 0, none⟩) 0 0 ∧ a < w.heap.size)
section
variable {α : Type} [FlatRep α] {K : Nat} {w w' : World} {E : TypeId} {v : Value} {xs : List α}
theorem GLZ.lit {a : Nat} (h : a < w.heap.size) : GLZ (α := α) K w E (.slice (some ⟨a, 0, none⟩) 0 0) [] := .inr ⟨rfl, a, rfl, h⟩
theorem GLZ.start : GLZ (α := α) K w E (.slice none 0 0) [] := .inl (GL.start _ _ _ _ _ _)
theorem GLZ.below (h : GLZ K w E v xs) (hb : Below w.heap.size w w') : GLZ K w' E v xs := by
 rcases h with h | ⟨rfl, a, rfl, ha⟩
 ·exact .inl (h.below hb).top
 ·exact .inr ⟨rfl, a, rfl, ltL ha hb.size⟩
theorem GLZ.far (h : GLZ K w E v xs) {row : Option Nat} (hg : w.grownBy w' row) (hr : ∀ g, v.ownBlock = some g → some g ≠ row) : GLZ K w' E v xs := by
 rcases h with h | ⟨rfl, a, rfl, ha⟩
 ·exact .inl (h.far hg hr)
 ·exact .inr ⟨rfl, a, rfl, ltL ha hg.size⟩
theorem GLZ.len (h : GLZ K w E v xs) : ∃ ao cap, v = .slice ao xs.length cap ∧ xs.length ≤ cap ∧ cap ≤ maxLen := by
 rcases h with h | ⟨rfl, a, rfl, ha⟩
 ·exact h.len
 ·exact ⟨_, 0, rfl, Nat.le_refl _, by simp [maxLen]⟩
theorem GLZ.olt (h : GLZ K w E v xs) {g : Nat} (hg : v.ownBlock = some g) : g < w.heap.size := by
 rcases h with h | ⟨rfl, a, rfl, ha⟩
 ·exact (h.oltA hg).2
 ·simp [Value.ownBlock] at hg; omega
theorem GLZ.rd (h : GLZ K w E v xs) : Rd true 0 w.heap.size w [v] xs := by
 rcases h with h | ⟨rfl, a, rfl, ha⟩
 ·exact h.rd (Nat.zero_le _) (Nat.zero_le _)
 ·exact ⟨[], ⟨_, rfl, _, 0, 0, rfl, rfl, Nat.le_refl _, by simp [maxLen], (fun h => by cases h), .inl ⟨rfl, rfl⟩⟩, fun _ h => by cases h⟩
end
section
variable {P : Program} {α : Type} [FlatRep α] {K : Nat} {w : World} {E : TypeId} {v : Value} {xs : List α}
theorem wpList_push_z {ops : Array Oper} {rest : List Oper} {o : Oper} {a : Act} {Q : Exit → Act → World → Prop} (hgd : o.guard = none) {s x : Operand} {t : TypeId}
  (ho : o.op = .call { callee := .builtin .append, args := #[s, x], argTypes := #[t, t] })
  {z0 : Value} {bytes : Nat} (hT : SlTy P t E z0 (Rep.sz α) bytes) (hsz : 0 < Rep.sz α) (hG : GLZ K w E v xs) (hs : a.eval s = v)
  {ad : Addr} {c : Nat} (hx : a.eval x = .slice (some ad) 1 c) {cs : List Value} {y : α} (hcells : ∀ j u, cs[j]? = some u → w.cell? (ad.add j) = some u)
  (hy : Rep.rep true w cs y []) (h63 : xs.length + 1 ≤ maxLen) (hbytes : (xs.length + 1) * bytes ≤ 140737488355328) (hlo : K ≤ w.heap.size)
  (h : ∀ g cap w', GLZ K w' E (.slice (some ⟨g, 0, none⟩) (xs.length + 1) cap) (xs ++ [y]) → w.grownBy w' v.ownBlock → Below K w w' → (v.ownBlock = some g ∨ g = w.heap.size) → wpList P ops Q rest (a.put o.dst (.slice (some ⟨g, 0, none⟩) (xs.length + 1) cap)) w') : wpList P ops Q (o :: rest) a w := by
 rcases hG with hG | ⟨rfl, a0, rfl, ha0⟩
 ·exact wpList_push_at hgd ho hT hsz hG hs hx (lx := w.heap.size) (hx' := w.heap.size) hcells (It.flat (z := true) (w0 := w) hy) hlo (.inl (Nat.le_refl _)) h63 hbytes hlo fun g cap w' h1 h2 h3 h4 => h g cap w' (.inl h1) h2 h3 h4
 ·have hlen : cs.length = 1 * Rep.sz α := by rw [Nat.one_mul]; exact Rep.len hy
  obtain ⟨v', w', hrun, h2, h3, hv, h5⟩ := run_push (P := P) (t := t) (ty := o.type) hT hsz (GL.start (α := α) true K K w.heap.size w E) (ao := some ad) (c := c) (css' := [cs]) (ys := [y]) (fps' := [[]]) ⟨hy, trivial⟩ (fun h => by cases h)
   (fun a e => by simp only [Option.some.injEq] at e; subst e; simpa using hcells)
   (fun b hb => by simp at hb) (fun _ => ⟨by simp, fun b hb => by simp at hb⟩) (by simpa using h63) (by simpa using hbytes) hlo
  refine wpList_plain hgd fun K' hK => ?_
  unfold Oper.wp execOp
  simp only [ho, resolve, invoke, builtin, Sem.run_bind, Sem.run_pure, Result.andThen_ok, List.map_toArray, List.map_cons, List.map_nil, hs, hx]
  simp only [List.length_cons, List.length_nil, Nat.zero_add] at hrun
  rw [run_lit0 (P := P) w hT hlen hcells omT (by simpa using h63) (by simpa using hbytes), hrun]
  obtain ⟨g, cap, e, hlg, hgw⟩ := h2.form spT
  simp only [List.length_append, List.length_cons, List.length_nil, Nat.zero_add] at e
  subst e
  refine hK _ _ (h g cap w' (.inl h2) ⟨h3.os, h3.tape, h3.output, h3.size, fun i hi _ => h3.block i hi (by simp [Value.ownBlock])⟩ h5 ?_)
  rcases hv with hv | hv
  ·simp [Value.ownBlock] at hv
  ·right; simpa [Value.ownBlock] using hv
end
structure TwoS {α β : Type} [FlatRep α] [FlatRep β] (K : Nat) (w : World) (E F : TypeId) (v1 v2 : Value) (l1 : List α) (l2 : List β) : Prop where
 one : GLZ K w E v1 l1
 two : GLZ K w F v2 l2
 ne : ∀ g, v1.ownBlock = some g → v2.ownBlock ≠ some g
section
variable {α β : Type} [FlatRep α] [FlatRep β] {K : Nat} {w w' : World} {E F : TypeId} {v1 v2 : Value} {l1 : List α} {l2 : List β}
theorem TwoS.below (h : TwoS K w E F v1 v2 l1 l2) (hb : Below w.heap.size w w') : TwoS K w' E F v1 v2 l1 l2 := ⟨h.one.below hb, h.two.below hb, h.ne⟩
theorem TwoS.mk1 (h : TwoS K w E F v1 v2 l1 l2) {g n c : Nat} {l : List α} (hG : GLZ K w' E (.slice (some ⟨g, 0, none⟩) n c) l) (hg : w.grownBy w' v1.ownBlock) (hat : v1.ownBlock = some g ∨ g = w.heap.size) : TwoS K w' E F (.slice (some ⟨g, 0, none⟩) n c) v2 l l2 := by
 refine ⟨hG, h.two.far hg (fun k hk e => h.ne k e.symm hk), fun k hk e => ?_⟩
 have hkg : k = g := by simpa [Value.ownBlock, eq_comm] using hk
 subst hkg
 rcases hat with hat | hat
 ·exact h.ne _ hat e
 ·have := h.two.olt e; omega
end
end Go.Proofs.YtcbhdmmohdnjbaaGreat
