/- Ours: what can be read and takes none but blocks of S; a list that the call grows of shared items. -/
import Derived.Test.YtdpkldapobbnpaaGreatDoorGrp
import Derived.Test.YtdpkldapobbnpaaGreatDoorBase
namespace Go.Proofs.YtdpkldapobbnpaaGreatDoor
set_option linter.unusedVariables false
set_option linter.unusedSimpArgs false
open Go.RowKit
def RdS {α : Type} [Rep α] (S : Nat → Prop) (w : World) (cs : List Value) (x : α) : Prop := ∃ fp, Rep.rep false w cs x fp ∧ ∀ b ∈ fp, b < w.heap.size ∧ S b
def GR {α : Type} [Rep α] (S : Nat → Prop) (lo : Nat) (w : World) (E : TypeId) (v : Value) (xs : List α) : Prop :=
 ∃ css fps, w.ownsRow lo E (Rep.sz α) v xs.length css.flatten ∧ Zip (Rep.rep false w) css xs fps ∧ ∀ b ∈ fps.flatten, b < lo ∧ S b
section
variable {α : Type} [Rep α] {S : Nat → Prop} {lo : Nat} {w w' : World} {E : TypeId} {v : Value} {xs : List α} {cs : List Value} {x : α}
theorem RdS.rd (h : RdS S w cs x) : Rd false 0 w.heap.size w cs x := by
 obtain ⟨fp, h1, h2⟩ := h
 exact ⟨fp, h1, fun b hb => ⟨Nat.zero_le _, (h2 b hb).1⟩⟩
theorem RdS.below (h : RdS S w cs x) (k : Below w.heap.size w w') : RdS S w' cs x := by
 obtain ⟨fp, h1, h2⟩ := h
 have h3 := Rep.keep h1 fun b hb => k.block b (h2 b hb).1
 exact ⟨fp, h3, fun b hb => ⟨Rep.lt h3 b hb, (h2 b hb).2⟩⟩
theorem RdS.mono {S' : Nat → Prop} (h : RdS S w cs x) (k : ∀ b, b < w.heap.size → S b → S' b) : RdS S' w cs x := by
 obtain ⟨fp, h1, h2⟩ := h
 exact ⟨fp, h1, fun b hb => ⟨(h2 b hb).1, k b (h2 b hb).1 (h2 b hb).2⟩⟩
theorem RdS.keep (h : RdS S w cs x) (k : ∀ b, b < w.heap.size → S b → w'.heap[b]? = w.heap[b]?) : RdS S w' cs x := by
 obtain ⟨fp, h1, h2⟩ := h
 have h3 := Rep.keep h1 fun b hb => k b (h2 b hb).1 (h2 b hb).2
 exact ⟨fp, h3, fun b hb => ⟨Rep.lt h3 b hb, (h2 b hb).2⟩⟩
theorem GR.lit0 (S : Nat → Prop) (lo : Nat) (w : World) (E : TypeId) (h : lo ≤ w.heap.size) : GR (α := α) S lo (w.alloc (.cells #[] E)) E (.slice (some ⟨w.heap.size, 0, none⟩) 0 0) [] :=
 ⟨[], [], by simpa using World.ownsRow_made (e := E) (size := Rep.sz α) w #[] 0 h (Nat.zero_le _) (by simp), trivial, by simp⟩
theorem GR.below (h : GR S lo w E v xs) (hb : Below w.heap.size w w') : GR S lo w' E v xs := by
 obtain ⟨css, fps, ho, hz, hl⟩ := h
 refine ⟨css, fps, ⟨ho.1, ?_⟩, hz.keep (fun b hb' => hb.block b (hz.lt b hb')), hl⟩
 rcases ho.2 with h | ⟨g, cap, cur, rfl, hbb, hh, r⟩
 ·exact .inl h
 ·exact .inr ⟨g, cap, cur, rfl, hbb, by rw [hb.block g (ho.lt g rfl).2]; exact hh, r⟩
theorem GR.alloc (h : GR S lo w E v xs) (o : Obj) : GR S lo (w.alloc o) E v xs := h.below ((Below.refl _ _).alloc (Nat.le_refl _) o)
theorem GR.rds (h : GR S lo w E v xs) : RdS (fun b => S b ∨ lo ≤ b) w [v] xs := by
 obtain ⟨css, fps, ho, hz, hl⟩ := h
 rcases ho.2 with ⟨rfl, h⟩ | ⟨g, cap, cur, rfl, hbb, hh, h3, h4, h5, h6⟩
 ·exact ⟨[], ⟨_, rfl, none, 0, 0, rfl, h, Nat.le_refl _, by simp [maxLen], fun _ => rfl, .inl ⟨rfl, rfl⟩⟩, (fun _ h => by cases h)⟩
 ·refine ⟨g :: fps.flatten, ⟨_, rfl, some ⟨g, 0, none⟩, xs.length, cap, rfl, rfl, h3, h4, (fun h => by cases h), .inr ⟨g, 0, css, fps, rfl, (ho.lt g rfl).2, rfl, hz, ?_, (fun h => by cases h)⟩⟩, ?_⟩
  ·intro j c hj
   have := ho.cells (g := g) rfl j c hj
   by_cases hj0 : j = 0
   ·subst hj0; simpa [Addr.add] using this
   ·simpa [Addr.add, hj0] using this
  ·intro b hb
   rcases List.mem_cons.1 hb with rfl | hb
   ·exact ⟨(ho.lt b rfl).2, .inr hbb⟩
   ·exact ⟨hz.lt b hb, .inl (hl b hb).2⟩
end
section
variable {P : Program} {α : Type} [Rep α] {S : Nat → Prop} {lo : Nat} {w : World} {E : TypeId} {v : Value} {xs : List α}
end
end Go.Proofs.YtdpkldapobbnpaaGreatDoor
