/- Ours: what can be read and takes none but blocks of S; a list that the call grows of shared items. -/
import Derived.Test.YtdpkldapobbnpaaGreatDoorGrp
import Derived.Test.YtdpkldapobbnpaaGreatDoorBase
namespace Go.Proofs.YtdpkldapobbnpaaGreatDoor
set_option linter.unusedVariables false
set_option linter.unusedSimpArgs false
open Go.RowKit

def RdS {α : Type} [Rep α] (S : Nat → Prop) (w : World) (cs : List Value) (x : α) : Prop := ∃ fp, Rep.rep false w cs x fp ∧ ∀ b ∈ fp, b < w.heap.size ∧ S b
/-- The row is the call's own, from lo on; the items lie below lo, in blocks of S. -/
def GR {α : Type} [Rep α] (S : Nat → Prop) (lo : Nat) (w : World) (E : TypeId) (v : Value) (xs : List α) : Prop :=
  ∃ css fps, w.ownsRow lo E (Rep.sz α) v xs.length css.flatten ∧ Zip (Rep.rep false w) css xs fps ∧ ∀ b ∈ fps.flatten, b < lo ∧ S b
section
variable {α : Type} [Rep α] {S : Nat → Prop} {lo : Nat} {w w' : World} {E : TypeId} {v : Value} {xs : List α} {cs : List Value} {x : α}
theorem RdS.rd (h : RdS S w cs x) : Rd false 0 w.heap.size w cs x := by
  obtain ⟨fp, h1, h2⟩ := h
  exact ⟨fp, h1, fun b hb => ⟨Nat.zero_le _, (h2 b hb).1⟩⟩
theorem RdS.below (h : RdS S w cs x) (k : Below w.heap.size w w') : RdS S w' cs x := by
  obtain ⟨fp, h1, h2⟩ := h
  have h3 := Rep.keep h1 fun b hb => k.block b (h2 b hb).1
  exact ⟨fp, h3, fun b hb => ⟨Rep.lt h3 b hb, (h2 b hb).2⟩⟩
theorem RdS.mono {S' : Nat → Prop} (h : RdS S w cs x) (k : ∀ b, b < w.heap.size → S b → S' b) : RdS S' w cs x := by
  obtain ⟨fp, h1, h2⟩ := h
  exact ⟨fp, h1, fun b hb => ⟨(h2 b hb).1, k b (h2 b hb).1 (h2 b hb).2⟩⟩
theorem RdS.keep (h : RdS S w cs x) (k : ∀ b, b < w.heap.size → S b → w'.heap[b]? = w.heap[b]?) : RdS S w' cs x := by
  obtain ⟨fp, h1, h2⟩ := h
  have h3 := Rep.keep h1 fun b hb => k b (h2 b hb).1 (h2 b hb).2
  exact ⟨fp, h3, fun b hb => ⟨Rep.lt h3 b hb, (h2 b hb).2⟩⟩
theorem GR.lit0 (S : Nat → Prop) (lo : Nat) (w : World) (E : TypeId) (h : lo ≤ w.heap.size) : GR (α := α) S lo (w.alloc (.cells #[] E)) E (.slice (some ⟨w.heap.size, 0, none⟩) 0 0) [] :=
  ⟨[], [], by simpa using World.ownsRow_made (e := E) (size := Rep.sz α) w #[] 0 h (Nat.zero_le _) (by simp), trivial, by simp⟩
theorem GR.below (h : GR S lo w E v xs) (hb : Below w.heap.size w w') : GR S lo w' E v xs := by
  obtain ⟨css, fps, ho, hz, hl⟩ := h
  refine ⟨css, fps, ⟨ho.1, ?_⟩, hz.keep (fun b hb' => hb.block b (hz.lt b hb')), hl⟩
  rcases ho.2 with h | ⟨g, cap, cur, rfl, hbb, hh, r⟩
  · exact .inl h
  · exact .inr ⟨g, cap, cur, rfl, hbb, by rw [hb.block g (ho.lt g rfl).2]; exact hh, r⟩
theorem GR.alloc (h : GR S lo w E v xs) (o : Obj) : GR S lo (w.alloc o) E v xs := h.below ((Below.refl _ _).alloc (Nat.le_refl _) o)
theorem GR.rds (h : GR S lo w E v xs) : RdS (fun b => S b ∨ lo ≤ b) w [v] xs := by
  obtain ⟨css, fps, ho, hz, hl⟩ := h
  rcases ho.2 with ⟨rfl, h⟩ | ⟨g, cap, cur, rfl, hbb, hh, h3, h4, h5, h6⟩
  · exact ⟨[], ⟨_, rfl, none, 0, 0, rfl, h, Nat.le_refl _, by simp [maxLen], fun _ => rfl, .inl ⟨rfl, rfl⟩⟩, (fun _ h => by cases h)⟩
  · refine ⟨g :: fps.flatten, ⟨_, rfl, some ⟨g, 0, none⟩, xs.length, cap, rfl, rfl, h3, h4, (fun h => by cases h), .inr ⟨g, 0, css, fps, rfl, (ho.lt g rfl).2, rfl, hz, ?_, (fun h => by cases h)⟩⟩, ?_⟩
    · intro j c hj
      have := ho.cells (g := g) rfl j c hj
      by_cases hj0 : j = 0
      · subst hj0; simpa [Addr.add] using this
      · simpa [Addr.add, hj0] using this
    · intro b hb
      rcases List.mem_cons.1 hb with rfl | hb
      · exact ⟨(ho.lt b rfl).2, .inr hbb⟩
      · exact ⟨hz.lt b hb, .inl (hl b hb).2⟩
end
theorem RdS.list_at {S : Nat → Prop} {w : World} {xs : Pms} {ao : Option Addr} {n cap : Nat} (h : RdS S w [.slice ao n cap] xs) {i : Nat} (hi' : i < n) :
    ∃ b off p v, ao = some ⟨b, off, none⟩ ∧ Hid (xs[i]? = some p) ∧ w.cell? ⟨b, off + i, none⟩ = some v ∧ RdS S w [v] p ∧ b < w.heap.size := by
  obtain ⟨fp, ⟨v, e, ao', n', cap', e2, hn, h2, h3, h4, hh⟩, hz⟩ := h
  simp only [List.cons.injEq, and_true] at e
  subst e
  simp only [Value.slice.injEq] at e2
  obtain ⟨rfl, rfl, rfl⟩ := e2
  rcases hh with ⟨h0, _⟩ | ⟨b, off, css, fps, rfl, hb, rfl, hzip, hc, hf⟩
  · omega
  · obtain ⟨x, hx⟩ : ∃ x, xs[i]? = some x := ⟨_, List.getElem?_eq_getElem (by omega)⟩
    obtain ⟨c, f, k1, k2, k3⟩ := hzip.get hx
    obtain ⟨v, rfl⟩ : ∃ v, c = [v] := by
      have := Rep.len k3
      match c, this with
      | [v], _ => exact ⟨v, rfl⟩
    refine ⟨b, off, x, v, rfl, hx, ?_, ⟨f, k3, fun b hb => hz b (List.mem_cons_of_mem _ (List.mem_flatten.2 ⟨f, List.mem_of_getElem? k2, hb⟩))⟩, hb⟩
    have := cellsAt_flat hzip.sizes k1 0 (by show 0 < 1; omega)
    have := hc (i * 1 + 0) v (by simpa [Rep.sz] using this)
    simpa using this
section
variable {P : Program} {α : Type} [Rep α] {S : Nat → Prop} {lo : Nat} {w : World} {E : TypeId} {v : Value} {xs : List α}
theorem wpList_push_r {ops : Array Oper} {rest : List Oper} {o : Oper} {a : Act} {Q : Exit → Act → World → Prop} (hgd : o.guard = none) {s x : Operand} {t : TypeId}
    (ho : o.op = .call { callee := .builtin .append, args := #[s, x], argTypes := #[t, t] })
    {z0 : Value} {bytes : Nat} (hT : SlTy P t E z0 (Rep.sz α) bytes) (hsz : 0 < Rep.sz α) (hG : GR S lo w E v xs) (hs : a.eval s = v)
    {ad : Addr} {c : Nat} (hx : a.eval x = .slice (some ad) 1 c) {cs : List Value} {y : α} (hcells : ∀ j u, cs[j]? = some u → w.cell? (ad.add j) = some u)
    {w0 : World} (hy : RdS S w0 cs y) (hw : Below lo w0 w) (hw0 : w0.heap.size ≤ lo) (h63 : xs.length + 1 ≤ maxLen) (hbytes : (xs.length + 1) * bytes ≤ 140737488355328) (hlo : lo ≤ w.heap.size)
    (h : ∀ v' w', GR S lo w' E v' (xs ++ [y]) → Below lo w w' → wpList P ops Q rest (a.put o.dst v') w') : wpList P ops Q (o :: rest) a w := by
  obtain ⟨fp, hr0, hfp⟩ := hy
  have hr : Rep.rep false w cs y fp := Rep.keep hr0 fun b hb => hw.block b (Nat.lt_of_lt_of_le (hfp b hb).1 hw0)
  obtain ⟨css, fps, hown, hz, hl⟩ := hG
  have hlen : cs.length = 1 * Rep.sz α := by rw [Nat.one_mul]; exact Rep.len hr
  obtain ⟨v', w', hrun, ho', hgr, hv⟩ := run_app (P := P) w (t := t) (ty := o.type) hT hsz hown (ao := some ad) (m := 1) (c := c) hlen (fun h => by cases h) (fun a e => by simp only [Option.some.injEq] at e; subst e; exact hcells) (Rep.one hr) h63 hbytes hlo
  have hbel : Below lo w w' := (Below.refl lo w).grown hgr hlo fun k hk => (hown.lt k hk).1
  refine wpList_plain hgd fun K hK => ?_
  unfold Oper.wp execOp
  simp only [ho, resolve, invoke, builtin, Sem.run_bind, Sem.run_pure, Result.andThen_ok, List.map_toArray, List.map_cons, List.map_nil, hs, hx]
  rw [hrun]
  refine hK _ _ (h v' w' ⟨css ++ [cs], fps ++ [fp], ?_, (hz.snoc hr).keep fun b hb => hbel.block b ?_, ?_⟩ hbel)
  · rw [List.length_append, List.flatten_append]; simpa using ho'
  · rw [List.flatten_append, List.mem_append] at hb
    rcases hb with hb | hb
    · exact (hl b hb).1
    · exact Nat.lt_of_lt_of_le (hfp b (by simpa using hb)).1 hw0
  · intro b hb
    rw [List.flatten_append, List.mem_append] at hb
    rcases hb with hb | hb
    · exact hl b hb
    · have := hfp b (by simpa using hb)
      exact ⟨Nat.lt_of_lt_of_le this.1 hw0, this.2⟩
end
end Go.Proofs.YtdpkldapobbnpaaGreatDoor
