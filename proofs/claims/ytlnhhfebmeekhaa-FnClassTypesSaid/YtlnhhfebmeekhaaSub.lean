/- Ours: a list that the call grows out of items of another owned list (some of them, in order): it owns their memory. -/
import Derived.Test.YtlnhhfebmeekhaaKinS
namespace Go.Proofs.Ytlnhhfebmeekhaa
set_option linter.unusedVariables false
set_option linter.unusedSimpArgs false
open Go.RowKit

theorem sub_flat {α : Type} {a b : List (List α)} (h : List.Sublist a b) : List.Sublist a.flatten b.flatten := by
  induction h with
  | slnil => exact List.Sublist.refl _
  | cons x _ ih => rw [List.flatten_cons]; exact ih.trans (List.sublist_append_right x _)
  | cons_cons x _ ih => rw [List.flatten_cons, List.flatten_cons]; exact (List.Sublist.refl x).append ih
/-- The row is the call's own, from lo on; the items' footprints are some of FP, in order; all of them lie below lo. -/
def GS {α : Type} [Rep α] (lo : Nat) (w : World) (E : TypeId) (v : Value) (xs : List α) (FP : List (List Nat)) : Prop :=
  ∃ css fps, w.ownsRow lo E (Rep.sz α) v xs.length css.flatten ∧ Zip (Rep.rep true w) css xs fps ∧ List.Sublist fps FP ∧ ∀ b ∈ fps.flatten, b < lo

section
variable {α : Type} [Rep α] {lo : Nat} {w w' : World} {E : TypeId} {v : Value} {xs : List α} {FP : List (List Nat)}
theorem GS.start (lo : Nat) (w : World) (E : TypeId) : GS (α := α) lo w E (.slice none 0 0) [] [] :=
  ⟨[], [], by simpa using World.ownsRow_nil w lo E (Rep.sz α), trivial, List.Sublist.refl _, by simp⟩
theorem GS.skip (h : GS lo w E v xs FP) (f : List Nat) : GS lo w E v xs (FP ++ [f]) := by
  obtain ⟨css, fps, ho, hz, hs, hb⟩ := h
  exact ⟨css, fps, ho, hz, hs.trans (List.sublist_append_left _ _), hb⟩
theorem GS.below (h : GS lo w E v xs FP) (hb : Below w.heap.size w w') : GS lo w' E v xs FP := by
  obtain ⟨css, fps, ho, hz, hs, hl⟩ := h
  refine ⟨css, fps, ⟨ho.1, ?_⟩, hz.keep (fun b hb' => hb.block b (hz.lt b hb')), hs, hl⟩
  rcases ho.2 with h | ⟨g, cap, cur, rfl, hbb, hh, r⟩
  · exact .inl h
  · exact .inr ⟨g, cap, cur, rfl, hbb, by rw [hb.block g (ho.lt g rfl).2]; exact hh, r⟩
theorem GS.alloc (h : GS lo w E v xs FP) (o : Obj) : GS lo (w.alloc o) E v xs FP := h.below ((Below.refl _ _).alloc (Nat.le_refl _) o)
theorem GS.len (h : GS lo w E v xs FP) : ∃ ao cap, v = .slice ao xs.length cap ∧ xs.length ≤ cap ∧ cap ≤ maxLen := by
  obtain ⟨css, fps, ho, _⟩ := h
  rcases ho.2 with ⟨rfl, h⟩ | ⟨g, cap, cur, rfl, hbb, hh, h1, h2, r⟩
  · rw [h]; exact ⟨none, 0, rfl, Nat.le_refl _, by simp [maxLen]⟩
  · exact ⟨_, cap, rfl, h1, h2⟩
/-- What has been picked is owned. -/
theorem GS.ow (h : GS lo w E v xs FP) (hn : FP.flatten.Nodup) {l0 : Nat} (h0 : l0 ≤ lo) (hz0 : ∀ b ∈ FP.flatten, l0 ≤ b) : Ow l0 w.heap.size w [v] xs := by
  obtain ⟨css, fps, ho, hz, hs, hl⟩ := h
  have hsub : List.Sublist fps.flatten FP.flatten := sub_flat hs
  rcases ho.2 with ⟨rfl, h⟩ | ⟨g, cap, cur, rfl, hbb, hh, h3, h4, h5, h6⟩
  · exact ⟨[], ⟨_, rfl, none, 0, 0, rfl, h, Nat.le_refl _, by simp [maxLen], fun _ => rfl, .inl ⟨rfl, rfl⟩⟩, (fun _ h => by cases h), List.nodup_nil⟩
  · refine ⟨g :: fps.flatten, ⟨_, rfl, some ⟨g, 0, none⟩, xs.length, cap, rfl, rfl, h3, h4, (fun h => by cases h), .inr ⟨g, 0, css, fps, rfl, (ho.lt g rfl).2, rfl, hz, ?_, ?_⟩⟩, ?_, List.nodup_cons.2 ⟨fun hm => by have := hl g hm; omega, hsub.nodup hn⟩⟩
    · intro j c hj
      have := ho.cells (g := g) rfl j c hj
      by_cases hj0 : j = 0
      · subst hj0; simpa [Addr.add] using this
      · simpa [Addr.add, hj0] using this
    · intro _ o
      simp [World.frozen?, hh]
    · intro b hb
      rcases List.mem_cons.1 hb with rfl | hb
      · exact ⟨Nat.le_trans h0 hbb, (ho.lt b rfl).2⟩
      · exact ⟨hz0 b (hsub.subset hb), hz.lt b hb⟩
end
section
variable {P : Program} {α : Type} [Rep α] {lo : Nat} {w : World} {E : TypeId} {v : Value} {xs : List α} {FP : List (List Nat)}
/-- out = append(out, x), x an item of the other list. -/
theorem wpList_push_sub {ops : Array Oper} {rest : List Oper} {o : Oper} {a : Act} {Q : Exit → Act → World → Prop} (hgd : o.guard = none) {s x : Operand} {t : TypeId}
    (ho : o.op = .call { callee := .builtin .append, args := #[s, x], argTypes := #[t, t] })
    {z0 : Value} {bytes : Nat} (hT : SlTy P t E z0 (Rep.sz α) bytes) (hsz : 0 < Rep.sz α) (hG : GS lo w E v xs FP) (hs : a.eval s = v)
    {ad : Addr} {c : Nat} (hx : a.eval x = .slice (some ad) 1 c) {cs : List Value} {y : α} {fp : List Nat} (hcells : ∀ j u, cs[j]? = some u → w.cell? (ad.add j) = some u)
    (hr : Rep.rep true w cs y fp) (hfp : ∀ b ∈ fp, b < lo) (h63 : xs.length + 1 ≤ maxLen) (hbytes : (xs.length + 1) * bytes ≤ 140737488355328) (hlo : lo ≤ w.heap.size)
    (h : ∀ v' w', GS lo w' E v' (xs ++ [y]) (FP ++ [fp]) → Below lo w w' → wpList P ops Q rest (a.put o.dst v') w') : wpList P ops Q (o :: rest) a w := by
  obtain ⟨css, fps, hown, hz, hsub, hl⟩ := hG
  have hlen : cs.length = 1 * Rep.sz α := by rw [Nat.one_mul]; exact Rep.len hr
  obtain ⟨v', w', hrun, ho', hgr, hv⟩ := run_app (P := P) w (t := t) (ty := o.type) hT hsz hown (ao := some ad) (m := 1) (c := c) hlen (fun h => by cases h) (fun a e => by simp only [Option.some.injEq] at e; subst e; exact hcells) (Rep.one hr) h63 hbytes hlo
  have hbel : Below lo w w' := (Below.refl lo w).grown hgr hlo fun k hk => (hown.lt k hk).1
  refine wpList_plain hgd fun K hK => ?_
  unfold Oper.wp execOp
  simp only [ho, resolve, invoke, builtin, Sem.run_bind, Sem.run_pure, Result.andThen_ok, List.map_toArray, List.map_cons, List.map_nil, hs, hx]
  rw [hrun]
  refine hK _ _ (h v' w' ⟨css ++ [cs], fps ++ [fp], ?_, (hz.snoc hr).keep fun b hb => hbel.block b ?_, hsub.append (List.Sublist.refl _), ?_⟩ hbel)
  · rw [List.length_append, List.flatten_append]; simpa using ho'
  · rw [List.flatten_append, List.mem_append] at hb
    rcases hb with hb | hb
    · exact hl b hb
    · exact hfp b (by simpa using hb)
  · intro b hb
    rw [List.flatten_append, List.mem_append] at hb
    rcases hb with hb | hb
    · exact hl b hb
    · exact hfp b (by simpa using hb)
end
/-! ### a list that may still be the empty literal -/
section
variable {P : Program} (w : World)
theorem run_lit0 {t ty e : TypeId} {z0 : Value} {size bytes : Nat} (hT : SlTy P t e z0 size bytes) {a0 : Addr} {a : Addr} {m c : Nat} {news : List Value} (hl : news.length = m * size) (hnews : ∀ j u, news[j]? = some u → w.cell? (a.add j) = some u)
    (hm : 0 < m) (h63 : m ≤ maxLen) (hbytes : m * bytes ≤ 140737488355328) :
    (Builtin.append_ #[t, t] ty #[.slice (some a0) 0 0, .slice (some a) m c]).run P w = (Builtin.append_ #[t, t] ty #[.slice none 0 0, .slice (some a) m c]).run P w := by
  obtain ⟨ht, ⟨i, hi, hz, hsize, hby⟩, hzs⟩ := hT
  subst hsize hby
  simp only [maxLen] at h63
  have h1 := run_append_nil (P := P) w t ty e i z0 ht hi hz a m c news hl hnews hm (by omega) (by omega)
  have h2 := run_append_grow (P := P) w t ty e i z0 ht hi hz a0 0 0 [] (by simp) (by simp) a m c news hl hnews (by omega) (by omega) (by rw [Nat.zero_add, nextslicecap_zero hm]; omega)
  rw [h1, h2]
  simp
end
/-- As GS, or nothing has been picked and the list is an empty literal. -/
def GZ {α : Type} [Rep α] (lo : Nat) (w : World) (E : TypeId) (v : Value) (xs : List α) (FP : List (List Nat)) : Prop := GS lo w E v xs FP ∨ (xs = [] ∧ ∃ a0, v = .slice (some a0) 0 0)
section
variable {α : Type} [Rep α] {lo : Nat} {w w' : World} {E : TypeId} {v : Value} {xs : List α} {FP : List (List Nat)}
theorem GZ.skip (h : GZ lo w E v xs FP) (f : List Nat) : GZ lo w E v xs (FP ++ [f]) := h.imp (fun h => h.skip f) id
theorem GZ.below (h : GZ lo w E v xs FP) (hb : Below w.heap.size w w') : GZ lo w' E v xs FP := h.imp (fun h => h.below hb) id
theorem GZ.alloc (h : GZ lo w E v xs FP) (o : Obj) : GZ lo (w.alloc o) E v xs FP := h.imp (fun h => h.alloc o) id
theorem GZ.start (lo : Nat) (w : World) (E : TypeId) : GZ (α := α) lo w E (.slice none 0 0) [] [] := .inl (GS.start _ _ _)
theorem GZ.lit0 (lo : Nat) (w : World) (E : TypeId) (a0 : Addr) : GZ (α := α) lo w E (.slice (some a0) 0 0) [] [] := .inr ⟨rfl, a0, rfl⟩
theorem GZ.len (h : GZ lo w E v xs FP) : ∃ ao cap, v = .slice ao xs.length cap ∧ xs.length ≤ cap ∧ cap ≤ maxLen := by
  rcases h with h | ⟨rfl, a0, rfl⟩
  · exact h.len
  · exact ⟨_, 0, rfl, Nat.le_refl _, by simp [maxLen]⟩
theorem GZ.ow (h : GZ lo w E v xs FP) (hn : FP.flatten.Nodup) {l0 : Nat} (h0 : l0 ≤ lo) (hz0 : ∀ b ∈ FP.flatten, l0 ≤ b) : Ow l0 w.heap.size w [v] xs := by
  rcases h with h | ⟨rfl, a0, rfl⟩
  · exact h.ow hn h0 hz0
  · exact ⟨[], ⟨_, rfl, _, 0, 0, rfl, rfl, Nat.le_refl _, by simp [maxLen], (fun h => by cases h), .inl ⟨rfl, rfl⟩⟩, (fun _ h => by cases h), List.nodup_nil⟩
end
section
variable {P : Program} {α : Type} [Rep α] {lo : Nat} {w : World} {E : TypeId} {v : Value} {xs : List α} {FP : List (List Nat)}
theorem wpList_push_subz {ops : Array Oper} {rest : List Oper} {o : Oper} {a : Act} {Q : Exit → Act → World → Prop} (hgd : o.guard = none) {s x : Operand} {t : TypeId}
    (ho : o.op = .call { callee := .builtin .append, args := #[s, x], argTypes := #[t, t] })
    {z0 : Value} {bytes : Nat} (hT : SlTy P t E z0 (Rep.sz α) bytes) (hsz : 0 < Rep.sz α) (hG : GZ lo w E v xs FP) (hs : a.eval s = v)
    {ad : Addr} {c : Nat} (hx : a.eval x = .slice (some ad) 1 c) {cs : List Value} {y : α} {fp : List Nat} (hcells : ∀ j u, cs[j]? = some u → w.cell? (ad.add j) = some u)
    (hr : Rep.rep true w cs y fp) (hfp : ∀ b ∈ fp, b < lo) (h63 : xs.length + 1 ≤ maxLen) (hbytes : (xs.length + 1) * bytes ≤ 140737488355328) (hlo : lo ≤ w.heap.size)
    (h : ∀ v' w', GZ lo w' E v' (xs ++ [y]) (FP ++ [fp]) → Below lo w w' → wpList P ops Q rest (a.put o.dst v') w') : wpList P ops Q (o :: rest) a w := by
  rcases hG with hG | ⟨rfl, a0, rfl⟩
  · exact wpList_push_sub hgd ho hT hsz hG hs hx hcells hr hfp h63 hbytes hlo fun v' w' h1 h2 => h v' w' (.inl h1) h2
  · have hlen : cs.length = 1 * Rep.sz α := by rw [Nat.one_mul]; exact Rep.len hr
    obtain ⟨v', w', hrun, ho', hgr, hv⟩ := run_app (P := P) w (t := t) (ty := o.type) hT hsz (World.ownsRow_nil w lo E (Rep.sz α)) (ao := some ad) (m := 1) (c := c) hlen (fun h => by cases h) (fun a e => by simp only [Option.some.injEq] at e; subst e; exact hcells) (Rep.one hr) (by simpa using h63) (by simpa using hbytes) hlo
    have hbel : Below lo w w' := (Below.refl lo w).grown hgr hlo fun k hk => by cases hk
    refine wpList_plain hgd fun K hK => ?_
    unfold Oper.wp execOp
    simp only [ho, resolve, invoke, builtin, Sem.run_bind, Sem.run_pure, Result.andThen_ok, List.map_toArray, List.map_cons, List.map_nil, hs, hx]
    rw [run_lit0 (P := P) w hT hlen hcells (by omega) (by simpa using h63) (by simpa using hbytes), hrun]
    refine hK _ _ (h v' w' (.inl ⟨[cs], [fp], by simpa using ho', ⟨Rep.keep hr fun b hb => hbel.block b (hfp b hb), trivial⟩, List.sublist_append_right _ _, fun b hb => hfp b (by simpa using hb)⟩) hbel)
end
/-- The items of an owned list, with their footprints. -/
theorem Ow.items {α : Type} [Rep α] {lo hi : Nat} {w : World} {ao : Option Addr} {n cap : Nat} {xs : List α} (h : Ow lo hi w [.slice ao n cap] xs) : ∃ FPS : List (List Nat), FPS.length = xs.length ∧ FPS.flatten.Nodup ∧ (∀ b ∈ FPS.flatten, lo ≤ b ∧ b < hi) ∧
    ∀ i x, xs[i]? = some x → ∃ b off cs fp, ao = some ⟨b, off, none⟩ ∧ FPS[i]? = some fp ∧ Rep.rep true w cs x fp ∧ (∀ j c, cs[j]? = some c → w.cell? ⟨b, off + (i * Rep.sz α + j), none⟩ = some c) := by
  obtain ⟨fp, ⟨_, e, ao', n', cap', e2, e1, -, -, -, hr⟩, hz, hn⟩ := h
  simp only [List.cons.injEq, and_true] at e
  subst e
  simp only [Value.slice.injEq] at e2
  obtain ⟨rfl, rfl, rfl⟩ := e2
  rcases hr with ⟨h0, rfl⟩ | ⟨b, off, css, fps, rfl, hb, rfl, hzip, hcells, -⟩
  · have hx : xs = [] := List.eq_nil_of_length_eq_zero (by omega)
    subst hx
    exact ⟨[], rfl, List.nodup_nil, (fun b hb => by simp at hb), fun i x hi => by simp at hi⟩
  · refine ⟨fps, hzip.lens.2, (List.nodup_cons.1 hn).2, fun b hb => hz b (List.mem_cons_of_mem _ hb), fun i x hi => ?_⟩
    obtain ⟨cs, f, h1, h2, h3⟩ := hzip.get hi
    refine ⟨b, off, cs, f, rfl, h2, h3, fun j c hj => ?_⟩
    have hjl : j < Rep.sz α := by
      have := (List.getElem?_eq_some_iff.1 hj).1
      rw [Rep.len h3] at this; exact this
    refine hcells _ c ?_
    rw [cellsAt_flat hzip.sizes h1 j hjl]; exact hj
end Go.Proofs.Ytlnhhfebmeekhaa
