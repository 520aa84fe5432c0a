/- Ours: a list that the call grows and owns with its items, all of it in blocks of S (other blocks of the call's own may lie between). -/
import Derived.Test.YtdpkldapobbnpaaGreatDoorRds
namespace Go.Proofs.YtdpkldapobbnpaaGreatDoor
set_option linter.unusedVariables false
set_option linter.unusedSimpArgs false
open Go.RowKit

def GX {α : Type} [Rep α] (S : Nat → Prop) (w : World) (E : TypeId) (v : Value) (xs : List α) : Prop :=
  ∃ css fps, w.ownsRow 0 E (Rep.sz α) v xs.length css.flatten ∧ Zip (Rep.rep true w) css xs fps ∧ (∀ b ∈ fps.flatten, S b ∧ some b ≠ v.ownBlock) ∧ (∀ g, v.ownBlock = some g → S g) ∧ fps.flatten.Nodup
section
variable {α : Type} [Rep α] {S : Nat → Prop} {w w' : World} {E : TypeId} {v : Value} {xs : List α}
theorem GX.lt (h : GX S w E v xs) {b : Nat} (e : v.ownBlock = some b) : b < w.heap.size ∧ S b := by
  obtain ⟨css, fps, ho, hz, hf, hg, hn⟩ := h
  exact ⟨(ho.lt b e).2, hg b e⟩
theorem GX.keep (h : GX S w E v xs) (k : ∀ b, b < w.heap.size → S b → w'.heap[b]? = w.heap[b]?) : GX S w' E v xs := by
  obtain ⟨css, fps, ho, hz, hf, hg, hn⟩ := h
  refine ⟨css, fps, ⟨ho.1, ?_⟩, hz.keep (fun b hb => k b (hz.lt b hb) (hf b hb).1), hf, hg, hn⟩
  rcases ho.2 with h | ⟨g, cap, cur, rfl, hb, hh, r⟩
  · exact .inl h
  · exact .inr ⟨g, cap, cur, rfl, hb, by rw [k g (ho.lt g rfl).2 (hg g rfl)]; exact hh, r⟩
theorem GX.below (h : GX S w E v xs) (hb : Below w.heap.size w w') : GX S w' E v xs := h.keep fun b hl _ => hb.block b hl
theorem GX.alloc (h : GX S w E v xs) (o : Obj) : GX S (w.alloc o) E v xs := h.below ((Below.refl _ _).alloc (Nat.le_refl _) o)
theorem GX.mono {S' : Nat → Prop} (h : GX S w E v xs) (k : ∀ b, b < w.heap.size → S b → S' b) : GX S' w E v xs := by
  obtain ⟨css, fps, ho, hz, hf, hg, hn⟩ := h
  exact ⟨css, fps, ho, hz, fun b hb => ⟨k b (hz.lt b hb) (hf b hb).1, (hf b hb).2⟩, fun g e => k g (ho.lt g e).2 (hg g e), hn⟩
theorem GX.len (h : GX S w E v xs) : ∃ ao cap, v = .slice ao xs.length cap ∧ xs.length ≤ cap ∧ cap ≤ maxLen := by
  obtain ⟨css, fps, ho, hz, hf, hg, hn⟩ := h
  rcases ho.2 with ⟨rfl, h⟩ | ⟨g, cap, cur, rfl, hbb, hh, h1, h2, r⟩
  · rw [h]; exact ⟨none, 0, rfl, Nat.le_refl _, by simp [maxLen]⟩
  · exact ⟨_, cap, rfl, h1, h2⟩
theorem GX.ow (h : GX S w E v xs) {lo hi : Nat} (k : ∀ b, b < w.heap.size → S b → lo ≤ b ∧ b < hi) : Ow lo hi w [v] xs := by
  obtain ⟨css, fps, ho, hz, hf, hg, hn⟩ := h
  rcases ho.2 with ⟨rfl, h⟩ | ⟨g, cap, cur, rfl, hbb, hh, h3, h4, h5, h6⟩
  · exact ⟨[], ⟨_, rfl, none, 0, 0, rfl, h, Nat.le_refl _, by simp [maxLen], fun _ => rfl, .inl ⟨rfl, rfl⟩⟩, (fun _ h => by cases h), List.nodup_nil⟩
  · refine ⟨g :: fps.flatten, ⟨_, rfl, some ⟨g, 0, none⟩, xs.length, cap, rfl, rfl, h3, h4, (fun h => by cases h), .inr ⟨g, 0, css, fps, rfl, (ho.lt g rfl).2, rfl, hz, ?_, ?_⟩⟩, ?_, List.nodup_cons.2 ⟨fun hm => (hf g hm).2 rfl, hn⟩⟩
    · intro j c hj
      have := ho.cells (g := g) rfl j c hj
      by_cases hj0 : j = 0
      · subst hj0; simpa [Addr.add] using this
      · simpa [Addr.add, hj0] using this
    · intro _ o
      simp [World.frozen?, hh]
    · intro b hb
      rcases List.mem_cons.1 hb with rfl | hb
      · exact k b (ho.lt b rfl).2 (hg b rfl)
      · exact k b (hz.lt b hb) (hf b hb).1
theorem GX.rd (h : GX S w E v xs) : Rd true 0 w.heap.size w [v] xs := (h.ow (lo := 0) (hi := w.heap.size) fun b h1 _ => ⟨Nat.zero_le _, h1⟩).rd
/-- A literal of one item that the call owns. -/
theorem GX.lit1 (S : Nat → Prop) (w : World) (E : TypeId) {u : Value} {y : α} {lo hi : Nat} (hy : Ow lo hi w [u] y) (hS : ∀ b, lo ≤ b → b < hi → S b) (hw : S w.heap.size) : GX S (w.alloc (.cells #[u] E)) E (.slice (some ⟨w.heap.size, 0, none⟩) 1 1) [y] := by
  obtain ⟨fp, h1, h2, h3⟩ := hy
  have hs' : 1 = Rep.sz α := Rep.len h1
  refine ⟨[[u]], [fp], ?_, ⟨Rep.keep h1 fun b hb => Below.heap_alloc w _ b (Rep.lt h1 b hb), trivial⟩, ?_, ?_, by simpa using h3⟩
  · exact ⟨by simp [← hs'], .inr ⟨w.heap.size, 1, #[u], rfl, Nat.zero_le _, heap_alloc_new w _, Nat.le_refl _, by simp [maxLen], by simp [← hs'], by simp [← hs']⟩⟩
  · intro b hb
    have hb2 : b ∈ fp := by simpa using hb
    exact ⟨hS b (h2 b hb2).1 (h2 b hb2).2, by simp [Value.ownBlock]; have := Rep.lt h1 b hb2; omega⟩
  · intro g e
    simp [Value.ownBlock] at e
    subst e; exact hw
end
/-- What a one-cell literal holds. -/
theorem cells_new (w : World) (v : Value) (t : TypeId) : ∀ (j : Nat) (u : Value), [v][j]? = some u → (w.alloc (.cells #[v] t)).cell? ((⟨w.heap.size, 0, none⟩ : Addr).add j) = some u := by
  intro j c hj
  match j, hj with
  | 0, hj => simp at hj; subst hj; simp [Addr.add]
section
variable {P : Program} {α : Type} [Rep α] {S : Nat → Prop} {w : World} {E : TypeId} {v : Value} {xs : List α}
/-- out = append(out, x): x is owned and lies in blocks that the list does not take. -/
theorem wpList_push_x {ops : Array Oper} {rest : List Oper} {o : Oper} {a : Act} {Q : Exit → Act → World → Prop} (hgd : o.guard = none) {s x : Operand} {t : TypeId}
    (ho : o.op = .call { callee := .builtin .append, args := #[s, x], argTypes := #[t, t] })
    {z0 : Value} {bytes : Nat} (hT : SlTy P t E z0 (Rep.sz α) bytes) (hsz : 0 < Rep.sz α) (hs : a.eval s = v)
    {ad : Addr} {c : Nat} (hx : a.eval x = .slice (some ad) 1 c) {cs : List Value} {y : α} {lx hx' : Nat} (hcells : ∀ j u, cs[j]? = some u → w.cell? (ad.add j) = some u)
    {w0 : World} (hG0 : GX S w0 E v xs) (hw0 : w0.heap.size ≤ lx) (hk0 : ∀ b, b < w0.heap.size → S b → w.heap[b]? = w0.heap[b]?)
    (hy : Ow lx hx' w cs y) (hSy : ∀ b, lx ≤ b → b < hx' → S b) (hSw : S w.heap.size) (h63 : xs.length + 1 ≤ maxLen) (hbytes : (xs.length + 1) * bytes ≤ 140737488355328)
    (h : ∀ v' w', GX S w' E v' (xs ++ [y]) → w.grownBy w' v.ownBlock → (v'.ownBlock = v.ownBlock ∨ v'.ownBlock = some w.heap.size) → wpList P ops Q rest (a.put o.dst v') w') : wpList P ops Q (o :: rest) a w := by
  obtain ⟨css, fps, ho1, hz1, hf, hg, hn⟩ := hG0
  obtain ⟨fp, hr, hz, hnd⟩ := hy
  have hown : w.ownsRow 0 E (Rep.sz α) v xs.length css.flatten := by
    refine ⟨ho1.1, ?_⟩
    rcases ho1.2 with h | ⟨g, cap, cur, rfl, hb, hh, r⟩
    · exact .inl h
    · exact .inr ⟨g, cap, cur, rfl, hb, by rw [hk0 g (ho1.lt g rfl).2 (hg g rfl)]; exact hh, r⟩
  have hzw : Zip (Rep.rep true w) css xs fps := hz1.keep fun b hb => hk0 b (hz1.lt b hb) (hf b hb).1
  have hlen : cs.length = 1 * Rep.sz α := by rw [Nat.one_mul]; exact Rep.len hr
  obtain ⟨v', w', hrun, ho', hgr, hv⟩ := run_app (P := P) w (t := t) (ty := o.type) hT hsz hown (ao := some ad) (m := 1) (c := c) hlen (fun h => by cases h) (fun a e => by simp only [Option.some.injEq] at e; subst e; exact hcells) (Rep.one hr) h63 hbytes (Nat.zero_le _)
  have hne1 : ∀ b ∈ fp, some b ≠ v.ownBlock := fun b hb e => by have := (ho1.lt b e.symm).2; have := (hz b hb).1; omega
  have hlt : ∀ b ∈ (fps ++ [fp]).flatten, b < w.heap.size ∧ some b ≠ v.ownBlock ∧ S b := by
    intro b hb
    simp only [List.flatten_append, List.mem_append, List.flatten_cons, List.flatten_nil, List.append_nil] at hb
    rcases hb with hb | hb
    · exact ⟨hzw.lt b hb, (hf b hb).2, (hf b hb).1⟩
    · exact ⟨Rep.lt hr b hb, hne1 b hb, hSy b (hz b hb).1 (hz b hb).2⟩
  refine wpList_plain hgd fun K hK => ?_
  unfold Oper.wp execOp
  simp only [ho, resolve, invoke, builtin, Sem.run_bind, Sem.run_pure, Result.andThen_ok, List.map_toArray, List.map_cons, List.map_nil, hs, hx]
  rw [hrun]
  refine hK _ _ (h v' w' ⟨css ++ [cs], fps ++ [fp], ?_, ?_, fun b hb => ⟨(hlt b hb).2.2, fun e => ?_⟩, fun g e => ?_, ?_⟩ hgr hv)
  · rw [List.length_append, List.flatten_append]; simpa using ho'
  · exact (hzw.snoc hr).keep fun b hb => hgr.block b (hlt b hb).1 (hlt b hb).2.1
  · rcases hv with hv | hv
    · exact (hlt b hb).2.1 (by rw [← hv]; exact e)
    · rw [hv] at e; have := (hlt b hb).1; simp at e; omega
  · rcases hv with hv | hv
    · exact hg g (hv.symm.trans e)
    · rw [hv] at e; simp at e; subst e; exact hSw
  · rw [List.flatten_append]
    refine nodup_app hn (by simpa using hnd) fun x h1 h2 => ?_
    have h2 : x ∈ fp := by simpa using h2
    have := hz1.lt x h1
    have := (hz x h2).1
    omega
end
end Go.Proofs.YtdpkldapobbnpaaGreatDoor
