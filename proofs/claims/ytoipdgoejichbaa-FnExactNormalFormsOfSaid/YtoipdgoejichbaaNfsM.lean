/- Texts laid one behind the other (merge.py): RdsK, Gx, NfX, RedI, RedS, FmtJ, Nfs, NfsC, KPut, NfsS. -/
import Derived.Test.YtoipdgoejichbaaBase
import Derived.Test.YtoipdgoejichbaaStbM
import Derived.Test.YtoipdgoejichbaaTrmA
import Derived.Test.YtoipdgoejichbaaFmt
import Derived.Test.YtoipdgoejichbaaCmp
namespace Go.Proofs.Ytoipdgoejichbaa
set_option linter.unusedVariables false
set_option linter.unusedSimpArgs false
open Go.RowKit

/-! ### RdsK -/
section

theorem RdS.kin_at {S : Nat → Prop} {w : World} {xs : List Kin} {ao : Option Addr} {n cap : Nat} (h : RdS S w [.slice ao n cap] xs) {i : Nat} (hi' : i < n) :
    ∃ b off t v, ao = some ⟨b, off, none⟩ ∧ Hid (xs[i]? = some t) ∧ w.cell? ⟨b, off + i * 2, none⟩ = some (.int .i64 t.1) ∧ w.cell? ⟨b, off + i * 2 + 1, none⟩ = some v ∧ RdS S w [.int .i64 t.1, v] t ∧ b < w.heap.size := by
  obtain ⟨fp, ⟨v, e, ao', n', cap', e2, hn, h2, h3, h4, hh⟩, hz⟩ := h
  simp only [List.cons.injEq, and_true] at e
  subst e
  simp only [Value.slice.injEq] at e2
  obtain ⟨rfl, rfl, rfl⟩ := e2
  rcases hh with ⟨h0, _⟩ | ⟨b, off, css, fps, rfl, hb, rfl, hzip, hc, hf⟩
  · omega
  · obtain ⟨x, hx⟩ : ∃ x, xs[i]? = some x := ⟨_, List.getElem?_eq_getElem (by omega)⟩
    obtain ⟨c, f, k1, k2, k3⟩ := hzip.get hx
    obtain ⟨v, rfl, _, _⟩ := repKin_inv k3
    have h2 : Rep.sz Kin = 2 := rfl
    refine ⟨b, off, x, v, rfl, hx, ?_, ?_, ⟨f, k3, fun b hb => hz b (List.mem_cons_of_mem _ (List.mem_flatten.2 ⟨f, List.mem_of_getElem? k2, hb⟩))⟩, hb⟩
    · have := cellsAt_flat hzip.sizes k1 0 (by rw [h2]; omega)
      have := hc (i * 2 + 0) (.int .i64 x.1) (by rw [h2] at this; simpa using this)
      simpa using this
    · have := cellsAt_flat hzip.sizes k1 1 (by rw [h2]; omega)
      have := hc (i * 2 + 1) v (by rw [h2] at this; simpa using this)
      simpa [Nat.add_assoc] using this
theorem RdS.kin2 {S : Nat → Prop} {w : World} {a b : Value} {t : Kin} (h : RdS S w [a, b] t) : a = .int .i64 t.1 ∧ RdS S w [b] t.2 := by
  obtain ⟨fp, h1, h2⟩ := h
  obtain ⟨v, e, _, h3⟩ := repKin_inv h1
  simp only [List.cons.injEq, and_true] at e
  obtain ⟨rfl, rfl⟩ := e
  exact ⟨rfl, fp, h3, h2⟩
theorem GR.ownLt {α : Type} [Rep α] {S : Nat → Prop} {lo : Nat} {w : World} {E : TypeId} {v : Value} {xs : List α} (h : GR S lo w E v xs) {g : Nat} (e : v.ownBlock = some g) : lo ≤ g ∧ g < w.heap.size := by
  obtain ⟨css, fps, ho, _⟩ := h
  exact ho.lt g e
theorem GR.len {α : Type} [Rep α] {S : Nat → Prop} {lo : Nat} {w : World} {E : TypeId} {v : Value} {xs : List α} (h : GR S lo w E v xs) : ∃ ao cap, v = .slice ao xs.length cap := by
  obtain ⟨css, fps, ho, _⟩ := h
  rcases ho.2 with ⟨rfl, h⟩ | ⟨g, cap, cur, rfl, _⟩
  · have h0 : xs.length = 0 := by omega
    exact ⟨none, 0, by rw [h0]⟩
  · exact ⟨_, _, rfl⟩
section
variable {P : Program} {α : Type} [Rep α] {S : Nat → Prop} {lo : Nat} {w : World} {E : TypeId} {v : Value} {xs : List α}
theorem wpList_push_rk {ops : Array Oper} {rest : List Oper} {o : Oper} {a : Act} {Q : Exit → Act → World → Prop} (hgd : o.guard = none) {s x : Operand} {t : TypeId}
    (ho : o.op = .call { callee := .builtin .append, args := #[s, x], argTypes := #[t, t] })
    {z0 : Value} {bytes : Nat} (hT : SlTy P t E z0 (Rep.sz α) bytes) (hsz : 0 < Rep.sz α) (hG : GR S lo w E v xs) (hs : a.eval s = v)
    {ad : Addr} {c : Nat} (hx : a.eval x = .slice (some ad) 1 c) {cs : List Value} {y : α} (hcells : ∀ j u, cs[j]? = some u → w.cell? (ad.add j) = some u)
    {w0 : World} (hy : RdS S w0 cs y) (hw : Below lo w0 w) (hw0 : w0.heap.size ≤ lo) (h63 : xs.length + 1 ≤ maxLen) (hbytes : (xs.length + 1) * bytes ≤ 140737488355328) (hlo : lo ≤ w.heap.size)
    (h : ∀ v' w', GR S lo w' E v' (xs ++ [y]) → w.grownBy w' v.ownBlock → Below lo w w' → wpList P ops Q rest (a.put o.dst v') w') : wpList P ops Q (o :: rest) a w := by
  obtain ⟨fp, hr0, hfp⟩ := hy
  have hr : Rep.rep false w cs y fp := Rep.keep hr0 fun b hb => hw.block b (Nat.lt_of_lt_of_le (hfp b hb).1 hw0)
  obtain ⟨css, fps, hown, hz, hl⟩ := hG
  have hlen : cs.length = 1 * Rep.sz α := by rw [Nat.one_mul]; exact Rep.len hr
  obtain ⟨v', w', hrun, ho', hgr, hv⟩ := run_app (P := P) w (t := t) (ty := o.type) hT hsz hown (ao := some ad) (m := 1) (c := c) hlen (fun h => by cases h) (fun a e => by simp only [Option.some.injEq] at e; subst e; exact hcells) (Rep.one hr) h63 hbytes hlo
  have hbel : Below lo w w' := (Below.refl lo w).grown hgr hlo fun k hk => (hown.lt k hk).1
  refine wpList_plain hgd fun K hK => ?_
  unfold Oper.wp execOp
  simp only [ho, resolve, invoke, builtin, Sem.run_bind, Sem.run_pure, Result.andThen_ok, List.map_toArray, List.map_cons, List.map_nil, hs, hx]
  rw [hrun]
  refine hK _ _ (h v' w' ⟨css ++ [cs], fps ++ [fp], ?_, (hz.snoc hr).keep fun b hb => hbel.block b ?_, ?_⟩ hgr hbel)
  · rw [List.length_append, List.flatten_append]; simpa using ho'
  · rw [List.flatten_append, List.mem_append] at hb
    rcases hb with hb | hb
    · exact (hl b hb).1
    · exact Nat.lt_of_lt_of_le (hfp b (by simpa using hb)).1 hw0
  · intro b hb
    rw [List.flatten_append, List.mem_append] at hb
    rcases hb with hb | hb
    · exact hl b hb
    · have := hfp b (by simpa using hb)
      exact ⟨Nat.lt_of_lt_of_le this.1 hw0, this.2⟩
theorem wpList_push_s {ops : Array Oper} {rest : List Oper} {o : Oper} {a : Act} {Q : Exit → Act → World → Prop} {hi : Nat} (hgd : o.guard = none) {s x : Operand} {t : TypeId}
    (ho : o.op = .call { callee := .builtin .append, args := #[s, x], argTypes := #[t, t] })
    {z0 : Value} {bytes : Nat} (hT : SlTy P t E z0 (Rep.sz α) bytes) (hsz : 0 < Rep.sz α) (hG : GL false lo 0 hi w E v xs) (hs : a.eval s = v)
    {ad : Addr} {c : Nat} (hx : a.eval x = .slice (some ad) 1 c) {cs : List Value} {y : α} (hcells : ∀ j u, cs[j]? = some u → w.cell? (ad.add j) = some u)
    (hy : RdS (fun b => some b ≠ v.ownBlock) w cs y) (h63 : xs.length + 1 ≤ maxLen) (hbytes : (xs.length + 1) * bytes ≤ 140737488355328) (hlo : lo ≤ w.heap.size)
    (h : ∀ v' w', GL false lo 0 w'.heap.size w' E v' (xs ++ [y]) → w.grownBy w' v.ownBlock → Below lo w w' → (v'.ownBlock = v.ownBlock ∨ v'.ownBlock = some w.heap.size) → wpList P ops Q rest (a.put o.dst v') w') : wpList P ops Q (o :: rest) a w := by
  obtain ⟨fp, hr, hz⟩ := hy
  obtain ⟨v', w', hrun, h2, h3, hv, h5⟩ := run_push (P := P) (t := t) (ty := o.type) hT hsz hG (ao := some ad) (c := c) (css' := [cs]) (ys := [y]) (fps' := [fp]) ⟨hr, trivial⟩ (fun h => by cases h)
    (fun a e => by simp only [Option.some.injEq] at e; subst e; simpa using hcells)
    (fun b hb => by
      have hb' : b ∈ fp := by simpa using hb
      exact ⟨Nat.zero_le _, (hz b hb').2⟩)
    (fun hnd => by cases hnd) (by simpa using h63) (by simpa using hbytes) hlo
  refine wpList_plain hgd fun K hK => ?_
  unfold Oper.wp execOp
  simp only [ho, resolve, invoke, builtin, Sem.run_bind, Sem.run_pure, Result.andThen_ok, List.map_toArray, List.map_cons, List.map_nil, hs, hx]
  simp only [List.length_cons, List.length_nil, Nat.zero_add] at hrun
  rw [hrun]
  exact hK _ _ (h v' w' h2 h3 h5 hv)
end
/-- A literal of one kin type that others share. -/
theorem GL.litK (lo : Nat) (w : World) (E : TypeId) {u v : Value} {y : Kin} (h : lo ≤ w.heap.size) (hr : Rd false 0 w.heap.size w [u, v] y) : GL false lo 0 (w.heap.size + 1) (w.alloc (.cells #[u, v] E)) E (.slice (some ⟨w.heap.size, 0, none⟩) 1 1) [y] := by
  obtain ⟨fp, h1, h2⟩ := hr
  have hs' : 2 = Rep.sz Kin := rfl
  refine ⟨[[u, v]], [fp], ?_, ⟨Rep.keep h1 fun b hb => Below.heap_alloc w _ b (h2 b hb).2, trivial⟩, ?_, by simp [Value.ownBlock], fun e => by cases e⟩
  · exact ⟨by simp [← hs'], .inr ⟨w.heap.size, 1, #[u, v], rfl, h, heap_alloc_new w _, Nat.le_refl _, by simp [maxLen], by simp [← hs'], by simp [← hs']⟩⟩
  · intro b hb
    have hb2 : b ∈ fp := by simpa using hb
    have := (h2 b hb2).2
    exact ⟨Nat.zero_le _, by omega, by simp [Value.ownBlock]; omega⟩
/-- What can be read in a zone is there with what it takes. -/
theorem Rd.rds {α : Type} [Rep α] {S : Nat → Prop} {z : Bool} {lo hi : Nat} {w : World} {cs : List Value} {x : α} (h : Rd z lo hi w cs x) (k : ∀ b, lo ≤ b → b < hi → S b) : RdS S w cs x := by
  obtain ⟨fp, h1, h2⟩ := h
  exact ⟨fp, Rep.weak h1, fun b hb => ⟨Rep.lt h1 b hb, k b (h2 b hb).1 (h2 b hb).2⟩⟩

end

/-! ### Gx -/
section

def GX {α : Type} [Rep α] (S : Nat → Prop) (w : World) (E : TypeId) (v : Value) (xs : List α) : Prop :=
  ∃ css fps, w.ownsRow 0 E (Rep.sz α) v xs.length css.flatten ∧ Zip (Rep.rep true w) css xs fps ∧ (∀ b ∈ fps.flatten, S b ∧ some b ≠ v.ownBlock) ∧ (∀ g, v.ownBlock = some g → S g) ∧ fps.flatten.Nodup
section
variable {α : Type} [Rep α] {S : Nat → Prop} {w w' : World} {E : TypeId} {v : Value} {xs : List α}
theorem GX.lt (h : GX S w E v xs) {b : Nat} (e : v.ownBlock = some b) : b < w.heap.size ∧ S b := by
  obtain ⟨css, fps, ho, hz, hf, hg, hn⟩ := h
  exact ⟨(ho.lt b e).2, hg b e⟩
theorem GX.keep (h : GX S w E v xs) (k : ∀ b, b < w.heap.size → S b → w'.heap[b]? = w.heap[b]?) : GX S w' E v xs := by
  obtain ⟨css, fps, ho, hz, hf, hg, hn⟩ := h
  refine ⟨css, fps, ⟨ho.1, ?_⟩, hz.keep (fun b hb => k b (hz.lt b hb) (hf b hb).1), hf, hg, hn⟩
  rcases ho.2 with h | ⟨g, cap, cur, rfl, hb, hh, r⟩
  · exact .inl h
  · exact .inr ⟨g, cap, cur, rfl, hb, by rw [k g (ho.lt g rfl).2 (hg g rfl)]; exact hh, r⟩
theorem GX.below (h : GX S w E v xs) (hb : Below w.heap.size w w') : GX S w' E v xs := h.keep fun b hl _ => hb.block b hl
theorem GX.alloc (h : GX S w E v xs) (o : Obj) : GX S (w.alloc o) E v xs := h.below ((Below.refl _ _).alloc (Nat.le_refl _) o)
theorem GX.mono {S' : Nat → Prop} (h : GX S w E v xs) (k : ∀ b, b < w.heap.size → S b → S' b) : GX S' w E v xs := by
  obtain ⟨css, fps, ho, hz, hf, hg, hn⟩ := h
  exact ⟨css, fps, ho, hz, fun b hb => ⟨k b (hz.lt b hb) (hf b hb).1, (hf b hb).2⟩, fun g e => k g (ho.lt g e).2 (hg g e), hn⟩
theorem GX.len (h : GX S w E v xs) : ∃ ao cap, v = .slice ao xs.length cap ∧ xs.length ≤ cap ∧ cap ≤ maxLen := by
  obtain ⟨css, fps, ho, hz, hf, hg, hn⟩ := h
  rcases ho.2 with ⟨rfl, h⟩ | ⟨g, cap, cur, rfl, hbb, hh, h1, h2, r⟩
  · rw [h]; exact ⟨none, 0, rfl, Nat.le_refl _, by simp [maxLen]⟩
  · exact ⟨_, cap, rfl, h1, h2⟩
theorem GX.ow (h : GX S w E v xs) {lo hi : Nat} (k : ∀ b, b < w.heap.size → S b → lo ≤ b ∧ b < hi) : Ow lo hi w [v] xs := by
  obtain ⟨css, fps, ho, hz, hf, hg, hn⟩ := h
  rcases ho.2 with ⟨rfl, h⟩ | ⟨g, cap, cur, rfl, hbb, hh, h3, h4, h5, h6⟩
  · exact ⟨[], ⟨_, rfl, none, 0, 0, rfl, h, Nat.le_refl _, by simp [maxLen], fun _ => rfl, .inl ⟨rfl, rfl⟩⟩, (fun _ h => by cases h), List.nodup_nil⟩
  · refine ⟨g :: fps.flatten, ⟨_, rfl, some ⟨g, 0, none⟩, xs.length, cap, rfl, rfl, h3, h4, (fun h => by cases h), .inr ⟨g, 0, css, fps, rfl, (ho.lt g rfl).2, rfl, hz, ?_, ?_⟩⟩, ?_, List.nodup_cons.2 ⟨fun hm => (hf g hm).2 rfl, hn⟩⟩
    · intro j c hj
      have := ho.cells (g := g) rfl j c hj
      by_cases hj0 : j = 0
      · subst hj0; simpa [Addr.add] using this
      · simpa [Addr.add, hj0] using this
    · intro _ o
      simp [World.frozen?, hh]
    · intro b hb
      rcases List.mem_cons.1 hb with rfl | hb
      · exact k b (ho.lt b rfl).2 (hg b rfl)
      · exact k b (hz.lt b hb) (hf b hb).1
theorem GX.rd (h : GX S w E v xs) : Rd true 0 w.heap.size w [v] xs := (h.ow (lo := 0) (hi := w.heap.size) fun b h1 _ => ⟨Nat.zero_le _, h1⟩).rd
/-- A literal of one item that the call owns. -/
theorem GX.lit1 (S : Nat → Prop) (w : World) (E : TypeId) {u : Value} {y : α} {lo hi : Nat} (hy : Ow lo hi w [u] y) (hS : ∀ b, lo ≤ b → b < hi → S b) (hw : S w.heap.size) : GX S (w.alloc (.cells #[u] E)) E (.slice (some ⟨w.heap.size, 0, none⟩) 1 1) [y] := by
  obtain ⟨fp, h1, h2, h3⟩ := hy
  have hs' : 1 = Rep.sz α := Rep.len h1
  refine ⟨[[u]], [fp], ?_, ⟨Rep.keep h1 fun b hb => Below.heap_alloc w _ b (Rep.lt h1 b hb), trivial⟩, ?_, ?_, by simpa using h3⟩
  · exact ⟨by simp [← hs'], .inr ⟨w.heap.size, 1, #[u], rfl, Nat.zero_le _, heap_alloc_new w _, Nat.le_refl _, by simp [maxLen], by simp [← hs'], by simp [← hs']⟩⟩
  · intro b hb
    have hb2 : b ∈ fp := by simpa using hb
    exact ⟨hS b (h2 b hb2).1 (h2 b hb2).2, by simp [Value.ownBlock]; have := Rep.lt h1 b hb2; omega⟩
  · intro g e
    simp [Value.ownBlock] at e
    subst e; exact hw
end
/-- What a one-cell literal holds. -/
theorem cells_new (w : World) (v : Value) (t : TypeId) : ∀ (j : Nat) (u : Value), [v][j]? = some u → (w.alloc (.cells #[v] t)).cell? ((⟨w.heap.size, 0, none⟩ : Addr).add j) = some u := by
  intro j c hj
  match j, hj with
  | 0, hj => simp at hj; subst hj; simp [Addr.add]
section
variable {P : Program} {α : Type} [Rep α] {S : Nat → Prop} {w : World} {E : TypeId} {v : Value} {xs : List α}
/-- out = append(out, x): x is owned and lies in blocks that the list does not take. -/
theorem wpList_push_x {ops : Array Oper} {rest : List Oper} {o : Oper} {a : Act} {Q : Exit → Act → World → Prop} (hgd : o.guard = none) {s x : Operand} {t : TypeId}
    (ho : o.op = .call { callee := .builtin .append, args := #[s, x], argTypes := #[t, t] })
    {z0 : Value} {bytes : Nat} (hT : SlTy P t E z0 (Rep.sz α) bytes) (hsz : 0 < Rep.sz α) (hs : a.eval s = v)
    {ad : Addr} {c : Nat} (hx : a.eval x = .slice (some ad) 1 c) {cs : List Value} {y : α} {lx hx' : Nat} (hcells : ∀ j u, cs[j]? = some u → w.cell? (ad.add j) = some u)
    {w0 : World} (hG0 : GX S w0 E v xs) (hw0 : w0.heap.size ≤ lx) (hk0 : ∀ b, b < w0.heap.size → S b → w.heap[b]? = w0.heap[b]?)
    (hy : Ow lx hx' w cs y) (hSy : ∀ b, lx ≤ b → b < hx' → S b) (hSw : S w.heap.size) (h63 : xs.length + 1 ≤ maxLen) (hbytes : (xs.length + 1) * bytes ≤ 140737488355328)
    (h : ∀ v' w', GX S w' E v' (xs ++ [y]) → w.grownBy w' v.ownBlock → (v'.ownBlock = v.ownBlock ∨ v'.ownBlock = some w.heap.size) → wpList P ops Q rest (a.put o.dst v') w') : wpList P ops Q (o :: rest) a w := by
  obtain ⟨css, fps, ho1, hz1, hf, hg, hn⟩ := hG0
  obtain ⟨fp, hr, hz, hnd⟩ := hy
  have hown : w.ownsRow 0 E (Rep.sz α) v xs.length css.flatten := by
    refine ⟨ho1.1, ?_⟩
    rcases ho1.2 with h | ⟨g, cap, cur, rfl, hb, hh, r⟩
    · exact .inl h
    · exact .inr ⟨g, cap, cur, rfl, hb, by rw [hk0 g (ho1.lt g rfl).2 (hg g rfl)]; exact hh, r⟩
  have hzw : Zip (Rep.rep true w) css xs fps := hz1.keep fun b hb => hk0 b (hz1.lt b hb) (hf b hb).1
  have hlen : cs.length = 1 * Rep.sz α := by rw [Nat.one_mul]; exact Rep.len hr
  obtain ⟨v', w', hrun, ho', hgr, hv⟩ := run_app (P := P) w (t := t) (ty := o.type) hT hsz hown (ao := some ad) (m := 1) (c := c) hlen (fun h => by cases h) (fun a e => by simp only [Option.some.injEq] at e; subst e; exact hcells) (Rep.one hr) h63 hbytes (Nat.zero_le _)
  have hne1 : ∀ b ∈ fp, some b ≠ v.ownBlock := fun b hb e => by have := (ho1.lt b e.symm).2; have := (hz b hb).1; omega
  have hlt : ∀ b ∈ (fps ++ [fp]).flatten, b < w.heap.size ∧ some b ≠ v.ownBlock ∧ S b := by
    intro b hb
    simp only [List.flatten_append, List.mem_append, List.flatten_cons, List.flatten_nil, List.append_nil] at hb
    rcases hb with hb | hb
    · exact ⟨hzw.lt b hb, (hf b hb).2, (hf b hb).1⟩
    · exact ⟨Rep.lt hr b hb, hne1 b hb, hSy b (hz b hb).1 (hz b hb).2⟩
  refine wpList_plain hgd fun K hK => ?_
  unfold Oper.wp execOp
  simp only [ho, resolve, invoke, builtin, Sem.run_bind, Sem.run_pure, Result.andThen_ok, List.map_toArray, List.map_cons, List.map_nil, hs, hx]
  rw [hrun]
  refine hK _ _ (h v' w' ⟨css ++ [cs], fps ++ [fp], ?_, ?_, fun b hb => ⟨(hlt b hb).2.2, fun e => ?_⟩, fun g e => ?_, ?_⟩ hgr hv)
  · rw [List.length_append, List.flatten_append]; simpa using ho'
  · exact (hzw.snoc hr).keep fun b hb => hgr.block b (hlt b hb).1 (hlt b hb).2.1
  · rcases hv with hv | hv
    · exact (hlt b hb).2.1 (by rw [← hv]; exact e)
    · rw [hv] at e; have := (hlt b hb).1; simp at e; omega
  · rcases hv with hv | hv
    · exact hg g (hv.symm.trans e)
    · rw [hv] at e; simp at e; subst e; exact hSw
  · rw [List.flatten_append]
    refine nodup_app hn (by simpa using hnd) fun x h1 h2 => ?_
    have h2 : x ∈ fp := by simpa using h2
    have := hz1.lt x h1
    have := (hz x h2).1
    omega
end

end

/-! ### NfX -/
section

def GQ {α : Type} [Rep α] (S : Nat → Prop) (lo : Nat) (w : World) (E : TypeId) (v : Value) (xs : List α) : Prop :=
  ∃ css fps, w.ownsRow lo E (Rep.sz α) v xs.length css.flatten ∧ Zip (Rep.rep false w) css xs fps ∧ (∀ b ∈ fps.flatten, S b ∧ some b ≠ v.ownBlock) ∧ (∀ g, v.ownBlock = some g → S g)
section
variable {α : Type} [Rep α] {S : Nat → Prop} {lo : Nat} {w w' : World} {E : TypeId} {v : Value} {xs : List α}
theorem GQ.lt (h : GQ S lo w E v xs) {b : Nat} (e : v.ownBlock = some b) : lo ≤ b ∧ b < w.heap.size ∧ S b := by
  obtain ⟨css, fps, ho, hz, hf, hg⟩ := h
  exact ⟨(ho.lt b e).1, (ho.lt b e).2, hg b e⟩
theorem GQ.keep (h : GQ S lo w E v xs) (k : ∀ b, b < w.heap.size → S b → w'.heap[b]? = w.heap[b]?) : GQ S lo w' E v xs := by
  obtain ⟨css, fps, ho, hz, hf, hg⟩ := h
  refine ⟨css, fps, ⟨ho.1, ?_⟩, hz.keep (fun b hb => k b (hz.lt b hb) (hf b hb).1), hf, hg⟩
  rcases ho.2 with h | ⟨g, cap, cur, rfl, hb, hh, r⟩
  · exact .inl h
  · exact .inr ⟨g, cap, cur, rfl, hb, by rw [k g (ho.lt g rfl).2 (hg g rfl)]; exact hh, r⟩
theorem GQ.below (h : GQ S lo w E v xs) (hb : Below w.heap.size w w') : GQ S lo w' E v xs := h.keep fun b hl _ => hb.block b hl
theorem GQ.alloc (h : GQ S lo w E v xs) (o : Obj) : GQ S lo (w.alloc o) E v xs := h.below ((Below.refl _ _).alloc (Nat.le_refl _) o)
theorem GQ.mono {S' : Nat → Prop} (h : GQ S lo w E v xs) (k : ∀ b, b < w.heap.size → S b → S' b) : GQ S' lo w E v xs := by
  obtain ⟨css, fps, ho, hz, hf, hg⟩ := h
  exact ⟨css, fps, ho, hz, fun b hb => ⟨k b (hz.lt b hb) (hf b hb).1, (hf b hb).2⟩, fun g e => k g (ho.lt g e).2 (hg g e)⟩
theorem GQ.len (h : GQ S lo w E v xs) : ∃ ao cap, v = .slice ao xs.length cap ∧ xs.length ≤ cap ∧ cap ≤ maxLen := by
  obtain ⟨css, fps, ho, hz, hf, hg⟩ := h
  rcases ho.2 with ⟨rfl, h⟩ | ⟨g, cap, cur, rfl, hbb, hh, h1, h2, r⟩
  · rw [h]; exact ⟨none, 0, rfl, Nat.le_refl _, by simp [maxLen]⟩
  · exact ⟨_, cap, rfl, h1, h2⟩
theorem GQ.rd (h : GQ S lo w E v xs) : Rd false 0 w.heap.size w [v] xs := by
  obtain ⟨css, fps, ho, hz, hf, hg⟩ := h
  rcases ho.2 with ⟨rfl, h⟩ | ⟨g, cap, cur, rfl, hbb, hh, h3, h4, h5, h6⟩
  · exact ⟨[], ⟨_, rfl, none, 0, 0, rfl, h, Nat.le_refl _, by simp [maxLen], fun _ => rfl, .inl ⟨rfl, rfl⟩⟩, (fun _ h => by cases h)⟩
  · refine ⟨g :: fps.flatten, ⟨_, rfl, some ⟨g, 0, none⟩, xs.length, cap, rfl, rfl, h3, h4, (fun h => by cases h), .inr ⟨g, 0, css, fps, rfl, (ho.lt g rfl).2, rfl, hz, ?_, (fun h => by cases h)⟩⟩, ?_⟩
    · intro j c hj
      have := ho.cells (g := g) rfl j c hj
      by_cases hj0 : j = 0
      · subst hj0; simpa [Addr.add] using this
      · simpa [Addr.add, hj0] using this
    · intro b hb
      rcases List.mem_cons.1 hb with rfl | hb
      · exact ⟨Nat.zero_le _, (ho.lt b rfl).2⟩
      · exact ⟨Nat.zero_le _, hz.lt b hb⟩
theorem GX.start (S : Nat → Prop) (w : World) (E : TypeId) : GX (α := α) S w E (.slice none 0 0) [] :=
  ⟨[], [], by simpa using World.ownsRow_nil w 0 E (Rep.sz α), trivial, by simp, by simp [Value.ownBlock], List.nodup_nil⟩
theorem GX.form (h : GX S w E v xs) (hn : 0 < xs.length) : ∃ g cap, v = .slice (some ⟨g, 0, none⟩) xs.length cap ∧ g < w.heap.size := by
  obtain ⟨css, fps, ho, _⟩ := h
  rcases ho.2 with ⟨rfl, h⟩ | ⟨g, cap, cur, rfl, _⟩
  · omega
  · exact ⟨g, cap, rfl, (ho.lt g rfl).2⟩
end
/-- A literal of one kin type. -/
theorem GQ.litK (S : Nat → Prop) (lo : Nat) (w : World) (E : TypeId) {u v : Value} {y : Kin} (h : lo ≤ w.heap.size) (hr : RdS S w [u, v] y) (hS : S w.heap.size) : GQ S lo (w.alloc (.cells #[u, v] E)) E (.slice (some ⟨w.heap.size, 0, none⟩) 1 1) [y] := by
  obtain ⟨fp, h1, h2⟩ := hr
  have hs' : 2 = Rep.sz Kin := rfl
  refine ⟨[[u, v]], [fp], ?_, ⟨Rep.keep h1 fun b hb => Below.heap_alloc w _ b (h2 b hb).1, trivial⟩, ?_, ?_⟩
  · exact ⟨by simp [← hs'], .inr ⟨w.heap.size, 1, #[u, v], rfl, h, heap_alloc_new w _, Nat.le_refl _, by simp [maxLen], by simp [← hs'], by simp [← hs']⟩⟩
  · intro b hb
    have hb2 : b ∈ fp := by simpa using hb
    have := (h2 b hb2).1
    exact ⟨(h2 b hb2).2, by simp [Value.ownBlock]; omega⟩
  · intro g e
    simp [Value.ownBlock] at e
    subst e; exact hS
section
variable {P : Program} {α : Type} [Rep α] {S : Nat → Prop} {lo : Nat} {w : World} {E : TypeId} {v : Value} {xs : List α}
theorem wpList_push_q {ops : Array Oper} {rest : List Oper} {o : Oper} {a : Act} {Q : Exit → Act → World → Prop} (hgd : o.guard = none) {s x : Operand} {t : TypeId}
    (ho : o.op = .call { callee := .builtin .append, args := #[s, x], argTypes := #[t, t] })
    {z0 : Value} {bytes : Nat} (hT : SlTy P t E z0 (Rep.sz α) bytes) (hsz : 0 < Rep.sz α) (hG : GQ S lo w E v xs) (hs : a.eval s = v)
    {ad : Addr} {c : Nat} (hx : a.eval x = .slice (some ad) 1 c) {cs : List Value} {y : α} (hcells : ∀ j u, cs[j]? = some u → w.cell? (ad.add j) = some u)
    (hy : RdS (fun b => S b ∧ some b ≠ v.ownBlock) w cs y) (hSw : S w.heap.size) (h63 : xs.length + 1 ≤ maxLen) (hbytes : (xs.length + 1) * bytes ≤ 140737488355328) (hlo : lo ≤ w.heap.size)
    (h : ∀ v' w', GQ S lo w' E v' (xs ++ [y]) → w.grownBy w' v.ownBlock → (v'.ownBlock = v.ownBlock ∨ v'.ownBlock = some w.heap.size) → wpList P ops Q rest (a.put o.dst v') w') : wpList P ops Q (o :: rest) a w := by
  obtain ⟨fp, hr, hfp⟩ := hy
  obtain ⟨css, fps, hown, hz, hf, hg⟩ := hG
  have hlen : cs.length = 1 * Rep.sz α := by rw [Nat.one_mul]; exact Rep.len hr
  obtain ⟨v', w', hrun, ho', hgr, hv⟩ := run_app (P := P) w (t := t) (ty := o.type) hT hsz hown (ao := some ad) (m := 1) (c := c) hlen (fun h => by cases h) (fun a e => by simp only [Option.some.injEq] at e; subst e; exact hcells) (Rep.one hr) h63 hbytes hlo
  have hlt : ∀ b ∈ (fps ++ [fp]).flatten, b < w.heap.size ∧ some b ≠ v.ownBlock ∧ S b := by
    intro b hb
    simp only [List.flatten_append, List.mem_append, List.flatten_cons, List.flatten_nil, List.append_nil] at hb
    rcases hb with hb | hb
    · exact ⟨hz.lt b hb, (hf b hb).2, (hf b hb).1⟩
    · exact ⟨(hfp b hb).1, (hfp b hb).2.2, (hfp b hb).2.1⟩
  refine wpList_plain hgd fun K hK => ?_
  unfold Oper.wp execOp
  simp only [ho, resolve, invoke, builtin, Sem.run_bind, Sem.run_pure, Result.andThen_ok, List.map_toArray, List.map_cons, List.map_nil, hs, hx]
  rw [hrun]
  refine hK _ _ (h v' w' ⟨css ++ [cs], fps ++ [fp], ?_, ?_, fun b hb => ⟨(hlt b hb).2.2, fun e => ?_⟩, fun g e => ?_⟩ hgr hv)
  · rw [List.length_append, List.flatten_append]; simpa using ho'
  · exact (hz.snoc hr).keep fun b hb => hgr.block b (hlt b hb).1 (hlt b hb).2.1
  · rcases hv with hv | hv
    · exact (hlt b hb).2.1 (by rw [← hv]; exact e)
    · rw [hv] at e; have := (hlt b hb).1; simp at e; omega
  · rcases hv with hv | hv
    · exact hg g (hv.symm.trans e)
    · rw [hv] at e; simp at e; subst e; exact hSw
theorem step_push_x {ops : Array Oper} {o : Oper} {a : Act} {K : Act → World → Prop} {Q : Exit → Act → World → Prop} {EE : Prop} (hgd : o.guard = none) {s x : Operand} {t : TypeId}
    (ho : o.op = .call { callee := .builtin .append, args := #[s, x], argTypes := #[t, t] })
    {z0 : Value} {bytes : Nat} (hT : SlTy P t E z0 (Rep.sz α) bytes) (hsz : 0 < Rep.sz α) (hs : a.eval s = v)
    {ad : Addr} {c : Nat} (hx : a.eval x = .slice (some ad) 1 c) {cs : List Value} {y : α} {lx hx' : Nat} (hcells : ∀ j u, cs[j]? = some u → w.cell? (ad.add j) = some u)
    {w0 : World} (hG0 : GX S w0 E v xs) (hw0 : w0.heap.size ≤ lx) (hk0 : ∀ b, b < w0.heap.size → S b → w.heap[b]? = w0.heap[b]?)
    (hy : Ow lx hx' w cs y) (hSy : ∀ b, lx ≤ b → b < hx' → S b) (hSw : S w.heap.size) (h63 : xs.length + 1 ≤ maxLen) (hbytes : (xs.length + 1) * bytes ≤ 140737488355328) {n : Nat} (hnn : xs.length + 1 = n)
    (h : ∀ g cap w', GX S w' E (.slice (some ⟨g, 0, none⟩) n cap) (xs ++ [y]) → w.grownBy w' v.ownBlock → (v.ownBlock = some g ∨ g = w.heap.size) → g < w'.heap.size → K (a.put o.dst (.slice (some ⟨g, 0, none⟩) n cap)) w') :
    if Region.wanted o (yielded ops a.tmps) = true then Oper.wp P o a w K Q else EE := by
  have hw : Region.wanted o (yielded ops a.tmps) = true := by simp [Region.wanted, hgd]
  rw [if_pos hw]
  subst hnn
  obtain ⟨css, fps, ho1, hz1, hf, hg, hn⟩ := hG0
  obtain ⟨fp, hr, hz, hnd⟩ := hy
  have hown : w.ownsRow 0 E (Rep.sz α) v xs.length css.flatten := by
    refine ⟨ho1.1, ?_⟩
    rcases ho1.2 with h | ⟨g, cap, cur, rfl, hb, hh, r⟩
    · exact .inl h
    · exact .inr ⟨g, cap, cur, rfl, hb, by rw [hk0 g (ho1.lt g rfl).2 (hg g rfl)]; exact hh, r⟩
  have hzw : Zip (Rep.rep true w) css xs fps := hz1.keep fun b hb => hk0 b (hz1.lt b hb) (hf b hb).1
  have hlen : cs.length = 1 * Rep.sz α := by rw [Nat.one_mul]; exact Rep.len hr
  obtain ⟨v', w', hrun, ho', hgr, hv⟩ := run_app (P := P) w (t := t) (ty := o.type) hT hsz hown (ao := some ad) (m := 1) (c := c) hlen (fun h => by cases h) (fun a e => by simp only [Option.some.injEq] at e; subst e; exact hcells) (Rep.one hr) h63 hbytes (Nat.zero_le _)
  have hne1 : ∀ b ∈ fp, some b ≠ v.ownBlock := fun b hb e => by have := (ho1.lt b e.symm).2; have := (hz b hb).1; omega
  have hlt : ∀ b ∈ (fps ++ [fp]).flatten, b < w.heap.size ∧ some b ≠ v.ownBlock ∧ S b := by
    intro b hb
    simp only [List.flatten_append, List.mem_append, List.flatten_cons, List.flatten_nil, List.append_nil] at hb
    rcases hb with hb | hb
    · exact ⟨hzw.lt b hb, (hf b hb).2, (hf b hb).1⟩
    · exact ⟨Rep.lt hr b hb, hne1 b hb, hSy b (hz b hb).1 (hz b hb).2⟩
  unfold Oper.wp execOp
  simp only [ho, resolve, invoke, builtin, Sem.run_bind, Sem.run_pure, Result.andThen_ok, List.map_toArray, List.map_cons, List.map_nil, hs, hx]
  rw [hrun]
  have hGX : GX S w' E v' (xs ++ [y]) := by
    refine ⟨css ++ [cs], fps ++ [fp], ?_, ?_, fun b hb => ⟨(hlt b hb).2.2, fun e => ?_⟩, fun g e => ?_, ?_⟩
    · rw [List.length_append, List.flatten_append]; simpa using ho'
    · exact (hzw.snoc hr).keep fun b hb => hgr.block b (hlt b hb).1 (hlt b hb).2.1
    · rcases hv with hv | hv
      · exact (hlt b hb).2.1 (by rw [← hv]; exact e)
      · rw [hv] at e; have := (hlt b hb).1; simp at e; omega
    · rcases hv with hv | hv
      · exact hg g (hv.symm.trans e)
      · rw [hv] at e; simp at e; subst e; exact hSw
    · rw [List.flatten_append]
      refine nodup_app hn (by simpa using hnd) fun x h1 h2 => ?_
      have h2 : x ∈ fp := by simpa using h2
      have := hz1.lt x h1
      have := (hz x h2).1
      omega
  obtain ⟨g, cap, e, hgw⟩ := hGX.form (by rw [List.length_append]; simp)
  rw [List.length_append, show ([y] : List α).length = 1 from rfl] at e
  subst e
  refine h g cap w' hGX hgr ?_ hgw
  rcases hv with hv | hv
  · exact .inl (by rw [← hv]; rfl)
  · right; simpa [Value.ownBlock] using hv
end

end

/-! ### RedI -/
section

theorem lenBy_bnd {α : Type} {cnt : α → Nat} {m : Nat} : ∀ {xs : List α}, (∀ x ∈ xs, cnt x ≤ m) → lenBy cnt xs ≤ m * xs.length
  | [], _ => by simp [lenBy]
  | x :: xs, h => by
    have h1 := h x (by simp)
    have h2 := lenBy_bnd (cnt := cnt) (m := m) (xs := xs) (fun y hy => h y (by simp [hy]))
    rw [lenBy, List.length_cons, Nat.mul_add, Nat.mul_one]; omega
theorem kins_cn {l : List Kin} {m k : Nat} (h1 : l.length ≤ m) (h2 : ∀ t ∈ l, t.2.length ≤ k) : lenBy cntKin l ≤ (1 + 2 * k) * m :=
  Nat.le_trans (lenBy_bnd fun t ht => by have := h2 t ht; unfold cntKin; dsimp only; omega) (Nat.mul_le_mul_left _ h1)
/-- One more reduct, if it is new. -/
def redStep (t : Kin) (i : Nat) (out : List Kin) (r : Rul) : List Kin := if fitsB r t i = true then (if replT r t i ∈ out then out else out ++ [replT r t i]) else out
def redIn (rs : List Rul) (t : Kin) (i : Nat) (out : List Kin) : List Kin := rs.foldl (redStep t i) out
def redTo (rs : List Rul) (t : Kin) (n : Nat) : List Kin := (List.range n).foldl (fun out i => redIn rs t i out) []
def redL (rs : List Rul) (t : Kin) : List Kin := redTo rs t t.2.length
def redV (rs : List Rul) (t : Kin) : Bool := areRules rs && isKin t
def redX (rs : List Rul) (t : Kin) : List Kin := if redV rs t = true then redL rs t else []
theorem redTo_succ (rs : List Rul) (t : Kin) (n : Nat) : redTo rs t (n + 1) = redIn rs t n (redTo rs t n) := by simp [redTo, List.range_succ]
theorem redIn_take {rs : List Rul} {t : Kin} {i k : Nat} {r : Rul} {out : List Kin} (h : rs[k]? = some r) : redIn (rs.take (k + 1)) t i out = redStep t i (redIn (rs.take k) t i out) r := by
  unfold redIn
  rw [take_snoc h, List.foldl_append]; rfl
theorem redStep_len (t : Kin) (i : Nat) (out : List Kin) (r : Rul) : (redStep t i out r).length ≤ out.length + 1 := by
  unfold redStep
  split
  · split
    · omega
    · simp
  · omega
theorem redIn_len (t : Kin) (i : Nat) : ∀ (rs : List Rul) (out : List Kin), (redIn rs t i out).length ≤ out.length + rs.length
  | [], out => by simp [redIn]
  | r :: rs, out => by
    have h1 := redIn_len t i rs (redStep t i out r)
    have h2 := redStep_len t i out r
    have e : redIn (r :: rs) t i out = redIn rs t i (redStep t i out r) := rfl
    rw [e, List.length_cons]; omega
theorem redTo_len (rs : List Rul) (t : Kin) : ∀ n, (redTo rs t n).length ≤ n * rs.length
  | 0 => by simp [redTo]
  | n + 1 => by
    rw [redTo_succ]
    have h1 := redIn_len t n rs (redTo rs t n)
    have h2 := redTo_len rs t n
    rw [Nat.add_mul, Nat.one_mul]; omega
theorem redStep_mem {P : Kin → Prop} {t : Kin} {i : Nat} {out : List Kin} {r : Rul} (h : ∀ u ∈ out, P u) (hr : fitsB r t i = true → P (replT r t i)) : ∀ u ∈ redStep t i out r, P u := by
  unfold redStep
  split
  · split
    · exact h
    · intro u hu
      rcases List.mem_append.1 hu with hu | hu
      · exact h u hu
      · simp at hu; subst hu; exact hr (by assumption)
  · exact h
theorem redIn_mem {P : Kin → Prop} {t : Kin} {i : Nat} : ∀ {rs : List Rul} {out : List Kin}, (∀ u ∈ out, P u) → (∀ r ∈ rs, fitsB r t i = true → P (replT r t i)) → ∀ u ∈ redIn rs t i out, P u
  | [], _, h, _ => h
  | r :: rs, out, h, hr => redIn_mem (rs := rs) (redStep_mem h (hr r (by simp))) (fun s hs => hr s (by simp [hs]))
theorem redTo_mem {P : Kin → Prop} {t : Kin} {rs : List Rul} (hr : ∀ i, ∀ r ∈ rs, fitsB r t i = true → P (replT r t i)) : ∀ n, ∀ u ∈ redTo rs t n, P u
  | 0 => by simp [redTo]
  | n + 1 => by rw [redTo_succ]; exact redIn_mem (redTo_mem hr n) (hr n)
theorem redL_kin {rs : List Rul} {t : Kin} (hrs : allRules rs) (ht : isKin t = true) : ∀ u ∈ redL rs t, isKin u = true :=
  redTo_mem (fun i r hr hf => (repl_ok (hrs r hr) ht hf).1) _
theorem redX_len (rs : List Rul) (t : Kin) : (redX rs t).length ≤ 96 ∧ ∀ u ∈ redX rs t, u.2.length ≤ 8 := by
  unfold redX
  split
  · rename_i h
    unfold redV at h
    rw [Bool.and_eq_true] at h
    obtain ⟨h1, h2, -⟩ := areRules_facts h.1
    have h3 := (isKin_facts h.2).2.1
    refine ⟨?_, fun u hu => (isKin_facts (redL_kin h2 h.2 u hu)).2.1⟩
    have := redTo_len rs t t.2.length
    have h4 : t.2.length * rs.length ≤ 8 * 12 := Nat.mul_le_mul h3 h1
    unfold redL; omega
  · exact ⟨by simp, fun u hu => by cases hu⟩
theorem redX_cnt (rs : List Rul) (t : Kin) : lenBy cntKin (redX rs t) ≤ 20000 :=
  Nat.le_trans (kins_cn (m := 96) (k := 8) (redX_len rs t).1 (redX_len rs t).2) (by omega)

set_option maxRecDepth 20000 in
set_option maxHeartbeats 8000000 in
theorem hasI_b {z z1 : Bool} {lo hi lo1 hi1 : Nat} (w : World) (v a b : Value) (l : List Kin) (t : Kin) (h : Rd z lo hi w [v] l) (h' : Rd z1 lo1 hi1 w [a, b] t) (R : Bool) (hR : R = decide (t ∈ l)) :
    Calls Try.prog 87 #[v, .agg #[a, b]] w (PostB w R) := by
  obtain ⟨ao, n, cap, rfl, rfl, hnc, hcm, -⟩ := h.shape
  unfold maxLen at hcm
  have HT := Lib.hid h'
  have HZ := Lib.hid h
  have HR := Lib.hid hR
  obtain ⟨rfl, -, hb⟩ := h'.kin
  obtain ⟨sao, sn, scap, rfl, -⟩ := hb.shape
  clear h' hR hb
  obtain ⟨W0, hW0⟩ : ∃ W : World, W = w.alloc (.cells #[.int .i64 t.1, .slice sao sn scap] 36) := ⟨_, rfl⟩
  have hB0 : Below w.heap.size w W0 := by subst hW0; exact bwT
  have qt0 : W0.cell? ⟨w.heap.size, 0, none⟩ = some (.int .i64 t.1) := by subst hW0; simp [go_sem]
  have qt1 : W0.cell? ⟨w.heap.size, 1, none⟩ = some (.slice sao sn scap) := by subst hW0; simp [go_sem]
  have sz0 : W0.heap.size = w.heap.size + 1 := by subst hW0; simp
  go_enter Try.func87, Try.ntmps87
  go_wp2
  rw [← hW0]
  clear hW0
  go_loopw [6, 9] (fun _ s9 wr => ∃ i : Nat, i ≤ l.length ∧ s9 = .int .i64 i ∧ Hid (∀ y ∈ l.take i, t ≠ y) ∧ Below W0.heap.size W0 wr) (fun _ s9 _ => l.length - (intOf s9).toNat)
  case atStart => exact ⟨0, Nat.zero_le _, rfl, Lib.hid (by simp), Below.refl _ _⟩
  case round =>
    obtain ⟨wb, hwb⟩ : ∃ wm : World, wm = wr := ⟨_, rfl⟩
    subst hwb
    obtain ⟨i, hi1, rfl, hN, hbb⟩ := hrel
    have sbb := hbb.size
    have hBwb : Below w.heap.size w wb := hB0.trans (hbb.mono hB0.size)
    have l_t : w.heap.size < wb.heap.size := by omega
    have q_t0 := oldc hbb (by omega) qt0
    have q_t1 := oldc hbb (by omega) qt1
    by_cases hli : i < l.length
    · have hI : (i : Int) < (l.length : Int) := by omega
      obtain ⟨xb, xoff, y, yv, rfl, hy, c0, c1, -, hys, hyr, -, -, xbl⟩ := (HZ.out.below hBwb).kin_at hli
      obtain ⟨yao, yn, ycap, rfl, -⟩ := hys.shape
      have HY := Lib.hid hy.out
      have HYR := Lib.hid hyr
      obtain ⟨r1, hlet_r1⟩ : ∃ r, r = decide (y = t) := ⟨_, rfl⟩
      have H1 := Lib.hid hlet_r1
      clear hlet_r1
      clear hy hys hyr
      go_wp2_with fail
      refine (eqTypesI_b _ _ _ _ _ y t (HYR.out.below ?b1) (HT.out.below ?b2) r1 H1.out).mono ?_
      case b1 => exact bwT
      case b2 => exact bwT
      rintro e w2 ⟨rfl, hb2⟩
      have hbb2 : Below W0.heap.size W0 w2 := Below.after (show Below W0.heap.size W0 _ from bwT) hb2 (by simp; omega)
      have hB2 : Below w.heap.size w w2 := hB0.trans (hbb2.mono hB0.size)
      clear hb2 c0 c1
      cases r1
      · have HN := Lib.hid (show ∀ y ∈ l.take (i + 1), t ≠ y by
          rw [take_snoc HY.out]
          intro x hx
          rcases List.mem_append.1 hx with hx | hx
          · exact hN.out x hx
          · simp at hx; subst hx; exact fun e => of_decide_eq_false H1.out.symm e.symm)
        clear hN HY H1 HYR HR
        go_wp2
        go_roundw
        case rel => exact ⟨i + 1, by omega, by go_num, HN, hbb2⟩
        case measure => simp [intOf]; omega
      · have HF := Lib.hid (show R = true by rw [HR.out]; refine decide_eq_true ?_; have := of_decide_eq_true H1.out.symm; rw [← this]; exact List.mem_of_getElem? HY.out)
        clear hN HY H1 HYR HR
        go_wp2
        go_ret
        exact ⟨ret_bool HF.out.symm, hB2⟩
    · have hI : ¬ (i : Int) < (l.length : Int) := by omega
      have HF := Lib.hid (show R = false by rw [HR.out]; refine decide_eq_false fun e => ?_; have := hN.out t (by rw [List.take_of_length_le (by omega)]; exact e); exact this rfl)
      clear hN HR
      go_wp2
      go_ret
      exact ⟨ret_bool HF.out.symm, hBwb⟩
set_option maxRecDepth 20000 in
set_option maxHeartbeats 16000000 in
theorem reductsI_any {z z1 : Bool} {lo hi lo1 hi1 : Nat} (w : World) (v a b : Value) (rs : List Rul) (t : Kin) (h : Rd z lo hi w [v] rs) (h' : Rd z1 lo1 hi1 w [a, b] t) (hr : allRules rs) (hrl : rs.length ≤ 12) (ht : isKin t = true) :
    Calls Try.prog 52 #[v, .agg #[a, b]] w (PostOw w (redL rs t)) := by
  obtain ⟨ao, n, cap, rfl, rfl, hnc, hcm, -⟩ := h.shape
  have HT := Lib.hid h'
  obtain ⟨rfl, hI, hb⟩ := h'.kin
  obtain ⟨e, ts⟩ := t
  dsimp only at hb hI
  obtain ⟨sao, sn, scap, rfl, hsn, hsc, hsm, -⟩ := hb.shape
  unfold maxLen at hcm hsm
  have HK := Lib.hid ht
  have HRS := Lib.hid hr
  have hs8 : ts.length ≤ 8 := (isKin_facts ht).2.1
  obtain ⟨L, hL⟩ : ∃ L, L = ts.length := ⟨_, rfl⟩
  subst hsn
  rw [← hL] at hs8 hsc HT ⊢
  have HL := Lib.hid hL
  have HZ := Lib.hid h
  obtain ⟨X, hX⟩ : ∃ X, X = redL rs (e, ts) := ⟨_, rfl⟩
  rw [← hX]
  have HX := Lib.hid (show X = redTo rs (e, ts) L by rw [hX, redL, hL])
  have HLEN := Lib.hid (show ∀ i, i < L → (redTo rs (e, ts) i).length ≤ 96 from fun i hi => by
    have h1 := redTo_len rs (e, ts) i
    have h2 : i * rs.length ≤ 8 * 12 := Nat.mul_le_mul (by omega) hrl
    omega)
  clear h' hr ht hI hb hL hX
  obtain ⟨W0, hW0⟩ : ∃ W : World, W = w.alloc (.cells #[.int .i64 e, .slice sao L scap] 36) := ⟨_, rfl⟩
  have hB0 : Below w.heap.size w W0 := by subst hW0; exact bwT
  have qt0 : W0.cell? ⟨w.heap.size, 0, none⟩ = some (.int .i64 e) := by subst hW0; simp [go_sem]
  have qt1 : W0.cell? ⟨w.heap.size, 1, none⟩ = some (.slice sao L scap) := by subst hW0; simp [go_sem]
  have HSZ := Lib.hid (show W0.heap.size = w.heap.size + 1 by subst hW0; simp)
  have sz0 : w.heap.size < W0.heap.size := by have := HSZ.out; omega
  go_enter Try.func52, Try.ntmps52
  go_wp2
  rw [← hW0]
  clear hW0
  go_loopw [5, 6, 8, 9, 13] (fun s5 _ _ _ s13 wr => ∃ i : Nat, i ≤ L ∧ s13 = .int .i64 i ∧ Hid (GL true W0.heap.size W0.heap.size wr.heap.size wr 36 s5 (redTo rs (e, ts) i)) ∧ Below W0.heap.size W0 wr) (fun _ _ _ _ s13 _ => L - (intOf s13).toNat)
  case atStart => exact ⟨0, Nat.zero_le _, rfl, Lib.hid (GL.start _ _ _ _ _ _), bwT⟩
  case round =>
    obtain ⟨wb, hwb⟩ : ∃ wm : World, wm = wr := ⟨_, rfl⟩
    subst hwb
    obtain ⟨i, hi1, rfl, hG, hbb⟩ := hrel
    have sbb := hbb.size
    have hBb : Below w.heap.size w wb := hB0.trans (hbb.mono hB0.size)
    have pt0 := oldc hbb (by omega) qt0
    have pt1 := oldc hbb (by omega) qt1
    by_cases hli : i < L
    · have hI : (i : Int) < (L : Int) := by omega
      have HLI := Lib.hid (HLEN.out i hli)
      go_wp2
      go_loopw [5, 8, 9, 18] (fun s5 _ _ s18 wr => ∃ k : Nat, k ≤ rs.length ∧ s18 = .int .i64 k ∧ Hid (GL true W0.heap.size W0.heap.size wr.heap.size wr 36 s5 (redIn (rs.take k) (e, ts) i (redTo rs (e, ts) i))) ∧ Below W0.heap.size W0 wr) (fun _ _ _ s18 _ => rs.length - (intOf s18).toNat)
      case atStart => exact ⟨0, Nat.zero_le _, rfl, Lib.hid hG.out, hbb⟩
      case round =>
        clear hG hbb pt0 pt1 hBb sbb
        obtain ⟨wd, hwd⟩ : ∃ wm : World, wm = wr := ⟨_, rfl⟩
        subst hwd
        obtain ⟨k, hk1, rfl, hG, hcd⟩ := hrel
        have scd := hcd.size
        have hBwd : Below w.heap.size w wd := hB0.trans (hcd.mono hB0.size)
        have mt0 := oldc hcd (by omega) qt0
        have mt1 := oldc hcd (by omega) qt1
        by_cases hlk : k < rs.length
        · have hK : (k : Int) < (rs.length : Int) := by omega
          obtain ⟨b, off, nm, sx, pl, fr, tw, vfr, vtw, rfl, hx, c0, c1, c2, c3, c4, -, -, -, hfr, htw, hri, -, -, hbl⟩ := (HZ.out.below hBwd).dRul_at hlk
          obtain ⟨fao, fn, fcap, rfl, -⟩ := hfr.shape
          obtain ⟨tao, tn, tcap, rfl, -⟩ := htw.shape
          have HX2 := Lib.hid (redIn_take (t := (e, ts)) (i := i) (out := redTo rs (e, ts) i) hx.out)
          have HRI := Lib.hid hri
          have HIR := Lib.hid (HRS.out _ (List.mem_of_getElem? hx.out))
          obtain ⟨O, hO⟩ : ∃ O, O = redIn (rs.take k) (e, ts) i (redTo rs (e, ts) i) := ⟨_, rfl⟩
          have hOl : O.length ≤ 200 := by
            rw [hO]
            have h1 := redIn_len (e, ts) i (rs.take k) (redTo rs (e, ts) i)
            have h2 := HLI.out
            have h3 : (rs.take k).length ≤ rs.length := by rw [List.length_take]; omega
            omega
          rw [← hO] at hG HX2
          have HG := Lib.hid hG.out
          obtain ⟨r1, hlet_r1⟩ : ∃ r, r = fitsB (nm, sx, pl, fr, tw) (e, ts) i := ⟨_, rfl⟩
          have HF := Lib.hid hlet_r1
          clear hlet_r1
          clear hx hfr htw hri hO hG
          obtain ⟨oao, ocap, ho5, -, -⟩ := HG.out.len
          subst ho5
          have l_t : w.heap.size < wd.heap.size := by omega
          have q_t0 := mt0
          have q_t1 := mt1
          clear mt0 mt1
          have hwd1 : Below wd.heap.size wd wd := Below.refl _ _
          have hcdx : Below W0.heap.size W0 wd := hcd
          go_wp2_with fail
          refine (fitsI_b _ _ _ _ _ _ _ _ (nm, sx, pl, fr, tw) (e, ts) (HRI.out.below bwT) (HT.out.below bwT) HIR.out HK.out i (show i < ts.length by rw [← HL.out]; exact hli) r1 HF.out).mono ?_
          rintro e1 w1 ⟨rfl, hbw1⟩
          have hpw1 : Below wd.heap.size wd w1 := Below.after bwT hbw1 szT
          have sw1 := hpw1.size
          have hBw1 : Below w.heap.size w w1 := Below.trans hBwd (Below.mono hpw1 hBwd.size)
          have q_t0 := oldc hpw1 l_t q_t0
          have q_t1 := oldc hpw1 l_t q_t1
          have l_t := Nat.lt_of_lt_of_le l_t sw1
          have l_r : wd.heap.size < w1.heap.size := by have := hbw1.size; simp at this; omega
          have q_r0 : w1.cell? ⟨wd.heap.size, 0, none⟩ = some (.string nm) := oldc hbw1 ltT (by simp [go_sem])
          have q_r1 : w1.cell? ⟨wd.heap.size, 1, none⟩ = some (.int .i64 sx) := oldc hbw1 ltT (by simp [go_sem])
          have q_r2 : w1.cell? ⟨wd.heap.size, 2, none⟩ = some (.int .i64 pl) := oldc hbw1 ltT (by simp [go_sem])
          have q_r3 : w1.cell? ⟨wd.heap.size, 3, none⟩ = some (.slice fao fn fcap) := oldc hbw1 ltT (by simp [go_sem])
          have q_r4 : w1.cell? ⟨wd.heap.size, 4, none⟩ = some (.slice tao tn tcap) := oldc hbw1 ltT (by simp [go_sem])
          have hwd1 := Below.trans hwd1 (Below.mono hpw1 (by omega))
          have hcdx := Below.trans hcdx (Below.mono hpw1 (by omega))
          clear hbw1 hpw1
          clear c0 c1 c2 c3 c4
          cases r1
          · have HN := Lib.hid (show GL true W0.heap.size W0.heap.size (w1).heap.size w1 36 (.slice oao O.length ocap) (redIn (rs.take (k + 1)) (e, ts) i (redTo rs (e, ts) i)) by
              rw [HX2.out]
              unfold redStep
              rw [if_neg (by rw [← HF.out]; decide)]
              exact (HG.out.below hwd1).top)
            clear HG HX2 HRI HIR HF hcd
            go_wp2
            go_roundw
            case rel => exact ⟨k + 1, by omega, by go_num, HN, hcdx⟩
            case measure => simp [intOf]; omega
          have HFI := Lib.hid (show i + fr.length ≤ ts.length from (fits_facts HF.out.symm).1)
          go_wp2_with fail
          refine (replI_any _ _ _ _ _ _ _ _ (nm, sx, pl, fr, tw) (e, ts) (HRI.out.below hwd1) (HT.out.below hBw1) HIR.out HK.out i HFI.out).mono ?_
          rintro e2 w2 ⟨ra, rb, rfl, hoR, hbw2⟩
          have hpw2 : Below w1.heap.size w1 w2 := Below.after bwT hbw2 szT
          have sw2 := hpw2.size
          have hBw2 : Below w.heap.size w w2 := Below.trans hBw1 (Below.mono hpw2 hBw1.size)
          have q_t0 := oldc hpw2 l_t q_t0
          have q_t1 := oldc hpw2 l_t q_t1
          have q_r0 := oldc hpw2 l_r q_r0
          have q_r1 := oldc hpw2 l_r q_r1
          have q_r2 := oldc hpw2 l_r q_r2
          have q_r3 := oldc hpw2 l_r q_r3
          have q_r4 := oldc hpw2 l_r q_r4
          have l_r := Nat.lt_of_lt_of_le l_r sw2
          have l_t := Nat.lt_of_lt_of_le l_t sw2
          have hwd1 := Below.trans hwd1 (Below.mono hpw2 (by omega))
          have hcdx := Below.trans hcdx (Below.mono hpw2 (by omega))
          clear hbw2 hpw2
          obtain ⟨rfl, -, hrb⟩ := hoR.rd.kin
          obtain ⟨rao, rn, rcap, rfl, -⟩ := hrb.shape
          clear hrb
          obtain ⟨U, hU⟩ : ∃ U, U = replT (nm, sx, pl, fr, tw) (e, ts) i := ⟨_, rfl⟩
          rw [← hU] at hoR
          have HU := Lib.hid hU
          rw [← hU]
          clear hU
          obtain ⟨r2, hlet_r2⟩ : ∃ r, r = decide (U ∈ O) := ⟨_, rfl⟩
          have H2 := Lib.hid hlet_r2
          clear hlet_r2
          go_wp2_with fail
          refine (hasI_b _ _ _ _ O U ((HG.out.below hwd1).rd (Nat.le_refl _) (Nat.le_refl _) |>.below bwT) (hoR.rd.below bwT) r2 H2.out).mono ?_
          rintro e3 w3 ⟨rfl, hbw3⟩
          have hpw3 : Below w2.heap.size w2 w3 := Below.after bwT hbw3 szT
          have sw3 := hpw3.size
          have hBw3 : Below w.heap.size w w3 := Below.trans hBw2 (Below.mono hpw3 hBw2.size)
          have q_t0 := oldc hpw3 l_t q_t0
          have q_t1 := oldc hpw3 l_t q_t1
          have q_r0 := oldc hpw3 l_r q_r0
          have q_r1 := oldc hpw3 l_r q_r1
          have q_r2 := oldc hpw3 l_r q_r2
          have q_r3 := oldc hpw3 l_r q_r3
          have q_r4 := oldc hpw3 l_r q_r4
          have l_r := Nat.lt_of_lt_of_le l_r sw3
          have l_t := Nat.lt_of_lt_of_le l_t sw3
          have l_x : w2.heap.size < w3.heap.size := by have := hbw3.size; simp at this; omega
          have q_x0 : w3.cell? ⟨w2.heap.size, 0, none⟩ = some (.int .i64 U.1) := oldc hbw3 ltT (by simp [go_sem])
          have q_x1 : w3.cell? ⟨w2.heap.size, 1, none⟩ = some (.slice rao rn rcap) := oldc hbw3 ltT (by simp [go_sem])
          have hoR := Ow.below hoR hpw3
          have hwd1 := Below.trans hwd1 (Below.mono hpw3 (by omega))
          have hcdx := Below.trans hcdx (Below.mono hpw3 (by omega))
          clear hbw3 hpw3
          cases r2
          rotate_left
          · have HN := Lib.hid (show GL true W0.heap.size W0.heap.size (w3).heap.size w3 36 (.slice oao O.length ocap) (redIn (rs.take (k + 1)) (e, ts) i (redTo rs (e, ts) i)) by
              rw [HX2.out]
              unfold redStep
              rw [if_pos HF.out.symm, ← HU.out, if_pos (of_decide_eq_true H2.out.symm)]
              exact (HG.out.below hwd1).top)
            clear HG HX2 HRI HIR HF hcd hoR H2 HU
            go_wp2
            go_roundw
            case rel => exact ⟨k + 1, by omega, by go_num, HN, hcdx⟩
            case measure => simp [intOf]; omega
          have HNE := Lib.hid (show redIn (rs.take (k + 1)) (e, ts) i (redTo rs (e, ts) i) = O ++ [U] by
            rw [HX2.out]
            unfold redStep
            rw [if_pos HF.out.symm, ← HU.out, if_neg (of_decide_eq_false H2.out.symm)])
          have HG3 := Lib.hid (HG.out.below hwd1)
          have HOR := Lib.hid hoR
          clear HG HX2 HRI HIR HF hcd hoR H2 HU
          go_wp2_with (at_builtin; refine wpList_push rfl rfl slKin (by show (0 : Nat) < 2; omega) (HG3.out.alloc _) rfl (ad := ⟨(w3).heap.size, 0, none⟩) rfl (cs := [.int .i64 U.1, .slice rao rn rcap]) (y := U) ?k4 ((HOR.out.below ?k6).it) ?k7 (.inl ?k8) (by unfold maxLen; omega) (by omega) (by simp; omega) ?_)
          case k4 =>
            intro j c hj
            match j, hj with
            | 0, hj => simp at hj; subst hj; simp [Addr.add, go_sem]
            | 1, hj => simp at hj; subst hj; simp [Addr.add, go_sem]
          case k6 => exact bwT
          case k7 => omega
          case k8 => omega
          rintro v5 w5 hG5 _ hb5
          have HN := Lib.hid (show GL true W0.heap.size W0.heap.size w5.heap.size w5 36 v5 (redIn (rs.take (k + 1)) (e, ts) i (redTo rs (e, ts) i)) by rw [HNE.out]; exact hG5)
          have hc5 : Below W0.heap.size W0 w5 := Below.trans (show Below W0.heap.size W0 _ from bwT) hb5
          clear hG5 hb5 HG3 HOR HNE
          go_wp2
          go_roundw
          case rel => exact ⟨k + 1, by omega, by go_num, HN, hc5⟩
          case measure => simp [intOf]; omega
        · have hK : ¬ (k : Int) < (rs.length : Int) := by omega
          have HN := Lib.hid (show GL true W0.heap.size W0.heap.size wd.heap.size wd 36 _ (redTo rs (e, ts) (i + 1)) by
            have e1 := hG.out
            rw [List.take_of_length_le (by omega)] at e1
            rw [redTo_succ]; exact e1)
          clear hG
          go_wp2
          go_roundw
          case rel => exact ⟨i + 1, by omega, by go_num, HN, hcd⟩
          case measure => simp [intOf]; omega
    · obtain rfl : i = L := by omega
      have hI : ¬ (i : Int) < (i : Int) := by omega
      have HOW := Lib.hid ((hG.out.ow (l0 := W0.heap.size) (Nat.le_refl _) (Nat.le_refl _)).mono hB0.size (Nat.le_refl _))
      clear hG
      go_wp2
      go_ret
      exact ⟨_, rfl, by rw [HX.out]; exact HOW.out, hBb⟩
set_option maxRecDepth 20000 in
set_option maxHeartbeats 8000000 in
theorem reductsOfI_any {z z1 : Bool} {lo hi lo1 hi1 : Nat} (w : World) (v a b : Value) (rs : List Rul) (t : Kin) (h : Rd z lo hi w [v] rs) (h' : Rd z1 lo1 hi1 w [a, b] t) :
    Calls Try.prog 16 #[v, .agg #[a, b]] w (PostOw w (redX rs t)) := by
  obtain ⟨ao, n, cap, rfl, rfl, hnc, hcm, -⟩ := h.shape
  have HT := Lib.hid h'
  obtain ⟨rfl, -, hb⟩ := h'.kin
  obtain ⟨sao, sn, scap, rfl, -⟩ := hb.shape
  obtain ⟨r1, hlet_r1⟩ : ∃ r, r = areRules rs := ⟨_, rfl⟩
  have H1 := Lib.hid hlet_r1
  clear hlet_r1
  obtain ⟨r2, hlet_r2⟩ : ∃ r, r = isKin t := ⟨_, rfl⟩
  have H2 := Lib.hid hlet_r2
  clear hlet_r2
  obtain ⟨X, hX⟩ : ∃ X, X = redX rs t := ⟨_, rfl⟩
  rw [← hX]
  have HX := Lib.hid (show X = if (r1 && r2) = true then redL rs t else [] by rw [hX, redX, redV, H1.out, H2.out])
  clear hX h' hb
  go_enter Try.func16, Try.ntmps16
  go_wp2_with fail
  refine (areRulesI_b _ _ rs (h.below bwT) r1 H1.out).mono ?_
  rintro e4 w4 ⟨rfl, hbw4⟩
  have hpw4 : Below w.heap.size w w4 := Below.after bwT hbw4 szT
  have sw4 := hpw4.size
  have hBw4 : Below w.heap.size w w4 := hpw4
  have l_t : w.heap.size < w4.heap.size := by have := hbw4.size; simp at this; omega
  have q_t0 : w4.cell? ⟨w.heap.size, 0, none⟩ = some (.int .i64 t.1) := oldc hbw4 ltT (by simp [go_sem])
  have q_t1 : w4.cell? ⟨w.heap.size, 1, none⟩ = some (.slice sao sn scap) := oldc hbw4 ltT (by simp [go_sem])
  clear hbw4 hpw4
  cases r1
  · obtain rfl : X = [] := by rw [HX.out]; rfl
    clear HX H1 H2 h
    go_wp2
    go_ret
    exact ⟨_, rfl, Ow.nil _ _ _, hBw4⟩
  go_wp2_with fail
  refine (isTypeI_b _ _ _ t (HT.out.below bwT) r2 H2.out).mono ?_
  rintro e5 w5 ⟨rfl, hbw5⟩
  have hpw5 : Below w4.heap.size w4 w5 := Below.after bwT hbw5 szT
  have sw5 := hpw5.size
  have hBw5 : Below w.heap.size w w5 := Below.trans hBw4 (Below.mono hpw5 hBw4.size)
  have q_t0 := oldc hpw5 l_t q_t0
  have q_t1 := oldc hpw5 l_t q_t1
  have l_t := Nat.lt_of_lt_of_le l_t sw5
  clear hbw5 hpw5
  cases r2
  · obtain rfl : X = [] := by rw [HX.out]; rfl
    clear HX H1 H2 h
    go_wp2
    go_ret
    exact ⟨_, rfl, Ow.nil _ _ _, hBw5⟩
  have HF := areRules_facts H1.out.symm
  have HRS := Lib.hid HF.2.1
  have hrl : rs.length ≤ 12 := HF.1
  clear HF
  go_wp2_with fail
  refine (reductsI_any _ _ _ _ rs t (h.below bwT) (HT.out.below bwT) HRS.out hrl H2.out.symm).mono ?_
  rintro e6 w6 ⟨u, rfl, ho, hbw6⟩
  have hpw6 : Below w5.heap.size w5 w6 := Below.after bwT hbw6 szT
  have sw6 := hpw6.size
  have hBw6 : Below w.heap.size w w6 := Below.trans hBw5 (Below.mono hpw6 hBw5.size)
  have q_t0 := oldc hpw6 l_t q_t0
  have q_t1 := oldc hpw6 l_t q_t1
  have l_t := Nat.lt_of_lt_of_le l_t sw6
  clear hbw6 hpw6
  have HF := Lib.hid (show redL rs t = X by rw [HX.out]; rfl)
  have HO := Lib.hid ho
  clear HX H1 H2 h HRS ho
  go_wp2
  go_ret
  exact ⟨_, rfl, by rw [← HF.out]; exact HO.out.mono (by omega) (Nat.le_refl _), hBw6⟩

end

/-! ### RedS -/
section

set_option maxRecDepth 20000 in
set_option maxHeartbeats 8000000 in
theorem hasS_b {z z1 : Bool} {lo hi lo1 hi1 : Nat} (w : World) (v a b : Value) (l : List Kin) (t : Kin) (h : Rd z lo hi w [v] l) (h' : Rd z1 lo1 hi1 w [a, b] t) (R : Bool) (hR : R = decide (t ∈ l)) :
    Calls Try.prog 74 #[v, .agg #[a, b]] w (PostB w R) := by
  obtain ⟨ao, n, cap, rfl, rfl, hnc, hcm, -⟩ := h.shape
  unfold maxLen at hcm
  have HT := Lib.hid h'
  have HZ := Lib.hid h
  have HR := Lib.hid hR
  obtain ⟨rfl, -, hb⟩ := h'.kin
  obtain ⟨sao, sn, scap, rfl, -⟩ := hb.shape
  clear h' hR hb
  obtain ⟨W0, hW0⟩ : ∃ W : World, W = w.alloc (.cells #[.int .i64 t.1, .slice sao sn scap] 36) := ⟨_, rfl⟩
  have hB0 : Below w.heap.size w W0 := by subst hW0; exact bwT
  have qt0 : W0.cell? ⟨w.heap.size, 0, none⟩ = some (.int .i64 t.1) := by subst hW0; simp [go_sem]
  have qt1 : W0.cell? ⟨w.heap.size, 1, none⟩ = some (.slice sao sn scap) := by subst hW0; simp [go_sem]
  have sz0 : W0.heap.size = w.heap.size + 1 := by subst hW0; simp
  go_enter Try.func74, Try.ntmps74
  go_wp2
  rw [← hW0]
  clear hW0
  go_loopw [6, 9] (fun _ s9 wr => ∃ i : Nat, i ≤ l.length ∧ s9 = .int .i64 i ∧ Hid (∀ y ∈ l.take i, t ≠ y) ∧ Below W0.heap.size W0 wr) (fun _ s9 _ => l.length - (intOf s9).toNat)
  case atStart => exact ⟨0, Nat.zero_le _, rfl, Lib.hid (by simp), Below.refl _ _⟩
  case round =>
    obtain ⟨wb, hwb⟩ : ∃ wm : World, wm = wr := ⟨_, rfl⟩
    subst hwb
    obtain ⟨i, hi1, rfl, hN, hbb⟩ := hrel
    have sbb := hbb.size
    have hBwb : Below w.heap.size w wb := hB0.trans (hbb.mono hB0.size)
    have l_t : w.heap.size < wb.heap.size := by omega
    have q_t0 := oldc hbb (by omega) qt0
    have q_t1 := oldc hbb (by omega) qt1
    by_cases hli : i < l.length
    · have hI : (i : Int) < (l.length : Int) := by omega
      obtain ⟨xb, xoff, y, yv, rfl, hy, c0, c1, -, hys, hyr, -, -, xbl⟩ := (HZ.out.below hBwb).kin_at hli
      obtain ⟨yao, yn, ycap, rfl, -⟩ := hys.shape
      have HY := Lib.hid hy.out
      have HYR := Lib.hid hyr
      obtain ⟨r1, hlet_r1⟩ : ∃ r, r = decide (t = y) := ⟨_, rfl⟩
      have H1 := Lib.hid hlet_r1
      clear hlet_r1
      clear hy hys hyr
      go_wp2_with fail
      refine (eqTypesS_b _ _ _ _ _ t y (HT.out.below ?b1) (HYR.out.below ?b2) r1 H1.out).mono ?_
      case b1 => exact bwT
      case b2 => exact bwT
      rintro e w2 ⟨rfl, hb2⟩
      have hbb2 : Below W0.heap.size W0 w2 := Below.after (show Below W0.heap.size W0 _ from bwT) hb2 (by simp; omega)
      have hB2 : Below w.heap.size w w2 := hB0.trans (hbb2.mono hB0.size)
      clear hb2 c0 c1
      cases r1
      · have HN := Lib.hid (show ∀ y ∈ l.take (i + 1), t ≠ y by
          rw [take_snoc HY.out]
          intro x hx
          rcases List.mem_append.1 hx with hx | hx
          · exact hN.out x hx
          · simp at hx; subst hx; exact of_decide_eq_false H1.out.symm)
        clear hN HY H1 HYR HR
        go_wp2
        go_roundw
        case rel => exact ⟨i + 1, by omega, by go_num, HN, hbb2⟩
        case measure => simp [intOf]; omega
      · have HF := Lib.hid (show R = true by rw [HR.out]; refine decide_eq_true ?_; have := of_decide_eq_true H1.out.symm; rw [this]; exact List.mem_of_getElem? HY.out)
        clear hN HY H1 HYR HR
        go_wp2
        go_ret
        exact ⟨ret_bool HF.out.symm, hB2⟩
    · have hI : ¬ (i : Int) < (l.length : Int) := by omega
      have HF := Lib.hid (show R = false by rw [HR.out]; refine decide_eq_false fun e => ?_; have := hN.out t (by rw [List.take_of_length_le (by omega)]; exact e); exact this rfl)
      clear hN HR
      go_wp2
      go_ret
      exact ⟨ret_bool HF.out.symm, hBwb⟩
set_option maxRecDepth 20000 in
set_option maxHeartbeats 16000000 in
theorem reductsS_any {z z1 : Bool} {lo hi lo1 hi1 : Nat} (w : World) (v a b : Value) (rs : List Rul) (t : Kin) (h : Rd z lo hi w [v] rs) (h' : Rd z1 lo1 hi1 w [a, b] t) (hr : allRules rs) (hrl : rs.length ≤ 12) (ht : isKin t = true) :
    Calls Try.prog 72 #[v, .agg #[a, b]] w (PostOw w (redL rs t)) := by
  obtain ⟨ao, n, cap, rfl, rfl, hnc, hcm, -⟩ := h.shape
  have HT := Lib.hid h'
  obtain ⟨rfl, hI, hb⟩ := h'.kin
  obtain ⟨e, ts⟩ := t
  dsimp only at hb hI
  obtain ⟨sao, sn, scap, rfl, hsn, hsc, hsm, -⟩ := hb.shape
  unfold maxLen at hcm hsm
  have HK := Lib.hid ht
  have HRS := Lib.hid hr
  have hs8 : ts.length ≤ 8 := (isKin_facts ht).2.1
  obtain ⟨L, hL⟩ : ∃ L, L = ts.length := ⟨_, rfl⟩
  subst hsn
  rw [← hL] at hs8 hsc HT ⊢
  have HL := Lib.hid hL
  have HZ := Lib.hid h
  obtain ⟨X, hX⟩ : ∃ X, X = redL rs (e, ts) := ⟨_, rfl⟩
  rw [← hX]
  have HX := Lib.hid (show X = redTo rs (e, ts) L by rw [hX, redL, hL])
  have HLEN := Lib.hid (show ∀ i, i < L → (redTo rs (e, ts) i).length ≤ 96 from fun i hi => by
    have h1 := redTo_len rs (e, ts) i
    have h2 : i * rs.length ≤ 8 * 12 := Nat.mul_le_mul (by omega) hrl
    omega)
  clear h' hr ht hI hb hL hX
  obtain ⟨W0, hW0⟩ : ∃ W : World, W = w.alloc (.cells #[.int .i64 e, .slice sao L scap] 36) := ⟨_, rfl⟩
  have hB0 : Below w.heap.size w W0 := by subst hW0; exact bwT
  have qt0 : W0.cell? ⟨w.heap.size, 0, none⟩ = some (.int .i64 e) := by subst hW0; simp [go_sem]
  have qt1 : W0.cell? ⟨w.heap.size, 1, none⟩ = some (.slice sao L scap) := by subst hW0; simp [go_sem]
  have HSZ := Lib.hid (show W0.heap.size = w.heap.size + 1 by subst hW0; simp)
  have sz0 : w.heap.size < W0.heap.size := by have := HSZ.out; omega
  have HG0 := Lib.hid (GL.lit0 (α := Kin) true W0.heap.size W0.heap.size W0 36 (Nat.le_refl _)).top
  go_enter Try.func72, Try.ntmps72
  go_wp2
  rw [← hW0]
  clear hW0
  go_loopw [5, 6, 8, 9, 14] (fun s5 _ _ _ s14 wr => ∃ i : Nat, i ≤ L ∧ s14 = .int .i64 i ∧ Hid (GL true W0.heap.size W0.heap.size wr.heap.size wr 36 s5 (redTo rs (e, ts) i)) ∧ Below W0.heap.size W0 wr) (fun _ _ _ _ s14 _ => L - (intOf s14).toNat)
  case atStart => exact ⟨0, Nat.zero_le _, rfl, Lib.hid (by rw [show w.heap.size + 1 = W0.heap.size from HSZ.out.symm]; exact HG0.out), bwT⟩
  case round =>
    obtain ⟨wb, hwb⟩ : ∃ wm : World, wm = wr := ⟨_, rfl⟩
    subst hwb
    obtain ⟨i, hi1, rfl, hG, hbb⟩ := hrel
    clear HG0
    have sbb := hbb.size
    have hBb : Below w.heap.size w wb := hB0.trans (hbb.mono hB0.size)
    have pt0 := oldc hbb (by omega) qt0
    have pt1 := oldc hbb (by omega) qt1
    by_cases hli : i < L
    · have hI : (i : Int) < (L : Int) := by omega
      have HLI := Lib.hid (HLEN.out i hli)
      go_wp2
      go_loopw [5, 8, 9, 19] (fun s5 _ _ s19 wr => ∃ k : Nat, k ≤ rs.length ∧ s19 = .int .i64 k ∧ Hid (GL true W0.heap.size W0.heap.size wr.heap.size wr 36 s5 (redIn (rs.take k) (e, ts) i (redTo rs (e, ts) i))) ∧ Below W0.heap.size W0 wr) (fun _ _ _ s19 _ => rs.length - (intOf s19).toNat)
      case atStart => exact ⟨0, Nat.zero_le _, rfl, Lib.hid hG.out, hbb⟩
      case round =>
        clear hG hbb pt0 pt1 hBb sbb
        obtain ⟨wd, hwd⟩ : ∃ wm : World, wm = wr := ⟨_, rfl⟩
        subst hwd
        obtain ⟨k, hk1, rfl, hG, hcd⟩ := hrel
        have scd := hcd.size
        have hBwd : Below w.heap.size w wd := hB0.trans (hcd.mono hB0.size)
        have mt0 := oldc hcd (by omega) qt0
        have mt1 := oldc hcd (by omega) qt1
        by_cases hlk : k < rs.length
        · have hK : (k : Int) < (rs.length : Int) := by omega
          obtain ⟨b, off, nm, sx, pl, fr, tw, vfr, vtw, rfl, hx, c0, c1, c2, c3, c4, -, -, -, hfr, htw, hri, -, -, hbl⟩ := (HZ.out.below hBwd).dRul_at hlk
          obtain ⟨fao, fn, fcap, rfl, -⟩ := hfr.shape
          obtain ⟨tao, tn, tcap, rfl, -⟩ := htw.shape
          have HX2 := Lib.hid (redIn_take (t := (e, ts)) (i := i) (out := redTo rs (e, ts) i) hx.out)
          have HRI := Lib.hid hri
          have HIR := Lib.hid (HRS.out _ (List.mem_of_getElem? hx.out))
          obtain ⟨O, hO⟩ : ∃ O, O = redIn (rs.take k) (e, ts) i (redTo rs (e, ts) i) := ⟨_, rfl⟩
          have hOl : O.length ≤ 200 := by
            rw [hO]
            have h1 := redIn_len (e, ts) i (rs.take k) (redTo rs (e, ts) i)
            have h2 := HLI.out
            have h3 : (rs.take k).length ≤ rs.length := by rw [List.length_take]; omega
            omega
          rw [← hO] at hG HX2
          have HG := Lib.hid hG.out
          obtain ⟨r1, hlet_r1⟩ : ∃ r, r = fitsB (nm, sx, pl, fr, tw) (e, ts) i := ⟨_, rfl⟩
          have HF := Lib.hid hlet_r1
          clear hlet_r1
          clear hx hfr htw hri hO hG
          obtain ⟨oao, ocap, ho5, -, -⟩ := HG.out.len
          subst ho5
          have l_t : w.heap.size < wd.heap.size := by omega
          have q_t0 := mt0
          have q_t1 := mt1
          clear mt0 mt1
          have hwd1 : Below wd.heap.size wd wd := Below.refl _ _
          have hcdx : Below W0.heap.size W0 wd := hcd
          go_wp2_with fail
          refine (fitsS_b _ _ _ _ _ _ _ _ (nm, sx, pl, fr, tw) (e, ts) (HRI.out.below bwT) (HT.out.below bwT) HIR.out HK.out i (show i < ts.length by rw [← HL.out]; exact hli) r1 HF.out).mono ?_
          rintro e7 w7 ⟨rfl, hbw7⟩
          have hpw7 : Below wd.heap.size wd w7 := Below.after bwT hbw7 szT
          have sw7 := hpw7.size
          have hBw7 : Below w.heap.size w w7 := Below.trans hBwd (Below.mono hpw7 hBwd.size)
          have q_t0 := oldc hpw7 l_t q_t0
          have q_t1 := oldc hpw7 l_t q_t1
          have l_t := Nat.lt_of_lt_of_le l_t sw7
          have l_r : wd.heap.size < w7.heap.size := by have := hbw7.size; simp at this; omega
          have q_r0 : w7.cell? ⟨wd.heap.size, 0, none⟩ = some (.string nm) := oldc hbw7 ltT (by simp [go_sem])
          have q_r1 : w7.cell? ⟨wd.heap.size, 1, none⟩ = some (.int .i64 sx) := oldc hbw7 ltT (by simp [go_sem])
          have q_r2 : w7.cell? ⟨wd.heap.size, 2, none⟩ = some (.int .i64 pl) := oldc hbw7 ltT (by simp [go_sem])
          have q_r3 : w7.cell? ⟨wd.heap.size, 3, none⟩ = some (.slice fao fn fcap) := oldc hbw7 ltT (by simp [go_sem])
          have q_r4 : w7.cell? ⟨wd.heap.size, 4, none⟩ = some (.slice tao tn tcap) := oldc hbw7 ltT (by simp [go_sem])
          have hwd1 := Below.trans hwd1 (Below.mono hpw7 (by omega))
          have hcdx := Below.trans hcdx (Below.mono hpw7 (by omega))
          clear hbw7 hpw7
          clear c0 c1 c2 c3 c4
          cases r1
          · have HN := Lib.hid (show GL true W0.heap.size W0.heap.size (w7).heap.size w7 36 (.slice oao O.length ocap) (redIn (rs.take (k + 1)) (e, ts) i (redTo rs (e, ts) i)) by
              rw [HX2.out]
              unfold redStep
              rw [if_neg (by rw [← HF.out]; decide)]
              exact (HG.out.below hwd1).top)
            clear HG HX2 HRI HIR HF hcd
            go_wp2
            go_roundw
            case rel => exact ⟨k + 1, by omega, by go_num, HN, hcdx⟩
            case measure => simp [intOf]; omega
          have HFI := Lib.hid (show i + fr.length ≤ ts.length from (fits_facts HF.out.symm).1)
          go_wp2_with fail
          refine (replS_any _ _ _ _ _ _ _ _ (nm, sx, pl, fr, tw) (e, ts) (HRI.out.below hwd1) (HT.out.below hBw7) HIR.out HK.out i HFI.out).mono ?_
          rintro e8 w8 ⟨ra, rb, rfl, hoR, hbw8⟩
          have hpw8 : Below w7.heap.size w7 w8 := Below.after bwT hbw8 szT
          have sw8 := hpw8.size
          have hBw8 : Below w.heap.size w w8 := Below.trans hBw7 (Below.mono hpw8 hBw7.size)
          have q_t0 := oldc hpw8 l_t q_t0
          have q_t1 := oldc hpw8 l_t q_t1
          have q_r0 := oldc hpw8 l_r q_r0
          have q_r1 := oldc hpw8 l_r q_r1
          have q_r2 := oldc hpw8 l_r q_r2
          have q_r3 := oldc hpw8 l_r q_r3
          have q_r4 := oldc hpw8 l_r q_r4
          have l_r := Nat.lt_of_lt_of_le l_r sw8
          have l_t := Nat.lt_of_lt_of_le l_t sw8
          have hwd1 := Below.trans hwd1 (Below.mono hpw8 (by omega))
          have hcdx := Below.trans hcdx (Below.mono hpw8 (by omega))
          clear hbw8 hpw8
          obtain ⟨rfl, -, hrb⟩ := hoR.rd.kin
          obtain ⟨rao, rn, rcap, rfl, -⟩ := hrb.shape
          clear hrb
          obtain ⟨U, hU⟩ : ∃ U, U = replT (nm, sx, pl, fr, tw) (e, ts) i := ⟨_, rfl⟩
          rw [← hU] at hoR
          have HU := Lib.hid hU
          rw [← hU]
          clear hU
          obtain ⟨r2, hlet_r2⟩ : ∃ r, r = decide (U ∈ O) := ⟨_, rfl⟩
          have H2 := Lib.hid hlet_r2
          clear hlet_r2
          go_wp2_with fail
          refine (hasS_b _ _ _ _ O U ((HG.out.below hwd1).rd (Nat.le_refl _) (Nat.le_refl _) |>.below bwT) (hoR.rd.below bwT) r2 H2.out).mono ?_
          rintro e9 w9 ⟨rfl, hbw9⟩
          have hpw9 : Below w8.heap.size w8 w9 := Below.after bwT hbw9 szT
          have sw9 := hpw9.size
          have hBw9 : Below w.heap.size w w9 := Below.trans hBw8 (Below.mono hpw9 hBw8.size)
          have q_t0 := oldc hpw9 l_t q_t0
          have q_t1 := oldc hpw9 l_t q_t1
          have q_r0 := oldc hpw9 l_r q_r0
          have q_r1 := oldc hpw9 l_r q_r1
          have q_r2 := oldc hpw9 l_r q_r2
          have q_r3 := oldc hpw9 l_r q_r3
          have q_r4 := oldc hpw9 l_r q_r4
          have l_r := Nat.lt_of_lt_of_le l_r sw9
          have l_t := Nat.lt_of_lt_of_le l_t sw9
          have l_x : w8.heap.size < w9.heap.size := by have := hbw9.size; simp at this; omega
          have q_x0 : w9.cell? ⟨w8.heap.size, 0, none⟩ = some (.int .i64 U.1) := oldc hbw9 ltT (by simp [go_sem])
          have q_x1 : w9.cell? ⟨w8.heap.size, 1, none⟩ = some (.slice rao rn rcap) := oldc hbw9 ltT (by simp [go_sem])
          have hoR := Ow.below hoR hpw9
          have hwd1 := Below.trans hwd1 (Below.mono hpw9 (by omega))
          have hcdx := Below.trans hcdx (Below.mono hpw9 (by omega))
          clear hbw9 hpw9
          cases r2
          rotate_left
          · have HN := Lib.hid (show GL true W0.heap.size W0.heap.size (w9).heap.size w9 36 (.slice oao O.length ocap) (redIn (rs.take (k + 1)) (e, ts) i (redTo rs (e, ts) i)) by
              rw [HX2.out]
              unfold redStep
              rw [if_pos HF.out.symm, ← HU.out, if_pos (of_decide_eq_true H2.out.symm)]
              exact (HG.out.below hwd1).top)
            clear HG HX2 HRI HIR HF hcd hoR H2 HU
            go_wp2
            go_roundw
            case rel => exact ⟨k + 1, by omega, by go_num, HN, hcdx⟩
            case measure => simp [intOf]; omega
          have HNE := Lib.hid (show redIn (rs.take (k + 1)) (e, ts) i (redTo rs (e, ts) i) = O ++ [U] by
            rw [HX2.out]
            unfold redStep
            rw [if_pos HF.out.symm, ← HU.out, if_neg (of_decide_eq_false H2.out.symm)])
          have HG3 := Lib.hid (HG.out.below hwd1)
          have HOR := Lib.hid hoR
          clear HG HX2 HRI HIR HF hcd hoR H2 HU
          go_wp2_with (at_builtin; refine wpList_push rfl rfl slKin (by show (0 : Nat) < 2; omega) (HG3.out.alloc _) rfl (ad := ⟨(w9).heap.size, 0, none⟩) rfl (cs := [.int .i64 U.1, .slice rao rn rcap]) (y := U) ?k4 ((HOR.out.below ?k6).it) ?k7 (.inl ?k8) (by unfold maxLen; omega) (by omega) (by simp; omega) ?_)
          case k4 =>
            intro j c hj
            match j, hj with
            | 0, hj => simp at hj; subst hj; simp [Addr.add, go_sem]
            | 1, hj => simp at hj; subst hj; simp [Addr.add, go_sem]
          case k6 => exact bwT
          case k7 => omega
          case k8 => omega
          rintro v5 w5 hG5 _ hb5
          have HN := Lib.hid (show GL true W0.heap.size W0.heap.size w5.heap.size w5 36 v5 (redIn (rs.take (k + 1)) (e, ts) i (redTo rs (e, ts) i)) by rw [HNE.out]; exact hG5)
          have hc5 : Below W0.heap.size W0 w5 := Below.trans (show Below W0.heap.size W0 _ from bwT) hb5
          clear hG5 hb5 HG3 HOR HNE
          go_wp2
          go_roundw
          case rel => exact ⟨k + 1, by omega, by go_num, HN, hc5⟩
          case measure => simp [intOf]; omega
        · have hK : ¬ (k : Int) < (rs.length : Int) := by omega
          have HN := Lib.hid (show GL true W0.heap.size W0.heap.size wd.heap.size wd 36 _ (redTo rs (e, ts) (i + 1)) by
            have e1 := hG.out
            rw [List.take_of_length_le (by omega)] at e1
            rw [redTo_succ]; exact e1)
          clear hG
          go_wp2
          go_roundw
          case rel => exact ⟨i + 1, by omega, by go_num, HN, hcd⟩
          case measure => simp [intOf]; omega
    · obtain rfl : i = L := by omega
      have hI : ¬ (i : Int) < (i : Int) := by omega
      have HOW := Lib.hid ((hG.out.ow (l0 := W0.heap.size) (Nat.le_refl _) (Nat.le_refl _)).mono hB0.size (Nat.le_refl _))
      clear hG
      go_wp2
      go_ret
      exact ⟨_, rfl, by rw [HX.out]; exact HOW.out, hBb⟩

end

/-! ### FmtJ -/
section

def bL (s : ByteArray) : List UInt8 := s.data.toList
theorem bL_app (a b : ByteArray) : bL (a ++ b) = bL a ++ bL b := by
  unfold bL
  rw [ByteArray.data_append, Array.toList_append]
theorem bL_inj {a b : ByteArray} (h : bL a = bL b) : a = b := by
  unfold bL at h
  exact ByteArray.ext (Array.toList_inj.1 h)
theorem bL_nil : bL ⟨#[]⟩ = [] := rfl
/-- The kind of a letter. -/
def letK (k : UInt8) : Int := if k = 70 then 1 else if k = 77 then 2 else if k = 66 then 3 else if k = 90 then 4 else if k = 83 then 5 else if k = 68 then 6 else if k = 72 then 7 else 8
/-- The first step of a text, and what follows. -/
def decS : List UInt8 → Option (Stp × List UInt8)
  | [] => none
  | c :: r => if c = 101 then (match r with | k :: r => some ((letK k, 1), r) | [] => none) else if c = 121 then (match r with | k :: r => some ((letK k, 2), r) | [] => none) else some ((letK c, 0), r)
theorem stTxt_dec {s : Stp} (h : (1 ≤ s.1 ∧ s.1 ≤ 8) ∧ (0 ≤ s.2 ∧ s.2 ≤ 2)) (r : List UInt8) : decS (bL (stTxt s) ++ r) = some (s, r) ∧ (bL (stTxt s)).head? ≠ none ∧ (bL (stTxt s)).head? ≠ some 46 ∧ (bL (stTxt s)).head? ≠ some 109 ∧ (bL (stTxt s)).head? ≠ some 119 := by
  obtain ⟨k, a⟩ := s
  have hk : k = 1 ∨ k = 2 ∨ k = 3 ∨ k = 4 ∨ k = 5 ∨ k = 6 ∨ k = 7 ∨ k = 8 := by have := h.1; dsimp only at this; omega
  have ha : a = 0 ∨ a = 1 ∨ a = 2 := by have := h.2; dsimp only at this; omega
  rcases hk with rfl | rfl | rfl | rfl | rfl | rfl | rfl | rfl <;> rcases ha with rfl | rfl | rfl <;> exact ⟨rfl, by decide, by decide, by decide, by decide⟩
theorem foldT_app : ∀ (l : List Stp) (o : ByteArray), l.foldl (fun o s => o ++ stTxt s) o = o ++ stepsT l
  | [], o => by unfold stepsT; exact (ByteArray.append_empty).symm
  | s :: l, o => by
    unfold stepsT
    simp only [List.foldl_cons]
    rw [foldT_app l, foldT_app l, ByteArray.append_assoc]
    congr 2
theorem stepsT_cons (s : Stp) (l : List Stp) : bL (stepsT (s :: l)) = bL (stTxt s) ++ bL (stepsT l) := by
  have : stepsT (s :: l) = (⟨#[]⟩ ++ stTxt s) ++ stepsT l := by
    show List.foldl _ _ (s :: l) = _
    rw [List.foldl_cons, foldT_app]
  rw [this, bL_app, bL_app, bL_nil, List.nil_append]
theorem stepsT_inj : ∀ {l m : List Stp}, SOk l → SOk m → bL (stepsT l) = bL (stepsT m) → l = m
  | [], [], _, _, _ => rfl
  | [], s :: m, _, hm, h => by
    rw [stepsT_cons] at h
    have h2 := (stTxt_dec (hm s (by simp)) []).2.1
    cases e : bL (stTxt s) with
    | nil => rw [e] at h2; simp at h2
    | cons c t => rw [e] at h; cases h
  | s :: l, [], hl, _, h => by
    rw [stepsT_cons] at h
    have h2 := (stTxt_dec (hl s (by simp)) []).2.1
    cases e : bL (stTxt s) with
    | nil => rw [e] at h2; simp at h2
    | cons c t => rw [e] at h; cases h
  | s :: l, u :: m, hl, hm, h => by
    rw [stepsT_cons, stepsT_cons] at h
    have h1 := (stTxt_dec (hl s (by simp)) (bL (stepsT l))).1
    rw [h, (stTxt_dec (hm u (by simp)) (bL (stepsT m))).1] at h1
    simp only [Option.some.injEq, Prod.mk.injEq] at h1
    obtain ⟨rfl, h2⟩ := h1
    rw [stepsT_inj hl.cons hm.cons h2.symm]
/-- The body of a type's text: no colon's prefix, and one to one. -/
theorem body_head {l : List Stp} (h : SOk l) : (bL (dotT (stepsT l))).head? ≠ some 109 ∧ (bL (dotT (stepsT l))).head? ≠ some 119 := by
  cases l with
  | nil => decide
  | cons s l =>
    have h2 := stTxt_dec (h s (by simp)) (bL (stepsT l))
    have e := stepsT_cons s l
    have hne : stepsT (s :: l) ≠ ⟨#[]⟩ := by
      intro h0
      rw [h0, bL_nil] at e
      cases e2 : bL (stTxt s) with
      | nil => rw [e2] at h2; simp at h2
      | cons c t => rw [e2] at e; cases e
    unfold dotT
    rw [if_neg hne, e]
    cases e2 : bL (stTxt s) with
    | nil => rw [e2] at h2; simp at h2
    | cons c t => rw [e2] at h2; exact ⟨h2.2.2.2.1, h2.2.2.2.2⟩
theorem body_inj {l m : List Stp} (hl : SOk l) (hm : SOk m) (h : bL (dotT (stepsT l)) = bL (dotT (stepsT m))) : l = m := by
  have cons_ne : ∀ (s : Stp) (l : List Stp), SOk (s :: l) → stepsT (s :: l) ≠ ⟨#[]⟩ ∧ (bL (stepsT (s :: l))).head? ≠ some 46 := by
    intro s l hs
    have h2 := stTxt_dec (hs s (by simp)) (bL (stepsT l))
    have e := stepsT_cons s l
    refine ⟨fun h0 => ?_, ?_⟩
    · rw [h0, bL_nil] at e
      cases e2 : bL (stTxt s) with
      | nil => rw [e2] at h2; simp at h2
      | cons c t => rw [e2] at e; cases e
    · rw [e]
      cases e2 : bL (stTxt s) with
      | nil => rw [e2] at h2; simp at h2
      | cons c t => rw [e2] at h2; simpa using h2.2.2.1
  cases l with
  | nil =>
    cases m with
    | nil => rfl
    | cons s m =>
      have h1 := cons_ne s m hm
      have e : dotT (stepsT (s :: m)) = stepsT (s :: m) := by unfold dotT; rw [if_neg h1.1]
      rw [e] at h
      exact absurd (by rw [← h]; rfl) h1.2
  | cons s l =>
    have h1 := cons_ne s l hl
    have e : dotT (stepsT (s :: l)) = stepsT (s :: l) := by unfold dotT; rw [if_neg h1.1]
    cases m with
    | nil =>
      rw [e] at h
      exact absurd (by rw [h]; rfl) h1.2
    | cons u m =>
      have h3 := cons_ne u m hm
      have e2 : dotT (stepsT (u :: m)) = stepsT (u :: m) := by unfold dotT; rw [if_neg h3.1]
      rw [e, e2] at h
      exact stepsT_inj hl hm h
theorem kinTxt_inj {t u : Kin} (ht : isKin t = true) (hu : isKin u = true) (h : kinTxt t = kinTxt u) : t = u := by
  obtain ⟨e, l⟩ := t
  obtain ⟨e', m⟩ := u
  have h1 := isKin_facts ht
  have h2 := isKin_facts hu
  unfold kinTxt at h
  rw [if_pos ht, if_pos hu] at h
  have hb := congrArg bL h
  dsimp only at hb
  rw [bL_app, bL_app] at hb
  have b1 := body_head (l := l) h1.2.2.2
  have b2 := body_head (l := m) h2.2.2.2
  have hE : e = 0 ∨ e = 1 ∨ e = 2 := by have := h1.1; dsimp only at this; omega
  have hE' : e' = 0 ∨ e' = 1 ∨ e' = 2 := by have := h2.1; dsimp only at this; omega
  have E0 : bL (egoTxt 0) = [] := rfl
  have E1 : bL (egoTxt 1) = [109, 58] := rfl
  have E2 : bL (egoTxt 2) = [119, 58] := rfl
  rcases hE with rfl | rfl | rfl <;> rcases hE' with rfl | rfl | rfl <;> simp only [E0, E1, E2, List.nil_append, List.cons_append] at hb
  · exact congrArg _ (body_inj h1.2.2.2 h2.2.2.2 hb)
  · rw [hb] at b1; simp at b1
  · rw [hb] at b1; simp at b1
  · rw [← hb] at b2; simp at b2
  · simp only [List.cons.injEq, true_and] at hb
    exact congrArg _ (body_inj h1.2.2.2 h2.2.2.2 hb)
  · simp at hb
  · rw [← hb] at b2; simp at b2
  · simp at hb
  · simp only [List.cons.injEq, true_and] at hb
    exact congrArg _ (body_inj h1.2.2.2 h2.2.2.2 hb)

end

/-! ### Nfs -/
section

def nAdd (o : List Kin) (u : Kin) : List Kin := if u ∈ o then o else o ++ [u]
def nAll (o next : List Kin) : List Kin := next.foldl nAdd o
/-- From the place i on: all forms without reducts; none if too many types are met. -/
def nfB (rs : List Rul) (most : Nat) : Nat → Nat → List Kin → List Kin → Option (List Kin)
  | 0, _, _, _ => none
  | f + 1, i, o, out => match o[i]? with
    | some t => if most < (nAll o (redL rs t)).length then none else nfB rs most f (i + 1) (nAll o (redL rs t)) (if redL rs t = [] then out ++ [t] else out)
    | none => some out
theorem nfB_end {rs : List Rul} {most f i : Nat} {o out : List Kin} (h : o[i]? = none) : nfB rs most (f + 1) i o out = some out := by rw [nfB, h]
theorem nfB_big {rs : List Rul} {most f i : Nat} {o out : List Kin} {t : Kin} (h : o[i]? = some t) (hb : most < (nAll o (redL rs t)).length) : nfB rs most (f + 1) i o out = none := by rw [nfB, h]; exact if_pos hb
theorem nfB_go {rs : List Rul} {most f i : Nat} {o out : List Kin} {t : Kin} (h : o[i]? = some t) (hb : ¬ most < (nAll o (redL rs t)).length) : nfB rs most (f + 1) i o out = nfB rs most f (i + 1) (nAll o (redL rs t)) (if redL rs t = [] then out ++ [t] else out) := by rw [nfB, h]; exact if_neg hb
theorem nAll_step {o next : List Kin} {j : Nat} {u : Kin} (h : next[j]? = some u) : nAll o (next.take (j + 1)) = nAdd (nAll o (next.take j)) u := by
  unfold nAll; rw [take_snoc h, List.foldl_append]; rfl
theorem nAdd_len (o : List Kin) (u : Kin) : o.length ≤ (nAdd o u).length ∧ (nAdd o u).length ≤ o.length + 1 := by
  unfold nAdd
  split
  · omega
  · rw [List.length_append]; simp
theorem nAll_len : ∀ (next o : List Kin), o.length ≤ (nAll o next).length ∧ (nAll o next).length ≤ o.length + next.length
  | [], o => ⟨Nat.le_refl _, Nat.le_refl _⟩
  | u :: next, o => by
    have h1 := nAdd_len o u
    have h2 := nAll_len next (nAdd o u)
    have e : nAll o (u :: next) = nAll (nAdd o u) next := rfl
    rw [e, List.length_cons]; omega
theorem nAll_pre : ∀ (next o : List Kin) {i : Nat} {t : Kin}, o[i]? = some t → (nAll o next)[i]? = some t
  | [], _, _, _, h => h
  | u :: next, o, i, t, h => nAll_pre next (nAdd o u) (by
      unfold nAdd
      split
      · exact h
      · rw [List.getElem?_append_left (List.getElem?_eq_some_iff.1 h).1]; exact h)
theorem nAll_mem : ∀ {next o : List Kin} {t : Kin}, t ∈ nAll o next ↔ t ∈ o ∨ t ∈ next
  | [], o, t => by simp [nAll]
  | u :: next, o, t => by
    have e : nAll o (u :: next) = nAll (nAdd o u) next := rfl
    rw [e, nAll_mem (next := next), List.mem_cons]
    unfold nAdd
    split
    · rename_i h
      constructor
      · rintro (h1 | h1)
        · exact .inl h1
        · exact .inr (.inr h1)
      · rintro (h1 | rfl | h1)
        · exact .inl h1
        · exact .inl h
        · exact .inr h1
    · rw [List.mem_append, List.mem_singleton]
      constructor
      · rintro ((h1 | h1) | h1)
        · exact .inl h1
        · exact .inr (.inl h1)
        · exact .inr (.inr h1)
      · rintro (h1 | h1 | h1)
        · exact .inl (.inl h1)
        · exact .inl (.inr h1)
        · exact .inr h1
/-- A type in its place. -/
def kins (t : Kin) : List Kin → List Kin
  | [] => [t]
  | u :: l => if beforeS t.2 u.2 = true then t :: u :: l else u :: kins t l
def ksrt (o : List Kin) : List Kin := o.foldl (fun s t => kins t s) []
theorem kins_len (t : Kin) : ∀ s : List Kin, (kins t s).length = s.length + 1
  | [] => rfl
  | y :: l => by
    rw [kins]
    split
    · rfl
    · rw [List.length_cons, kins_len t l, List.length_cons]
theorem ksrt_snoc (o : List Kin) (t : Kin) : ksrt (o ++ [t]) = kins t (ksrt o) := by unfold ksrt; rw [List.foldl_append]; rfl
theorem foldk_len : ∀ (o s : List Kin), (o.foldl (fun s t => kins t s) s).length = s.length + o.length
  | [], _ => rfl
  | t :: o, s => by rw [List.foldl_cons, foldk_len o, kins_len, List.length_cons]; omega
theorem ksrt_len (o : List Kin) : (ksrt o).length = o.length := by unfold ksrt; rw [foldk_len]; simp
def kB (t u : Kin) : Bool := beforeS t.2 u.2
theorem kins_none {t : Kin} : ∀ {l : List Kin}, l.any (kB t) = false → kins t l = l ++ [t]
  | [], _ => rfl
  | y :: l, h => by
    rw [List.any_cons, Bool.or_eq_false_iff] at h
    rw [kins, if_neg (by show ¬ kB t y = true; rw [h.1]; simp), kins_none h.2]; rfl
theorem kins_any {t y : Kin} : ∀ {l : List Kin}, l.any (kB t) = true → kins t (l ++ [y]) = kins t l ++ [y]
  | [], h => by cases h
  | x :: l, h => by
    rw [List.cons_append, kins, kins]
    split
    · rfl
    · rename_i hx
      rw [List.any_cons, Bool.or_eq_true] at h
      rw [kins_any (h.resolve_left hx)]; rfl
theorem kins_first {t y : Kin} (hy : kB t y = true) : ∀ {l : List Kin}, l.any (kB t) = false → kins t (l ++ [y]) = l ++ [t] ++ [y]
  | [], _ => by rw [List.nil_append, kins]; exact if_pos hy
  | x :: l, h => by
    rw [List.any_cons, Bool.or_eq_false_iff] at h
    rw [List.cons_append, kins, if_neg (by show ¬ kB t x = true; rw [h.1]; simp), kins_first hy h.2]; rfl
/-- What l4Put holds on the way. -/
def putO (t : Kin) (l : List Kin) : List Kin := if l.any (kB t) = true then kins t l else l
theorem putO_step {t y : Kin} {s : List Kin} {i : Nat} (h : s[i]? = some y) (d b : Bool) (hd : d = (s.take i).any (kB t)) (hb : b = kB t y) :
    (d || b) = (s.take (i + 1)).any (kB t) ∧ putO t (s.take (i + 1)) = (if (!d && b) = true then putO t (s.take i) ++ [t] else putO t (s.take i)) ++ [y] := by
  have ha : (s.take (i + 1)).any (kB t) = (d || b) := by rw [take_snoc h, List.any_append, hd, hb]; simp
  refine ⟨ha.symm, ?_⟩
  unfold putO
  rw [ha, ← hd, take_snoc h]
  cases d with
  | true => simp only [Bool.true_or, Bool.not_true, Bool.false_and]; exact kins_any hd.symm
  | false =>
    cases b with
    | true => simp only [Bool.false_or, Bool.not_false, Bool.true_and]; exact kins_first hb.symm hd.symm
    | false => rfl
theorem putO_end {t : Kin} {s : List Kin} (d : Bool) (hd : d = s.any (kB t)) : kins t s = if d = true then putO t s else putO t s ++ [t] := by
  unfold putO
  rw [← hd]
  cases d with
  | true => rfl
  | false => exact kins_none hd.symm
theorem putO_len (t : Kin) (l : List Kin) : (putO t l).length ≤ l.length + 1 := by
  unfold putO
  split
  · rw [kins_len]; exact Nat.le_refl _
  · omega
theorem put_d1 : ∀ {d b : Bool}, false = (!d && b) → (d || b) = d := by decide
theorem put_d2 : ∀ {d b : Bool}, true = (!d && b) → (d || b) = true := by decide
theorem cells_newK (w : World) (u v : Value) (t : TypeId) : ∀ (j : Nat) (c : Value), [u, v][j]? = some c → (w.alloc (.cells #[u, v] t)).cell? ((⟨w.heap.size, 0, none⟩ : Addr).add j) = some c := by
  intro j c hj
  match j, hj with
  | 0, hj => simp at hj; subst hj; simp [Addr.add]
  | 1, hj => simp at hj; subst hj; simp [Addr.add]
/-- One value comes back that takes of memory what S lets, or what is new. -/
def PostRdsK {α : Type} [Rep α] (S : Nat → Prop) (w : World) (x : α) (e : Ending) (w' : World) : Prop := ∃ u, e = .returned u ∧ RdS (fun b => S b ∨ w.heap.size ≤ b) w' [u] x ∧ Below w.heap.size w w'

end

/-! ### NfsC -/
section
open Go.RowKit Go.Shelf

/-- What the library's stable sort makes of a list. -/
def StabOf (xs ys : List Kin) : Prop := (xs.length < 2 ∧ ys = xs) ∨ ∃ (n : Nat) (inh : Inhabited (Fin n)) (h : xs.length = n), ys = (@stableA (Fin n) inh (fun a b : Fin n => kB (xs[a.val]'(by omega)) (xs[b.val]'(by omega))) n (List.finRange n).toArray).toList.map fun k => xs[k.val]'(by omega)
/-- The items are as they were but for their order; the row's block alone has turned. -/
def PostStK (lo hi : Nat) (w : World) (fp : List Nat) (v : Value) (xs : List Kin) (e : Ending) (w' : World) : Prop :=
  e = .returned (.tuple #[]) ∧ ∃ ys : List Kin, ys.Perm xs ∧ StabOf xs ys ∧ Ow lo hi w' [v] ys ∧ OffF fp w w'
theorem kB_len {x y : Kin} (h : ¬ x.2.length = y.2.length) : kB x y = decide (x.2.length < y.2.length) := by unfold kB beforeS; rw [if_neg h]
theorem kB_cmp {x y : Kin} (h : x.2.length = y.2.length) : kB x y = decide (cmpS x.2 y.2 < 0) := by unfold kB beforeS; rw [if_pos h]
set_option maxHeartbeats 2000000 in
theorem lessN_b {lo hi : Nat} {W : World} {v : Value} {B : Nat} {ys : List Kin} (hB : W.cell? ⟨B, 0, none⟩ = some v) (h : Rd false lo hi W [v] ys) (i j : Nat) (hi' : i < ys.length) (hj : j < ys.length) (hl : ys.length < 4611686018427387904) (r : Bool) (hr : r = kB ys[i] ys[j]) :
    Calls Try.prog 77 #[.int .i64 i, .int .i64 j, .pointer (some ⟨B, 0, none⟩)] W (PostB W r) := by
  obtain ⟨ao, n, cap, rfl, hn, -⟩ := h.shape
  subst hn
  obtain ⟨b, off, ⟨x1, x2⟩, vx, e, hx, c0, c1, -, hvx, hR1, -, -, hb⟩ := h.kin_at hi'
  subst e
  obtain ⟨b2, off2, ⟨y1, y2⟩, vy, e, hy, d0, d1, -, hvy, hR2, -, -, -⟩ := h.kin_at hj
  simp only [Option.some.injEq, Addr.mk.injEq, and_true] at e
  obtain ⟨rfl, rfl⟩ := e
  dsimp only at c0 d0 hvx hvy hR1 hR2
  obtain ⟨a1, n1, p1, rfl, hn1, -⟩ := hvx.shape
  obtain ⟨a2, n2, p2, rfl, hn2, -⟩ := hvy.shape
  subst hn1
  subst hn2
  have e1 : ys[i] = (x1, x2) := by have := hx.out; rw [List.getElem?_eq_getElem hi'] at this; exact Option.some.inj this
  have e2 : ys[j] = (y1, y2) := by have := hy.out; rw [List.getElem?_eq_getElem hj] at this; exact Option.some.inj this
  rw [e1, e2] at hr
  have HR := Lib.hid hr
  have H1 := Lib.hid hvx
  have H2 := Lib.hid hvy
  have hiI : (i : Int) < (ys.length : Int) := by omega
  have hjI : (j : Int) < (ys.length : Int) := by omega
  have hBl : B < W.heap.size := World.block_lt_of_cell? W ⟨B, 0, none⟩ hB
  clear hr hR1 hR2 h hx hy e1 e2 hvx hvy c0 d0
  go_enter Try.func77, Try.ntmps77
  go_upto_region 1 with fail
  go_region_held3 (fun w' => w'.cell? ⟨B, 0, none⟩ = some (.slice (some ⟨b, off, none⟩) ys.length cap) ∧ w'.cell? ⟨b, off + i * 2 + 1, none⟩ = some (.slice a1 x2.length p1) ∧ w'.cell? ⟨b, off + j * 2 + 1, none⟩ = some (.slice a2 y2.length p2)) (go_keep) (fail)
  by_cases hle : x2.length = y2.length
  · have hI : (x2.length : Int) = (y2.length : Int) := by omega
    have HE := Lib.hid (show r = decide (cmpS x2 y2 < 0) by rw [HR.out]; exact kB_cmp hle)
    clear hle HR
    go_wp2_with fail
    refine (compareSteps_any _ _ _ x2 y2 (H1.out.below bwT) (H2.out.below bwT) _ rfl).mono ?_
    rintro e5 w5 ⟨rfl, hb5⟩
    have hp5 : Below W.heap.size W w5 := Below.trans (show Below W.heap.size W _ from bwT) (hb5.mono szT)
    clear hb5
    go_wp2
    go_ret
    exact ⟨ret_bool HE.out.symm, hp5⟩
  · have hI : ¬ (x2.length : Int) = (y2.length : Int) := by omega
    have HE := Lib.hid (show r = decide (x2.length < y2.length) by rw [HR.out]; exact kB_len hle)
    clear hle HR
    go_wp2_with fail
    go_ret
    exact ⟨ret_bool HE.out.symm, bwT⟩
theorem infoKK : ∃ i, Try.prog.info? 31 = some i ∧ i.desc = .slice 36 := by
  have h : (Try.prog.info? 31).map (·.desc) = some (.slice 36) := by kernel_rfl
  cases hi : Try.prog.info? 31 with
  | none => rw [hi] at h; cases h
  | some i => rw [hi] at h; exact ⟨i, rfl, Option.some.inj h⟩
theorem infoK : ∃ i, Try.prog.info? 36 = some i ∧ i.size = 2 ∧ i.hasPointers = true ∧ i.bytes = 32 := by
  have h : (Try.prog.info? 36).map (fun i => (i.size, i.hasPointers, i.bytes)) = some (2, true, 32) := by kernel_rfl
  cases hi : Try.prog.info? 36 with
  | none => rw [hi] at h; cases h
  | some i =>
    rw [hi] at h
    have h2 := Option.some.inj h
    simp only [Prod.mk.injEq] at h2
    exact ⟨i, rfl, h2.1, h2.2.1, h2.2.2⟩
theorem swapKK {n : Nat} {ie : TypeInfo} (hp : ie.hasPointers = true) (hb : ie.bytes = 32) : Lib.swapperK n ie 25 = if n = 0 then 1 else if n = 1 then 2 else 9 := by
  unfold Lib.swapperK
  rw [hp, hb]
  by_cases h0 : n = 0
  · simp [h0]
  · by_cases h1 : n = 1
    · simp [h1]
    · simp [h0, h1]
theorem sortN_any {lo up : Nat} (w : World) (B : Nat) (v : Value) (o : List Kin) (hB : w.cell? ⟨B, 0, none⟩ = some v) (hBl : B < w.heap.size) (hBv : some B ≠ v.ownBlock) (hown : Ow lo up w [v] o) (hl : o.length ≤ 1000000) :
    Calls Try.prog 76 #[.iface 31 v, .func (.func 77) #[] #[.pointer (some ⟨B, 0, none⟩)]] w (PostStK lo up w v.ownBlock.toList v o) := by
  obtain ⟨i, hi, hd⟩ := infoKK
  obtain ⟨ie, hie, hs, hp, hb⟩ := infoK
  obtain ⟨ao, n, cap, rfl, hn, -⟩ := hown.rd.shape
  subst hn
  by_cases h2 : 2 ≤ o.length
  · obtain ⟨blk, off, -, -, rfl, -⟩ := hown.rd.at (i := 0) (by omega)
    have hne : B ≠ blk := fun e => hBv (by rw [e]; rfl)
    have hless : LessS Try.prog 77 #[.pointer (some ⟨B, 0, none⟩)] kB w blk (.slice (some ⟨blk, off, none⟩) o.length cap) o := by
      intro W ys hyl _ hoff hR i j hi hj
      exact lessN_b (B := B) ((World.cell?_of_block (w := w) (a := ⟨B, 0, none⟩) (hoff.block B hBl (by simpa using hne))).trans hB) hR i j hi hj (by omega) _ rfl
    have hS := stable_lays 31 36 i ie hi hd (by kernel_rfl) hie 25 (fun _ => by kernel_rfl) hs (by show (0 : Nat) < 2; omega) (fun _ => by kernel_rfl) kB 77 #[.pointer (some ⟨B, 0, none⟩)]
      (enters_of Try.func77 (by kernel_rfl) rfl) 117 o.length h2 hl (by rw [swapKK hp hb, if_neg (by omega), if_neg (by omega)]; kernel_rfl) false
      (fun args W => run_callFunc_extern Try.func117 (by kernel_rfl) (by kernel_rfl) (by kernel_rfl) (e := Extern.ReflectliteSwapper.swap false) (by kernel_rfl) args W) w blk off cap o hown hless
    refine hS.mono ?_
    rintro e w' ⟨he, ys, h1, h3, h4, h5⟩
    exact ⟨he, ys, h1, .inr h3, h4, h5⟩
  · refine (Any.sort_SliceStable_tiny ss8 31 36 i ie hi hd (by kernel_rfl) hie 25 (fun _ => by kernel_rfl) ao o.length cap (by omega) (if o.length = 0 then 109 else 110)
      (by
        rw [swapKK hp hb]
        by_cases h0 : o.length = 0
        · rw [if_pos h0, if_pos h0]; kernel_rfl
        · rw [if_neg h0, if_neg h0, if_pos (by omega)]; kernel_rfl) (.func 77) #[] #[.pointer (some ⟨B, 0, none⟩)] w).mono ?_
    rintro e w' ⟨rfl, os, rfl⟩
    have hb : Below w.heap.size w (Sort.grow w os) := ⟨rfl, rfl, rfl, by simp, fun b hb => Sort.heap_grow_old w os hb⟩
    exact ⟨rfl, o, List.Perm.refl _, .inl ⟨by omega, rfl⟩, hown.below hb, ⟨rfl, rfl, rfl, hb.size, fun b h _ => hb.block b h⟩⟩

end

/-! ### KPut -/
section

set_option maxRecDepth 20000 in
set_option maxHeartbeats 8000000 in
theorem l4Put_any (S : Nat → Prop) (w : World) (v u1 u2 : Value) (s : List Kin) (t : Kin) (h : RdS S w [v] s) (h' : RdS S w [u1, u2] t) (hl : s.length ≤ 1000) :
    Calls Try.prog 73 #[v, .agg #[u1, u2]] w (PostRdsK S w (kins t s)) := by
  obtain ⟨ao, n, cap, rfl, hn, -⟩ := h.rd.shape
  subst hn
  have HC := Lib.hid h'
  obtain ⟨rfl, g2⟩ := h'.kin2
  obtain ⟨e, l⟩ := t
  dsimp only at g2
  obtain ⟨ub, um, ucap2, rfl, -⟩ := g2.rd.shape
  have HS := Lib.hid h
  have HL := Lib.hid g2
  clear h h' g2
  go_enter Try.func73, Try.ntmps73
  go_wp2
  obtain ⟨wq, hwq⟩ : ∃ W : World, W = w.alloc (.cells #[.int .i64 e, .slice ub um ucap2] 36) := ⟨_, rfl⟩
  have hBc : Below w.heap.size w wq := by rw [hwq]; exact (Below.refl _ _).alloc (Nat.le_refl _) _
  have lc : w.heap.size < wq.heap.size := by rw [hwq]; simp
  have y0 : wq.cell? ⟨w.heap.size, 0, none⟩ = some (.int .i64 e) := by rw [hwq]; simp [go_sem]
  have y1 : wq.cell? ⟨w.heap.size, 1, none⟩ = some (.slice ub um ucap2) := by rw [hwq]; simp [go_sem]
  have szc : wq.heap.size = w.heap.size + 1 := by rw [hwq]; simp
  rw [← hwq]
  clear hwq
  have HG0 := Lib.hid (show GR S wq.heap.size (wq.alloc (.cells #[] 36)) 36 (.slice (some ⟨w.heap.size + 1, 0, none⟩) 0 0) (putO (e, l) (s.take 0)) by
    have e := GR.lit0 (α := Kin) S wq.heap.size wq 36 (Nat.le_refl _)
    rw [show (some (⟨wq.heap.size, 0, none⟩ : Addr)) = some ⟨w.heap.size + 1, 0, none⟩ by rw [szc]] at e
    exact e)
  clear szc
  have HSc := Lib.hid (HS.out.below hBc)
  have HCc := Lib.hid (HC.out.below hBc)
  have HLc := Lib.hid (HL.out.below hBc)
  have sc := hBc.size
  go_loopw [5, 6, 8, 12] (fun s5 s6 _ s12 wr => ∃ (i : Nat) (d : Bool), i ≤ s.length ∧ s12 = .int .i64 i ∧ s6 = .bool d ∧ Hid (d = (s.take i).any (kB (e, l))) ∧ Hid (GR S wq.heap.size wr 36 s5 (putO (e, l) (s.take i))) ∧ Below wq.heap.size wq wr) (fun _ _ _ s12 _ => s.length - (intOf s12).toNat)
  case atStart => exact ⟨0, false, Nat.zero_le _, rfl, rfl, Lib.hid rfl, HG0, (Below.refl _ _).alloc (Nat.le_refl _) _⟩
  case round =>
    obtain ⟨wb, hwb⟩ : ∃ wm : World, wm = wr := ⟨_, rfl⟩
    subst hwb
    obtain ⟨i, d, hi, rfl, rfl, hd, hG, hbb⟩ := hrel
    have sB := hbb.size
    have hBb : Below w.heap.size w wb := hBc.trans (hbb.mono sc)
    have z0 := oldc hbb lc y0
    have z1 := oldc hbb lc y1
    by_cases hlt : i < s.length
    · have hI : (i : Int) < (s.length : Int) := by omega
      obtain ⟨b, off, ⟨ye, yl⟩, vy, rfl, hx, k0, k1, hR1, hbl⟩ := HSc.out.kin_at hlt
      obtain ⟨-, hvy⟩ := hR1.kin2
      dsimp only at k0 hvy hR1
      obtain ⟨a2, n2, p2, rfl, -⟩ := hvy.rd.shape
      have q0 := oldc hbb hbl k0
      have q1 := oldc hbb hbl k1
      have HX := Lib.hid hx.out
      have H1 := Lib.hid hR1
      have HY := Lib.hid hvy
      have HSL := putO_len (e, l) (s.take i)
      rw [List.length_take] at HSL
      obtain ⟨O, hO⟩ : ∃ O, O = putO (e, l) (s.take i) := ⟨_, rfl⟩
      have hOl : O.length ≤ 1001 := by rw [hO]; omega
      obtain ⟨b2, hlet_b2⟩ : ∃ r, r = beforeS l yl := ⟨_, rfl⟩
      have HB2 := Lib.hid hlet_b2
      clear hlet_b2
      have HST := Lib.hid (putO_step HX.out d b2 hd.out HB2.out)
      rw [← hO] at hG HST
      obtain ⟨eao, ecap, rfl⟩ := hG.out.len
      obtain ⟨WA, hWA⟩ : ∃ W : World, W = wb.alloc (.cells #[.int .i64 ye, .slice a2 n2 p2] 36) := ⟨_, rfl⟩
      have hbA : Below wq.heap.size wq WA := by rw [hWA]; exact hbb.alloc sB _
      have x0 : WA.cell? ⟨wb.heap.size, 0, none⟩ = some (.int .i64 ye) := by rw [hWA]; simp [go_sem]
      have x1 : WA.cell? ⟨wb.heap.size, 1, none⟩ = some (.slice a2 n2 p2) := by rw [hWA]; simp [go_sem]
      have z0 := oldc hbA lc y0
      have z1 := oldc hbA lc y1
      have lb : wb.heap.size < WA.heap.size := by rw [hWA]; simp
      have lw : w.heap.size < WA.heap.size := by omega
      have sA := hbA.size
      have HOB := Lib.hid (fun g (e : (Value.slice eao O.length ecap).ownBlock = some g) => (hG.out.ownLt e).2)
      have hGA := Lib.hid (show GR S wq.heap.size WA 36 _ O by rw [hWA]; exact hG.out.alloc _)
      clear hx k0 k1 hvy hR1 hG hO HSL
      go_upto_region 6 with fail
      rw [← hWA]
      clear hWA q0 q1
      obtain ⟨M, hM⟩ : ∃ M, M = (!d && b2) := ⟨_, rfl⟩
      have HM := Lib.hid hM
      rw [← hM] at HST
      clear hM
      go_cut [24] (fun s24 wx => s24 = .bool M ∧ Below WA.heap.size WA wx)
      case first =>
        have HCy := HLc.out.rd.below hbA
        have HXy := HY.out.rd.below hbA
        clear hGA HST hd
        cases d
        · go_wp2_with fail
          refine (l4Before_b _ _ _ l yl HCy HXy b2 HB2.out).mono ?_
          rintro e4 w4 ⟨rfl, hb4⟩
          have hp4 : Below WA.heap.size WA w4 := hb4
          clear hb4
          go_wp2_with fail
          go_meet
          exact ⟨by rw [HM.out]; rfl, hp4⟩
        · go_wp2_with fail
          go_meet
          exact ⟨by rw [HM.out]; rfl, Below.refl _ _⟩
      case rest =>
        obtain ⟨rfl, hbY⟩ := hcut
        obtain ⟨w5, hw5⟩ : ∃ W : World, W = wc := ⟨_, rfl⟩
        subst hw5
        have s5 := hbY.size
        have x0 := oldc hbY lb x0
        have x1 := oldc hbY lb x1
        have z0 := oldc hbY lw z0
        have z1 := oldc hbY lw z1
        have hb5c : Below wq.heap.size wq w5 := hbA.trans (hbY.mono sA)
        have s5c := hb5c.size
        have hG5 := Lib.hid (hGA.out.below hbY)
        clear hGA
        cases M
        · have HD := Lib.hid (show d = (s.take (i + 1)).any (kB (e, l)) from (put_d1 HM.out).symm.trans HST.out.1)
          have HO := Lib.hid (show O ++ [(ye, yl)] = putO (e, l) (s.take (i + 1)) from HST.out.2.symm)
          have hGa := Lib.hid (hG5.out.alloc (.cells #[.int .i64 ye, .slice a2 n2 p2] 36))
          clear hG5 HST HM
          go_wp2_with (at_builtin; refine wpList_push_rk rfl rfl slKin (by show (0 : Nat) < 2; omega) hGa.out rfl (ad := ⟨w5.heap.size, 0, none⟩) rfl (cs := [.int .i64 ye, .slice a2 n2 p2]) (y := ((ye, yl) : Kin)) (cells_newK w5 _ _ _) (w0 := wq) H1.out bwT (Nat.le_refl _) (by unfold maxLen; omega) (by omega) (by simp; omega) ?_)
          intro v1 w6 hG6 _ hb6
          have HG6 := Lib.hid hG6
          rw [HO.out] at HG6
          have hbb6 : Below wq.heap.size wq w6 := Below.trans (show Below wq.heap.size wq _ from bwT) hb6
          clear hG6 hb6 hGa
          go_wp2
          go_roundw
          case rel => exact ⟨i + 1, d, by omega, by go_num, rfl, HD, HG6, hbb6⟩
          case measure => simp [intOf]; omega
        · have HD := Lib.hid (show true = (s.take (i + 1)).any (kB (e, l)) from (put_d2 HM.out).symm.trans HST.out.1)
          have HO := Lib.hid (show O ++ [(e, l), (ye, yl)] = putO (e, l) (s.take (i + 1)) from (show O ++ [(e, l), (ye, yl)] = O ++ [(e, l)] ++ [(ye, yl)] by simp).trans HST.out.2.symm)
          have hGa := Lib.hid (hG5.out.alloc (.cells #[.int .i64 e, .slice ub um ucap2] 36))
          clear hG5 HST HM
          go_wp2_with (at_builtin; refine wpList_push_rk rfl rfl slKin (by show (0 : Nat) < 2; omega) hGa.out rfl (ad := ⟨w5.heap.size, 0, none⟩) rfl (cs := [.int .i64 e, .slice ub um ucap2]) (y := ((e, l) : Kin)) (cells_newK w5 _ _ _) (w0 := wq) HCc.out bwT (Nat.le_refl _) (by unfold maxLen; omega) (by omega) (by simp; omega) ?_)
          intro v1 w6 hG6 hg6 hb6
          have HG6 := Lib.hid hG6
          have hp6 : Below wq.heap.size wq w6 := Below.trans (show Below wq.heap.size wq _ from bwT) hb6
          have s6 : w5.heap.size + 1 ≤ w6.heap.size := by have := hg6.size; simpa using this
          have hwb : some wb.heap.size ≠ (Value.slice eao O.length ecap).ownBlock := fun e => by have := HOB.out _ e.symm; omega
          have xk : ∀ (o : Nat) (u : Value), w5.cell? ⟨wb.heap.size, o, none⟩ = some u → w6.cell? ⟨wb.heap.size, o, none⟩ = some u := fun o u hu => by
            have h1 := World.cell?_of_block (w := w5) (a := ⟨wb.heap.size, o, none⟩) ((hg6.block wb.heap.size (by simp; omega) hwb).trans (Below.heap_alloc w5 _ _ (by omega)))
            exact h1.trans hu
          have x0 := xk _ _ x0
          have x1 := xk _ _ x1
          have hG6b := Lib.hid (HG6.out.alloc (.cells #[.int .i64 ye, .slice a2 n2 p2] 36))
          have hp6s := hp6.size
          clear hG6 hb6 hGa hg6 xk HG6
          go_wp2_with (at_builtin; refine wpList_push_rk rfl rfl slKin (by show (0 : Nat) < 2; omega) hG6b.out rfl (ad := ⟨w6.heap.size, 0, none⟩) rfl (cs := [.int .i64 ye, .slice a2 n2 p2]) (y := ((ye, yl) : Kin)) (cells_newK w6 _ _ _) (w0 := wq) H1.out bwT (Nat.le_refl _) (by simp; unfold maxLen; omega) (by simp; omega) (by simp; omega) ?_)
          intro v2 w7 hG7 _ hb7
          have HG7 := Lib.hid hG7
          rw [HO.out] at HG7
          have hbb7 : Below wq.heap.size wq w7 := Below.trans (show Below wq.heap.size wq _ from bwT) hb7
          clear hG7 hb7 hG6b
          go_wp2
          go_roundw
          case rel => exact ⟨i + 1, true, by omega, by go_num, rfl, HD, HG7, hbb7⟩
          case measure => simp [intOf]; omega
    · obtain rfl : i = s.length := by omega
      have hI : ¬ (s.length : Int) < (s.length : Int) := by omega
      rw [List.take_length] at hd hG
      have HE := Lib.hid (putO_end d hd.out)
      have HSL := putO_len (e, l) s
      obtain ⟨O, hO⟩ : ∃ O, O = putO (e, l) s := ⟨_, rfl⟩
      have hOl : O.length ≤ 1001 := by rw [hO]; omega
      rw [← hO] at hG HE
      obtain ⟨eao, ecap, rfl⟩ := hG.out.len
      clear hd hO HSL
      cases d
      · have hGa := Lib.hid (hG.out.alloc (.cells #[.int .i64 e, .slice ub um ucap2] 36))
        clear hG
        go_wp2_with (at_builtin; refine wpList_push_rk rfl rfl slKin (by show (0 : Nat) < 2; omega) hGa.out rfl (ad := ⟨wb.heap.size, 0, none⟩) rfl (cs := [.int .i64 e, .slice ub um ucap2]) (y := ((e, l) : Kin)) (cells_newK wb _ _ _) (w0 := wq) HCc.out bwT (Nat.le_refl _) (by unfold maxLen; omega) (by omega) (by simp; omega) ?_)
        intro v1 w6 hG6 _ hb6
        have HG6 := Lib.hid (hG6.rds.mono (S' := fun b => S b ∨ w.heap.size ≤ b) fun b _ h => h.elim .inl fun h => .inr (by omega))
        have hp6 : Below wq.heap.size wq w6 := Below.trans (show Below wq.heap.size wq _ from bwT) hb6
        clear hG6 hb6 hGa
        go_wp2
        go_ret
        rw [HE.out]
        exact ⟨_, rfl, HG6.out, hBc.trans (hp6.mono sc)⟩
      · have HG6 := Lib.hid (hG.out.rds.mono (S' := fun b => S b ∨ w.heap.size ≤ b) fun b _ h => h.elim .inl fun h => .inr (by omega))
        clear hG
        go_wp2
        go_ret
        rw [HE.out]
        exact ⟨_, rfl, HG6.out, hBb⟩

end

/-! ### NfsS -/
section

/-- The forms, or that too many types are met. -/
def PostNf (w : World) (R : Option (List Kin)) (e : Ending) (w' : World) : Prop :=
  Below w.heap.size w w' ∧ match R with
    | none => e = .returned (.tuple #[.slice none 0 0, .bool false])
    | some o => ∃ u, e = .returned (.tuple #[u, .bool true]) ∧ Rd false 0 w'.heap.size w' [u] (ksrt o)
theorem redL_len {rs : List Rul} {t : Kin} (hrl : rs.length ≤ 12) (ht : isKin t = true) : (redL rs t).length ≤ 96 := by
  have h1 := redTo_len rs t t.2.length
  have h2 := (isKin_facts ht).2.1
  have h3 : t.2.length * rs.length ≤ 8 * 12 := Nat.mul_le_mul h2 hrl
  unfold redL
  omega
def outK (rs : List Rul) (t : Kin) (out : List Kin) : List Kin := if redL rs t = [] then out ++ [t] else out
theorem outK_len (rs : List Rul) (t : Kin) (out : List Kin) : (outK rs t out).length ≤ out.length + 1 := by
  unfold outK
  split
  · simp
  · omega
set_option maxRecDepth 20000 in
set_option maxHeartbeats 8000000 in
theorem l4Forms_any {z z1 : Bool} {lo hi lo1 hi1 : Nat} (w : World) (v a b : Value) (rs : List Rul) (t : Kin) (h : Rd z lo hi w [v] rs) (h' : Rd z1 lo1 hi1 w [a, b] t) (hr : allRules rs) (hrl : rs.length ≤ 12) (ht : isKin t = true) (R : Option (List Kin)) (hR : R = nfB rs 500 502 0 [t] []) :
    Calls Try.prog 39 #[v, .agg #[a, b]] w (PostNf w R) := by
  have HRS := Lib.hid hr
  have HRd := Lib.hid h
  have HT := Lib.hid h'
  obtain ⟨rfl, hI, g2⟩ := h'.kin
  obtain ⟨e, ts⟩ := t
  dsimp only at g2 hI
  obtain ⟨ub, um, ucap, rfl, -⟩ := g2.shape
  obtain ⟨va, vn, vcap, rfl, -⟩ := HRd.out.shape
  have h8 : ts.length ≤ 8 := (isKin_facts ht).2.1
  have HK := Lib.hid ht
  have HR := Lib.hid hR
  have HI := Lib.hid hI
  clear h h' hr ht hR g2 hI
  go_enter Try.func39, Try.ntmps39
  go_wp2_with fail
  refine (copyTypeS_any _ _ _ (e, ts) (HT.out.below bwT) (by dsimp only; omega)).mono ?_
  rintro e1 w1 ⟨cv, rfl, hG1, hb1⟩
  have hB1 : Below w.heap.size w w1 := Below.after bwT hb1 (by simp)
  have s1 := hB1.size
  have hC1 := Lib.hid (Rd.kin_mk HI.out (hG1.rd (l0 := 0) (Nat.zero_le _) (Nat.zero_le _)))
  obtain ⟨ca, ccap, rfl, -, -⟩ := hG1.len
  dsimp only at hC1
  clear hG1 hb1
  go_wp2
  obtain ⟨w2, hw2⟩ : ∃ w2 : World, w2 = (w1.alloc (.cells #[.int .i64 e, .slice ca ts.length ccap] 36)).alloc (.cells #[] 36) := ⟨_, rfl⟩
  have hB2 : Below w1.heap.size w1 w2 := by rw [hw2]; exact bwT
  have HM := Lib.hid (show GL false w1.heap.size 0 w2.heap.size w2 36 (.slice (some ⟨w1.heap.size, 0, none⟩) 1 1) [(e, ts)] by
    rw [hw2]
    obtain ⟨fp, g1, g2⟩ := hC1.out
    exact ((GL.litK w1.heap.size w1 _ (Nat.le_refl _) ⟨fp, Rep.weak g1, g2⟩).alloc _).top)
  have HO := Lib.hid (show RdS (fun b => some b ≠ (Value.slice (some ⟨w1.heap.size, 0, none⟩) 1 1).ownBlock) w2 [.slice (some ⟨w1.heap.size + 1, 0, none⟩) 0 0] (ksrt []) by
    rw [hw2]
    have q := (GR.lit0 (α := Kin) (fun _ => False) (w1.heap.size + 1) (w1.alloc (.cells #[.int .i64 e, .slice ca ts.length ccap] 36)) 36 (by simp)).rds
    have e2 := q.mono (S' := fun b => some b ≠ (Value.slice (some ⟨w1.heap.size, 0, none⟩) 1 1).ownBlock) fun b _ h => h.elim False.elim fun h => by simp [Value.ownBlock]; omega
    rw [show (w1.alloc (.cells #[.int .i64 e, .slice ca ts.length ccap] 36)).heap.size = w1.heap.size + 1 from by simp] at e2
    exact e2)
  have s2 := hB2.size
  rw [← hw2]
  clear hw2 hC1
  go_loopw [4, 5, 6, 7, 8, 9, 11] (fun _ _ s6 s7 s8 _ _ wl => ∃ (i : Nat) (o out : List Kin), i ≤ o.length ∧ o.length ≤ 500 ∧ out.length ≤ i ∧ s8 = .int .i64 i ∧ Hid (nfB rs 500 (502 - i) i o out = R) ∧ Hid (∀ u ∈ o, isKin u = true) ∧ Hid (GL false w1.heap.size 0 wl.heap.size wl 36 s6 o) ∧ Hid (RdS (fun b => some b ≠ s6.ownBlock) wl [s7] (ksrt out)) ∧ Below w1.heap.size w1 wl) (fun _ _ _ _ s8 _ _ _ => 502 - (intOf s8).toNat)
  case atStart => exact ⟨0, [(e, ts)], [], Nat.zero_le _, by simp, Nat.zero_le _, rfl, Lib.hid HR.out.symm, Lib.hid (fun u hu => by rw [List.mem_singleton] at hu; subst hu; exact HK.out), HM, HO, hB2⟩
  case round =>
    clear HM HO hB2
    obtain ⟨wl, hwl⟩ : ∃ x : World, x = wr := ⟨_, rfl⟩
    subst hwl
    obtain ⟨i, o, out, hi, ho, hout, rfl, hgl, hok, hM, hO, hbl⟩ := hrel
    have sl := hbl.size
    obtain ⟨aom, capm, rfl, -, -⟩ := hM.out.len
    obtain ⟨aot, nt, capt, rfl, hn9, -⟩ := hO.out.rd.shape
    subst hn9
    have HLS := Lib.hid (ksrt_len out)
    have hBl : Below w.heap.size w wl := hB1.trans (hbl.mono s1)
    by_cases hlt : i < o.length
    · have hI : (i : Int) < (o.length : Int) := by omega
      obtain ⟨bi, offi, ⟨te, tl⟩, vt, rfl, hti, k0, k1, hIt, hrv, hrt, -, -, hbi⟩ := (hM.out.rd (l0 := 0) (Nat.zero_le _) (Nat.zero_le _)).kin_at hlt
      dsimp only at k0 hIt hrv hrt
      obtain ⟨ta, tn, tcap, rfl, htn, -⟩ := hrv.shape
      subst htn
      have HTI := Lib.hid hti.out
      have HRT := Lib.hid hrt
      have HKT := Lib.hid (hok.out _ (List.mem_of_getElem? hti.out))
      have htl : tl.length ≤ 8 := (isKin_facts HKT.out).2.1
      have HIT := Lib.hid hIt
      clear hti hrv hrt hIt
      go_wp2_with fail
      refine (reductsS_any _ _ _ _ rs (te, tl) (HRd.out.below hBl) HRT.out HRS.out hrl HKT.out).mono ?_
      obtain ⟨N, hN⟩ : ∃ N, N = redL rs (te, tl) := ⟨_, rfl⟩
      rw [← hN]
      rintro e4 w4 ⟨u4, rfl, ho4, hb4⟩
      obtain ⟨a4, n4, cap4, rfl, hn4, -⟩ := ho4.rd.shape
      subst hn4
      have HN := Lib.hid hN
      have hNl : N.length ≤ 96 := by rw [hN]; exact redL_len hrl HKT.out
      have HNK := Lib.hid (show ∀ u ∈ N, isKin u = true by rw [hN]; exact redL_kin HRS.out HKT.out)
      have HOB := Lib.hid (show ∀ g, (Value.slice (some ⟨bi, offi, none⟩) o.length capm).ownBlock = some g → g < wl.heap.size from by
        obtain ⟨_, _, _, _, _, h9, _⟩ := hM.out
        exact h9)
      have HN4 := Lib.hid (ho4.rd.rds (S := fun b => some b ≠ (Value.slice (some ⟨bi, offi, none⟩) o.length capm).ownBlock) fun b h1 h2 e => by have := HOB.out b e.symm; omega)
      have HM4 := Lib.hid (hM.out.below hb4).top
      have HO4 := Lib.hid (hO.out.below hb4)
      have hb4c : Below w1.heap.size w1 w4 := hbl.trans (hb4.mono sl)
      have s4 := hb4.size
      have HRT4 := Lib.hid (HRT.out.below hb4)
      have k0 := oldc hb4 hbi k0
      have k1 := oldc hb4 hbi k1
      clear ho4 hN hM hO hb4 HRT
      go_upto_if 30 with fail
      go_cut [7] (fun s7 wx => Hid (RdS (fun b => some b ≠ (Value.slice (some ⟨bi, offi, none⟩) o.length capm).ownBlock) wx [s7] (ksrt (outK rs (te, tl) out))) ∧ Below w4.heap.size w4 wx)
      case first =>
        by_cases hN0 : N = []
        · have hn0 : (N.length : Int) = 0 := by rw [hN0]; rfl
          have HE := Lib.hid (show ksrt (outK rs (te, tl) out) = kins (te, tl) (ksrt out) by unfold outK; rw [← HN.out, if_pos hN0, ksrt_snoc])
          clear hN0 HN4 HM4
          go_wp2_with fail
          refine (copyTypeS_any _ _ _ (te, tl) HRT4.out (by dsimp only; omega)).mono ?_
          rintro e5 w5 ⟨cv5, rfl, hG5, hb5⟩
          have s5 := hb5.size
          have HC5 := Lib.hid ((Rd.kin_mk HIT.out (hG5.rd (l0 := w4.heap.size) (Nat.le_refl _) (Nat.le_refl _))).rds (S := fun b => some b ≠ (Value.slice (some ⟨bi, offi, none⟩) o.length capm).ownBlock) fun b h1 h2 e => by have := HOB.out b e.symm; omega)
          obtain ⟨c5, ccap5, rfl, -, -⟩ := hG5.len
          dsimp only at HC5
          have HO5 := Lib.hid (HO4.out.below hb5)
          clear hG5
          go_wp2_with fail
          refine (l4Put_any _ _ _ _ _ (ksrt out) (te, tl) HO5.out HC5.out (by rw [ksrt_len]; omega)).mono ?_
          rintro e6 w6 ⟨u6, rfl, hr6, hb6⟩
          have hp6 : Below w4.heap.size w4 w6 := hb5.trans (hb6.mono s5)
          have HO6 := Lib.hid (hr6.mono (S' := fun b => some b ≠ (Value.slice (some ⟨bi, offi, none⟩) o.length capm).ownBlock) fun b _ h => h.elim id fun h e => by have := HOB.out b e.symm; omega)
          clear hr6 hb6 hb5
          go_wp2_with fail
          go_meet
          exact ⟨by rw [HE.out]; exact HO6, hp6⟩
        · have hn0 : ¬ (N.length : Int) = 0 := by
            intro h
            exact hN0 (List.length_eq_zero_iff.1 (by omega))
          have HE := Lib.hid (show ksrt (outK rs (te, tl) out) = ksrt out by unfold outK; rw [← HN.out, if_neg hN0])
          clear hN0 HN4 HM4
          go_wp2_with fail
          go_meet
          exact ⟨by rw [HE.out]; exact HO4, Below.refl _ _⟩
      case rest =>
        obtain ⟨hO6, hb6⟩ := hcut
        obtain ⟨w6, hw6⟩ : ∃ W : World, W = wc := ⟨_, rfl⟩
        subst hw6
        have s6 := hb6.size
        obtain ⟨ax, nx, capx, rfl, hnx, -⟩ := hO6.out.rd.shape
        subst hnx
        have hb6c : Below w1.heap.size w1 w6 := hb4c.trans (hb6.mono (by omega))
        have HN6 := Lib.hid (HN4.out.below hb6)
        have HM6 := Lib.hid (HM4.out.below hb6).top
        have HOL := Lib.hid (outK_len rs (te, tl) out)
        obtain ⟨OUT, hOUT⟩ : ∃ OUT, OUT = outK rs (te, tl) out := ⟨_, rfl⟩
        rw [← hOUT] at hO6 HOL
        have HOUT := Lib.hid hOUT
        clear hOUT HN4 HM4 HO4 hb6 HRT4 k0 k1
        rw [← HOUT.out]
        go_wp2
        go_loopw [6, 11, 40] (fun s6 _ s40 wi => ∃ j : Nat, j ≤ N.length ∧ s40 = .int .i64 j ∧ Hid (GL false w1.heap.size 0 wi.heap.size wi 36 s6 (nAll o (N.take j))) ∧ Hid (RdS (fun b => some b ≠ s6.ownBlock) wi [.slice ax (ksrt OUT).length capx] (ksrt OUT)) ∧ Hid (RdS (fun b => some b ≠ s6.ownBlock) wi [.slice a4 N.length cap4] N) ∧ Below w1.heap.size w1 wi) (fun _ _ s40 _ => N.length - (intOf s40).toNat)
        case atStart => exact ⟨0, Nat.zero_le _, rfl, HM6, hO6, HN6, hb6c⟩
        case round =>
          clear HM6 hO6 HN6
          obtain ⟨wi, hwi⟩ : ∃ x : World, x = wr := ⟨_, rfl⟩
          subst hwi
          obtain ⟨j, hj, rfl, hM, hO, hNN, hbi2⟩ := hrel
          have si := hbi2.size
          have HLJ := Lib.hid (nAll_len (N.take j) o)
          obtain ⟨O, hOd⟩ : ∃ O, O = nAll o (N.take j) := ⟨_, rfl⟩
          have HOD := Lib.hid hOd
          have hOl : O.length ≤ 596 := by have := HLJ.out.2; rw [← hOd, List.length_take] at this; omega
          rw [← hOd] at hM
          clear hOd HLJ
          obtain ⟨aon, capn, rfl, -, -⟩ := hM.out.len
          by_cases hlj : j < N.length
          · have hJ : (j : Int) < (N.length : Int) := by omega
            obtain ⟨bn, offn, ⟨ue, ul⟩, vu, rfl, hu, m0, m1, hRu, hbn⟩ := hNN.out.kin_at hlj
            obtain ⟨-, hRv⟩ := hRu.kin2
            dsimp only at m0 hRu hRv
            obtain ⟨ua, un, ucap2, rfl, -⟩ := hRv.rd.shape
            have HU := Lib.hid hu.out
            have HRU := Lib.hid hRu
            have HST := Lib.hid (show nAll o (N.take (j + 1)) = nAdd O (ue, ul) by rw [nAll_step hu.out, HOD.out])
            obtain ⟨r, hr⟩ : ∃ r, r = decide ((ue, ul) ∈ O) := ⟨_, rfl⟩
            have HRR := Lib.hid hr
            obtain ⟨WA, hWA⟩ : ∃ W : World, W = wi.alloc (.cells #[.int .i64 ue, .slice ua un ucap2] 36) := ⟨_, rfl⟩
            have hbA : Below wi.heap.size wi WA := by rw [hWA]; exact (Below.refl _ _).alloc (Nat.le_refl _) _
            have x0 : WA.cell? ⟨wi.heap.size, 0, none⟩ = some (.int .i64 ue) := by rw [hWA]; simp [go_sem]
            have x1 : WA.cell? ⟨wi.heap.size, 1, none⟩ = some (.slice ua un ucap2) := by rw [hWA]; simp [go_sem]
            have lA : wi.heap.size < WA.heap.size := by rw [hWA]; simp
            clear hu hRu hRv hr
            go_upto_region 12 with fail
            rw [← hWA]
            clear hWA m0 m1
            go_wp2_with fail
            refine (hasS_b _ _ _ _ O (ue, ul) ((hM.out.rd (l0 := 0) (Nat.zero_le _) (Nat.zero_le _)).below hbA) (HRU.out.rd.below hbA) r HRR.out).mono ?_
            rintro e7 w7 ⟨rfl, hb7⟩
            have hb7i : Below wi.heap.size wi w7 := hbA.trans (hb7.mono (by omega))
            have x0 := oldc hb7 lA x0
            have x1 := oldc hb7 lA x1
            have s7 := hb7i.size
            have hb7c : Below w1.heap.size w1 w7 := hbi2.trans (hb7i.mono si)
            have HM7 := Lib.hid (hM.out.below hb7i).top
            have HO7 := Lib.hid (hO.out.below hb7i)
            have HN7 := Lib.hid (hNN.out.below hb7i)
            have HU7 := Lib.hid (HRU.out.below hb7i)
            clear hM hO hNN hb7 HRU hbA
            cases r
            · have HE := Lib.hid (show O ++ [(ue, ul)] = nAll o (N.take (j + 1)) by rw [HST.out]; unfold nAdd; rw [if_neg (of_decide_eq_false HRR.out.symm)])
              go_wp2_with (at_builtin; refine wpList_push_s rfl rfl slKin (by show (0 : Nat) < 2; omega) (HM7.out.alloc _) rfl (ad := ⟨w7.heap.size, 0, none⟩) rfl (cs := [.int .i64 ue, .slice ua un ucap2]) (y := ((ue, ul) : Kin)) (cells_newK w7 _ _ _) (HU7.out.below bwT) (by unfold maxLen; omega) (by omega) (by simp; omega) ?_)
              intro v8 w8 hG8 hgb8 hb8 hv8
              rw [HE.out] at hG8
              have HG8 := Lib.hid hG8
              have hkb : ∀ k, k < w7.heap.size → some k ≠ (Value.slice aon O.length capn).ownBlock → w8.heap[k]? = w7.heap[k]? := fun k h1 h2 => (hgb8.block k (by simp; omega) h2).trans (Below.heap_alloc w7 _ k h1)
              have hne : ∀ k, k < w7.heap.size → some k ≠ (Value.slice aon O.length capn).ownBlock → some k ≠ v8.ownBlock := fun k h1 h2 e => by
                rcases hv8 with h | h
                · exact h2 (e.trans h)
                · rw [h] at e; simp at e; omega
              have HO8 := Lib.hid (((HO7.out.mono (S' := fun k => some k ≠ (Value.slice aon O.length capn).ownBlock ∧ some k ≠ v8.ownBlock) fun k h1 h2 => ⟨h2, hne k h1 h2⟩).keep fun k h1 h2 => hkb k h1 h2.1).mono (S' := fun k => some k ≠ v8.ownBlock) fun _ _ h => h.2)
              have HN8 := Lib.hid (((HN7.out.mono (S' := fun k => some k ≠ (Value.slice aon O.length capn).ownBlock ∧ some k ≠ v8.ownBlock) fun k h1 h2 => ⟨h2, hne k h1 h2⟩).keep fun k h1 h2 => hkb k h1 h2.1).mono (S' := fun k => some k ≠ v8.ownBlock) fun _ _ h => h.2)
              have hB8 : Below w1.heap.size w1 w8 := Below.trans (show Below w1.heap.size w1 _ from bwT) hb8
              clear hgb8 hb8 hv8 hkb hne HM7 HO7 HN7 HU7 hG8
              go_wp2
              go_roundw
              case rel => exact ⟨j + 1, by omega, by go_num, HG8, HO8, HN8, hB8⟩
              case measure => simp [intOf]; omega
            · have HE := Lib.hid (show O = nAll o (N.take (j + 1)) by rw [HST.out]; unfold nAdd; rw [if_pos (of_decide_eq_true HRR.out.symm)])
              go_wp2
              go_roundw
              case rel => exact ⟨j + 1, by omega, by go_num, Lib.hid (by rw [← HE.out]; exact HM7.out), HO7, HN7, hb7c⟩
              case measure => simp [intOf]; omega
          · obtain rfl : j = N.length := by omega
            have hJ : ¬ (N.length : Int) < (N.length : Int) := by omega
            have HOE := Lib.hid (show O = nAll o N by have := HOD.out; rwa [List.take_length] at this)
            have hOlo : o.length ≤ O.length := by rw [HOE.out]; exact (nAll_len N o).1
            have hBi : Below w.heap.size w wi := hB1.trans (hbi2.mono s1)
            clear HOD hNN
            by_cases hbig : 500 < O.length
            · have hbI : (500 : Int) < (O.length : Int) := by omega
              have HRn := Lib.hid (show R = none by
                rw [← hgl.out]
                obtain ⟨f, hf⟩ : ∃ f, 502 - i = f + 1 := ⟨501 - i, by omega⟩
                rw [hf]
                refine nfB_big HTI.out ?_
                rw [← HN.out, ← HOE.out]; exact hbig)
              clear hgl hM hO hok
              go_wp2
              go_ret2
              exact ⟨hBi, by rw [HRn.out]; exact rfl⟩
            · have hbI : ¬ (500 : Int) < (O.length : Int) := by omega
              have HGL := Lib.hid (show nfB rs 500 (502 - (i + 1)) (i + 1) O OUT = R by
                rw [← hgl.out]
                obtain ⟨f, hf⟩ : ∃ f, 502 - i = f + 1 := ⟨501 - i, by omega⟩
                rw [hf, show 502 - (i + 1) = f by omega]
                refine (Eq.trans (nfB_go HTI.out ?_) ?_).symm
                · rw [← HN.out, ← HOE.out]; exact hbig
                · rw [HOUT.out, HOE.out, HN.out]; rfl)
              have HOKN := Lib.hid (show ∀ u ∈ O, isKin u = true by
                rw [HOE.out]
                intro u hu
                rcases nAll_mem.1 hu with h | h
                · exact hok.out u h
                · exact HNK.out u h)
              have hlo2 := HOL.out
              clear hgl hok
              go_wp2
              go_roundw
              case rel => exact ⟨i + 1, O, OUT, by omega, by omega, by omega, by go_num, HGL, HOKN, hM, hO, hbi2⟩
              case measure => simp [intOf]; omega
    · obtain rfl : i = o.length := by omega
      have nI : ¬ (o.length : Int) < (o.length : Int) := by omega
      have HRs := Lib.hid (show R = some out by
        rw [← hgl.out]
        obtain ⟨f, hf⟩ : ∃ f, 502 - o.length = f + 1 := ⟨501 - o.length, by omega⟩
        rw [hf]
        exact nfB_end (List.getElem?_eq_none (Nat.le_refl _)))
      clear hgl hM hok
      go_wp2
      go_ret2
      refine ⟨hBl, ?_⟩
      rw [HRs.out]
      exact ⟨_, rfl, hO.out.rd⟩

end

end Go.Proofs.Ytoipdgoejichbaa
