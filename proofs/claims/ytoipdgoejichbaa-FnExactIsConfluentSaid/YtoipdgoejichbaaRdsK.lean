/- Ours: what can be read and takes none but blocks of S; a list that the call grows of shared items (any type). -/
import Derived.Test.YtoipdgoejichbaaBase
import Derived.Test.YtoipdgoejichbaaRds
namespace Go.Proofs.Ytoipdgoejichbaa
set_option linter.unusedVariables false
set_option linter.unusedSimpArgs false
open Go.RowKit

theorem RdS.kin_at {S : Nat → Prop} {w : World} {xs : List Kin} {ao : Option Addr} {n cap : Nat} (h : RdS S w [.slice ao n cap] xs) {i : Nat} (hi' : i < n) :
    ∃ b off t v, ao = some ⟨b, off, none⟩ ∧ Hid (xs[i]? = some t) ∧ w.cell? ⟨b, off + i * 2, none⟩ = some (.int .i64 t.1) ∧ w.cell? ⟨b, off + i * 2 + 1, none⟩ = some v ∧ RdS S w [.int .i64 t.1, v] t ∧ b < w.heap.size := by
  obtain ⟨fp, ⟨v, e, ao', n', cap', e2, hn, h2, h3, h4, hh⟩, hz⟩ := h
  simp only [List.cons.injEq, and_true] at e
  subst e
  simp only [Value.slice.injEq] at e2
  obtain ⟨rfl, rfl, rfl⟩ := e2
  rcases hh with ⟨h0, _⟩ | ⟨b, off, css, fps, rfl, hb, rfl, hzip, hc, hf⟩
  · omega
  · obtain ⟨x, hx⟩ : ∃ x, xs[i]? = some x := ⟨_, List.getElem?_eq_getElem (by omega)⟩
    obtain ⟨c, f, k1, k2, k3⟩ := hzip.get hx
    obtain ⟨v, rfl, _, _⟩ := repKin_inv k3
    have h2 : Rep.sz Kin = 2 := rfl
    refine ⟨b, off, x, v, rfl, hx, ?_, ?_, ⟨f, k3, fun b hb => hz b (List.mem_cons_of_mem _ (List.mem_flatten.2 ⟨f, List.mem_of_getElem? k2, hb⟩))⟩, hb⟩
    · have := cellsAt_flat hzip.sizes k1 0 (by rw [h2]; omega)
      have := hc (i * 2 + 0) (.int .i64 x.1) (by rw [h2] at this; simpa using this)
      simpa using this
    · have := cellsAt_flat hzip.sizes k1 1 (by rw [h2]; omega)
      have := hc (i * 2 + 1) v (by rw [h2] at this; simpa using this)
      simpa [Nat.add_assoc] using this
theorem RdS.kin2 {S : Nat → Prop} {w : World} {a b : Value} {t : Kin} (h : RdS S w [a, b] t) : a = .int .i64 t.1 ∧ RdS S w [b] t.2 := by
  obtain ⟨fp, h1, h2⟩ := h
  obtain ⟨v, e, _, h3⟩ := repKin_inv h1
  simp only [List.cons.injEq, and_true] at e
  obtain ⟨rfl, rfl⟩ := e
  exact ⟨rfl, fp, h3, h2⟩
theorem GR.ownLt {α : Type} [Rep α] {S : Nat → Prop} {lo : Nat} {w : World} {E : TypeId} {v : Value} {xs : List α} (h : GR S lo w E v xs) {g : Nat} (e : v.ownBlock = some g) : lo ≤ g ∧ g < w.heap.size := by
  obtain ⟨css, fps, ho, _⟩ := h
  exact ho.lt g e
theorem GR.len {α : Type} [Rep α] {S : Nat → Prop} {lo : Nat} {w : World} {E : TypeId} {v : Value} {xs : List α} (h : GR S lo w E v xs) : ∃ ao cap, v = .slice ao xs.length cap := by
  obtain ⟨css, fps, ho, _⟩ := h
  rcases ho.2 with ⟨rfl, h⟩ | ⟨g, cap, cur, rfl, _⟩
  · have h0 : xs.length = 0 := by omega
    exact ⟨none, 0, by rw [h0]⟩
  · exact ⟨_, _, rfl⟩
section
variable {P : Program} {α : Type} [Rep α] {S : Nat → Prop} {lo : Nat} {w : World} {E : TypeId} {v : Value} {xs : List α}
theorem wpList_push_rk {ops : Array Oper} {rest : List Oper} {o : Oper} {a : Act} {Q : Exit → Act → World → Prop} (hgd : o.guard = none) {s x : Operand} {t : TypeId}
    (ho : o.op = .call { callee := .builtin .append, args := #[s, x], argTypes := #[t, t] })
    {z0 : Value} {bytes : Nat} (hT : SlTy P t E z0 (Rep.sz α) bytes) (hsz : 0 < Rep.sz α) (hG : GR S lo w E v xs) (hs : a.eval s = v)
    {ad : Addr} {c : Nat} (hx : a.eval x = .slice (some ad) 1 c) {cs : List Value} {y : α} (hcells : ∀ j u, cs[j]? = some u → w.cell? (ad.add j) = some u)
    {w0 : World} (hy : RdS S w0 cs y) (hw : Below lo w0 w) (hw0 : w0.heap.size ≤ lo) (h63 : xs.length + 1 ≤ maxLen) (hbytes : (xs.length + 1) * bytes ≤ 140737488355328) (hlo : lo ≤ w.heap.size)
    (h : ∀ v' w', GR S lo w' E v' (xs ++ [y]) → w.grownBy w' v.ownBlock → Below lo w w' → wpList P ops Q rest (a.put o.dst v') w') : wpList P ops Q (o :: rest) a w := by
  obtain ⟨fp, hr0, hfp⟩ := hy
  have hr : Rep.rep false w cs y fp := Rep.keep hr0 fun b hb => hw.block b (Nat.lt_of_lt_of_le (hfp b hb).1 hw0)
  obtain ⟨css, fps, hown, hz, hl⟩ := hG
  have hlen : cs.length = 1 * Rep.sz α := by rw [Nat.one_mul]; exact Rep.len hr
  obtain ⟨v', w', hrun, ho', hgr, hv⟩ := run_app (P := P) w (t := t) (ty := o.type) hT hsz hown (ao := some ad) (m := 1) (c := c) hlen (fun h => by cases h) (fun a e => by simp only [Option.some.injEq] at e; subst e; exact hcells) (Rep.one hr) h63 hbytes hlo
  have hbel : Below lo w w' := (Below.refl lo w).grown hgr hlo fun k hk => (hown.lt k hk).1
  refine wpList_plain hgd fun K hK => ?_
  unfold Oper.wp execOp
  simp only [ho, resolve, invoke, builtin, Sem.run_bind, Sem.run_pure, Result.andThen_ok, List.map_toArray, List.map_cons, List.map_nil, hs, hx]
  rw [hrun]
  refine hK _ _ (h v' w' ⟨css ++ [cs], fps ++ [fp], ?_, (hz.snoc hr).keep fun b hb => hbel.block b ?_, ?_⟩ hgr hbel)
  · rw [List.length_append, List.flatten_append]; simpa using ho'
  · rw [List.flatten_append, List.mem_append] at hb
    rcases hb with hb | hb
    · exact (hl b hb).1
    · exact Nat.lt_of_lt_of_le (hfp b (by simpa using hb)).1 hw0
  · intro b hb
    rw [List.flatten_append, List.mem_append] at hb
    rcases hb with hb | hb
    · exact hl b hb
    · have := hfp b (by simpa using hb)
      exact ⟨Nat.lt_of_lt_of_le this.1 hw0, this.2⟩
theorem wpList_push_s {ops : Array Oper} {rest : List Oper} {o : Oper} {a : Act} {Q : Exit → Act → World → Prop} {hi : Nat} (hgd : o.guard = none) {s x : Operand} {t : TypeId}
    (ho : o.op = .call { callee := .builtin .append, args := #[s, x], argTypes := #[t, t] })
    {z0 : Value} {bytes : Nat} (hT : SlTy P t E z0 (Rep.sz α) bytes) (hsz : 0 < Rep.sz α) (hG : GL false lo 0 hi w E v xs) (hs : a.eval s = v)
    {ad : Addr} {c : Nat} (hx : a.eval x = .slice (some ad) 1 c) {cs : List Value} {y : α} (hcells : ∀ j u, cs[j]? = some u → w.cell? (ad.add j) = some u)
    (hy : RdS (fun b => some b ≠ v.ownBlock) w cs y) (h63 : xs.length + 1 ≤ maxLen) (hbytes : (xs.length + 1) * bytes ≤ 140737488355328) (hlo : lo ≤ w.heap.size)
    (h : ∀ v' w', GL false lo 0 w'.heap.size w' E v' (xs ++ [y]) → w.grownBy w' v.ownBlock → Below lo w w' → (v'.ownBlock = v.ownBlock ∨ v'.ownBlock = some w.heap.size) → wpList P ops Q rest (a.put o.dst v') w') : wpList P ops Q (o :: rest) a w := by
  obtain ⟨fp, hr, hz⟩ := hy
  obtain ⟨v', w', hrun, h2, h3, hv, h5⟩ := run_push (P := P) (t := t) (ty := o.type) hT hsz hG (ao := some ad) (c := c) (css' := [cs]) (ys := [y]) (fps' := [fp]) ⟨hr, trivial⟩ (fun h => by cases h)
    (fun a e => by simp only [Option.some.injEq] at e; subst e; simpa using hcells)
    (fun b hb => by
      have hb' : b ∈ fp := by simpa using hb
      exact ⟨Nat.zero_le _, (hz b hb').2⟩)
    (fun hnd => by cases hnd) (by simpa using h63) (by simpa using hbytes) hlo
  refine wpList_plain hgd fun K hK => ?_
  unfold Oper.wp execOp
  simp only [ho, resolve, invoke, builtin, Sem.run_bind, Sem.run_pure, Result.andThen_ok, List.map_toArray, List.map_cons, List.map_nil, hs, hx]
  simp only [List.length_cons, List.length_nil, Nat.zero_add] at hrun
  rw [hrun]
  exact hK _ _ (h v' w' h2 h3 h5 hv)
end
/-- A literal of one kin type that others share. -/
theorem GL.litK (lo : Nat) (w : World) (E : TypeId) {u v : Value} {y : Kin} (h : lo ≤ w.heap.size) (hr : Rd false 0 w.heap.size w [u, v] y) : GL false lo 0 (w.heap.size + 1) (w.alloc (.cells #[u, v] E)) E (.slice (some ⟨w.heap.size, 0, none⟩) 1 1) [y] := by
  obtain ⟨fp, h1, h2⟩ := hr
  have hs' : 2 = Rep.sz Kin := rfl
  refine ⟨[[u, v]], [fp], ?_, ⟨Rep.keep h1 fun b hb => Below.heap_alloc w _ b (h2 b hb).2, trivial⟩, ?_, by simp [Value.ownBlock], fun e => by cases e⟩
  · exact ⟨by simp [← hs'], .inr ⟨w.heap.size, 1, #[u, v], rfl, h, heap_alloc_new w _, Nat.le_refl _, by simp [maxLen], by simp [← hs'], by simp [← hs']⟩⟩
  · intro b hb
    have hb2 : b ∈ fp := by simpa using hb
    have := (h2 b hb2).2
    exact ⟨Nat.zero_le _, by omega, by simp [Value.ownBlock]; omega⟩
/-- What can be read in a zone is there with what it takes. -/
theorem Rd.rds {α : Type} [Rep α] {S : Nat → Prop} {z : Bool} {lo hi : Nat} {w : World} {cs : List Value} {x : α} (h : Rd z lo hi w cs x) (k : ∀ b, lo ≤ b → b < hi → S b) : RdS S w cs x := by
  obtain ⟨fp, h1, h2⟩ := h
  exact ⟨fp, Rep.weak h1, fun b hb => ⟨Rep.lt h1 b hb, k b (h2 b hb).1 (h2 b hb).2⟩⟩
end Go.Proofs.Ytoipdgoejichbaa
