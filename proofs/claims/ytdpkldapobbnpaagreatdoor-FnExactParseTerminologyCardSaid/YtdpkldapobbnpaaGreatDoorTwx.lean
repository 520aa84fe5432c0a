/- Ours: a list of rules and a list of entries that the call grows by turns, each owned with its items. -/
import Derived.Test.YtdpkldapobbnpaaGreatDoorGx
import Derived.Test.YtdpkldapobbnpaaGreatDoorDEntry
import Derived.Test.YtdpkldapobbnpaaGreatDoorRulM
namespace Go.Proofs.YtdpkldapobbnpaaGreatDoor
set_option linter.unusedVariables false
set_option linter.unusedSimpArgs false
open Go.RowKit

section
variable {α : Type} [Rep α] {S : Nat → Prop} {w w' : World} {E : TypeId} {v : Value} {xs : List α}
theorem GX.nil (S : Nat → Prop) (w : World) (E : TypeId) : GX (α := α) S w E (.slice none 0 0) [] :=
  ⟨[], [], by simpa using World.ownsRow_nil w 0 E (Rep.sz α), trivial, by simp, by simp [Value.ownBlock], List.nodup_nil⟩
theorem GX.fp (h : GX S w E v xs) : ∃ fp, Rep.rep true w [v] xs fp ∧ (∀ b ∈ fp, S b ∧ b < w.heap.size) ∧ fp.Nodup := by
  obtain ⟨css, fps, ho, hz, hf, hg, hn⟩ := h
  rcases ho.2 with ⟨rfl, h⟩ | ⟨g, cap, cur, rfl, hbb, hh, h3, h4, h5, h6⟩
  · exact ⟨[], ⟨_, rfl, none, 0, 0, rfl, h, Nat.le_refl _, by simp [maxLen], fun _ => rfl, .inl ⟨rfl, rfl⟩⟩, (fun _ h => by cases h), List.nodup_nil⟩
  · refine ⟨g :: fps.flatten, ⟨_, rfl, some ⟨g, 0, none⟩, xs.length, cap, rfl, rfl, h3, h4, (fun h => by cases h), .inr ⟨g, 0, css, fps, rfl, (ho.lt g rfl).2, rfl, hz, ?_, ?_⟩⟩, ?_, List.nodup_cons.2 ⟨fun hm => (hf g hm).2 rfl, hn⟩⟩
    · intro j c hj
      have := ho.cells (g := g) rfl j c hj
      by_cases hj0 : j = 0
      · subst hj0; simpa [Addr.add] using this
      · simpa [Addr.add, hj0] using this
    · intro _ o
      simp [World.frozen?, hh]
    · intro b hb
      rcases List.mem_cons.1 hb with rfl | hb
      · exact ⟨hg b rfl, (ho.lt b rfl).2⟩
      · exact ⟨(hf b hb).1, hz.lt b hb⟩
end
theorem run_push_x2 {P : Program} {α : Type} [Rep α] {S : Nat → Prop} {w : World} {E : TypeId} {v : Value} {xs : List α} {t ty : TypeId}
    {z0 : Value} {bytes : Nat} (hT : SlTy P t E z0 (Rep.sz α) bytes) (hsz : 0 < Rep.sz α) {ad : Addr} {c : Nat} {cs : List Value} {y : α} {lx hx' : Nat} (hcells : ∀ j u, cs[j]? = some u → w.cell? (ad.add j) = some u)
    {w0 : World} (hG0 : GX S w0 E v xs) (hw0 : w0.heap.size ≤ lx) (hk0 : ∀ b, b < w0.heap.size → S b → w.heap[b]? = w0.heap[b]?)
    (hy : Ow lx hx' w cs y) (hSy : ∀ b, lx ≤ b → b < hx' → S b) (hSw : S w.heap.size) (h63 : xs.length + 1 ≤ maxLen) (hbytes : (xs.length + 1) * bytes ≤ 140737488355328) :
    ∃ v' w', (Builtin.append_ #[t, t] ty #[v, .slice (some ad) 1 c]).run P w = .ok v' w' ∧ GX S w' E v' (xs ++ [y]) ∧ w.grownBy w' v.ownBlock := by
  obtain ⟨css, fps, ho1, hz1, hf, hg, hn⟩ := hG0
  obtain ⟨fp, hr, hz, hnd⟩ := hy
  have hown : w.ownsRow 0 E (Rep.sz α) v xs.length css.flatten := by
    refine ⟨ho1.1, ?_⟩
    rcases ho1.2 with h | ⟨g, cap, cur, rfl, hb, hh, r⟩
    · exact .inl h
    · exact .inr ⟨g, cap, cur, rfl, hb, by rw [hk0 g (ho1.lt g rfl).2 (hg g rfl)]; exact hh, r⟩
  have hzw : Zip (Rep.rep true w) css xs fps := hz1.keep fun b hb => hk0 b (hz1.lt b hb) (hf b hb).1
  have hlen : cs.length = 1 * Rep.sz α := by rw [Nat.one_mul]; exact Rep.len hr
  obtain ⟨v', w', hrun, ho', hgr, hv⟩ := run_app (P := P) w (t := t) (ty := ty) hT hsz hown (ao := some ad) (m := 1) (c := c) hlen (fun h => by cases h) (fun a e => by simp only [Option.some.injEq] at e; subst e; exact hcells) (Rep.one hr) h63 hbytes (Nat.zero_le _)
  have hne1 : ∀ b ∈ fp, some b ≠ v.ownBlock := fun b hb e => by have := (ho1.lt b e.symm).2; have := (hz b hb).1; omega
  have hlt : ∀ b ∈ (fps ++ [fp]).flatten, b < w.heap.size ∧ some b ≠ v.ownBlock ∧ S b := by
    intro b hb
    simp only [List.flatten_append, List.mem_append, List.flatten_cons, List.flatten_nil, List.append_nil] at hb
    rcases hb with hb | hb
    · exact ⟨hzw.lt b hb, (hf b hb).2, (hf b hb).1⟩
    · exact ⟨Rep.lt hr b hb, hne1 b hb, hSy b (hz b hb).1 (hz b hb).2⟩
  refine ⟨v', w', hrun, ⟨css ++ [cs], fps ++ [fp], ?_, ?_, fun b hb => ⟨(hlt b hb).2.2, fun e => ?_⟩, fun g e => ?_, ?_⟩, hgr⟩
  · rw [List.length_append, List.flatten_append]; simpa using ho'
  · exact (hzw.snoc hr).keep fun b hb => hgr.block b (hlt b hb).1 (hlt b hb).2.1
  · rcases hv with hv | hv
    · exact (hlt b hb).2.1 (by rw [← hv]; exact e)
    · rw [hv] at e; have := (hlt b hb).1; simp at e; omega
  · rcases hv with hv | hv
    · exact hg g (hv.symm.trans e)
    · rw [hv] at e; simp at e; subst e; exact hSw
  · rw [List.flatten_append]
    refine nodup_app hn (by simpa using hnd) fun x h1 h2 => ?_
    have h2 : x ∈ fp := by simpa using h2
    have := hz1.lt x h1
    have := (hz x h2).1
    omega
def TwoX (K : Nat) (w : World) (v1 v2 : Value) (rs : List Rul) (es : List Ent) : Prop :=
  ∃ S1 S2 : Nat → Prop, (∀ b, S1 b → ¬ S2 b) ∧ (∀ b, S1 b → K ≤ b) ∧ (∀ b, S2 b → K ≤ b) ∧ GX S1 w 50 v1 rs ∧ GX S2 w 43 v2 es
section
variable {K : Nat} {w w' : World} {v1 v2 : Value} {rs : List Rul} {es : List Ent}
theorem TwoX.start (K : Nat) (w : World) : TwoX K w (.slice none 0 0) (.slice none 0 0) [] [] :=
  ⟨fun b => K ≤ b ∧ False, fun b => K ≤ b ∧ False, fun _ h => h.2.elim, fun _ h => h.1, fun _ h => h.1, GX.nil _ _ _, GX.nil _ _ _⟩
theorem TwoX.keep (h : TwoX K w v1 v2 rs es) (k : ∀ b, K ≤ b → b < w.heap.size → w'.heap[b]? = w.heap[b]?) : TwoX K w' v1 v2 rs es := by
  obtain ⟨S1, S2, hd, h1, h2, g1, g2⟩ := h
  exact ⟨S1, S2, hd, h1, h2, g1.keep fun b hb hs => k b (h1 b hs) hb, g2.keep fun b hb hs => k b (h2 b hs) hb⟩
theorem TwoX.below (h : TwoX K w v1 v2 rs es) (hb : Below w.heap.size w w') : TwoX K w' v1 v2 rs es := h.keep fun b _ hl => hb.block b hl
theorem TwoX.zone (h : TwoX K w v1 v2 rs es) (hz : Zone K w.heap.size w w') : TwoX K w' v1 v2 rs es := h.keep fun b h1 h2 => hz b h1 h2
theorem TwoX.len (h : TwoX K w v1 v2 rs es) : ∃ ao ac bo bc, v1 = .slice ao rs.length ac ∧ v2 = .slice bo es.length bc := by
  obtain ⟨S1, S2, hd, h1, h2, g1, g2⟩ := h
  obtain ⟨ao, ac, rfl, -⟩ := g1.len
  obtain ⟨bo, bc, rfl, -⟩ := g2.len
  exact ⟨ao, ac, bo, bc, rfl, rfl⟩
theorem TwoX.ow (h : TwoX K w v1 v2 rs es) : Ow K w.heap.size w [v1, v2] ((rs, es) : List Rul × List Ent) := by
  obtain ⟨S1, S2, hd, h1, h2, g1, g2⟩ := h
  obtain ⟨f1, r1, m1, n1⟩ := g1.fp
  obtain ⟨f2, r2, m2, n2⟩ := g2.fp
  refine ⟨f1 ++ f2, ⟨[v1], [v2], f1, f2, rfl, rfl, r1, r2⟩, fun b hb => ?_, ?_⟩
  · rcases List.mem_append.1 hb with hb | hb
    · exact ⟨h1 b (m1 b hb).1, (m1 b hb).2⟩
    · exact ⟨h2 b (m2 b hb).1, (m2 b hb).2⟩
  · rw [List.nodup_append]
    exact ⟨n1, n2, fun x hx y hy e => hd x (m1 x hx).1 (by rw [e]; exact (m2 y hy).1)⟩
end
section
variable {P : Program} {K : Nat} {w : World} {v1 v2 : Value} {rs : List Rul} {es : List Ent}
/-- y.Rules = append(y.Rules, r). -/
theorem wpList_push_t1 {ops : Array Oper} {rest : List Oper} {o : Oper} {a : Act} {Q : Exit → Act → World → Prop} (hgd : o.guard = none) {s x : Operand} {t : TypeId}
    (ho : o.op = .call { callee := .builtin .append, args := #[s, x], argTypes := #[t, t] })
    {z0 : Value} {bytes : Nat} (hT : SlTy P t 50 z0 (Rep.sz Rul) bytes) (hs : a.eval s = v1)
    {ad : Addr} {c : Nat} (hx : a.eval x = .slice (some ad) 1 c) {cs : List Value} {y : Rul} {lx hx' : Nat} (hcells : ∀ j u, cs[j]? = some u → w.cell? (ad.add j) = some u)
    {w0 : World} (hG0 : TwoX K w0 v1 v2 rs es) (hK : K ≤ w0.heap.size) (hw0 : w0.heap.size ≤ lx) (hb : Below w0.heap.size w0 w)
    (hy : Ow lx hx' w cs y) (h63 : rs.length + 1 ≤ maxLen) (hbytes : (rs.length + 1) * bytes ≤ 140737488355328)
    (h : ∀ ao ac w', TwoX K w' (.slice ao (rs.length + 1) ac) v2 (rs ++ [y]) es → Below K w w' → Zone w0.heap.size w.heap.size w w' → wpList P ops Q rest (a.put o.dst (.slice ao (rs.length + 1) ac)) w') : wpList P ops Q (o :: rest) a w := by
  obtain ⟨S1, S2, hd, h1, h2, g1, g2⟩ := hG0
  refine wpList_push_x (S := fun b => S1 b ∨ w0.heap.size ≤ b) hgd ho hT (by show (0 : Nat) < 5; omega) hs hx hcells (g1.mono fun b _ h => .inl h) hw0 (fun b hl _ => hb.block b hl) hy (fun b hb _ => .inr (by omega)) (.inr hb.size) h63 hbytes (fun v' w' hG hgr hv => ?_)
  obtain ⟨ao, ac, e, -⟩ := hG.len
  rw [List.length_append] at e
  have e : v' = .slice ao (rs.length + 1) ac := e
  subst e
  refine h _ _ w' ⟨_, fun b => S2 b ∧ b < w0.heap.size, ?_, ?_, fun b hb => h2 b hb.1, hG, ?_⟩ ((Below.refl K w).grown hgr (Nat.le_trans hK hb.size) fun k hk => h1 k (g1.lt hk).2) (Zone.grown (Zone.refl _ _ _) hgr (Nat.le_refl _) fun k hk => .inl (g1.lt hk).1)
  · intro b hb hc
    rcases hb with hb | hb
    · exact hd b hb hc.1
    · omega
  · intro b hb
    rcases hb with hb | hb
    · exact h1 b hb
    · omega
  · refine (g2.mono fun b hl h => ⟨h, hl⟩).keep fun b hl hS => (hgr.block b (Nat.lt_of_lt_of_le hl hb.size) fun e => hd b (g1.lt e.symm).2 hS.1).trans (hb.block b hl)
/-- y.Entries = append(y.Entries, e). -/
theorem wpList_push_t2 {ops : Array Oper} {rest : List Oper} {o : Oper} {a : Act} {Q : Exit → Act → World → Prop} (hgd : o.guard = none) {s x : Operand} {t : TypeId}
    (ho : o.op = .call { callee := .builtin .append, args := #[s, x], argTypes := #[t, t] })
    {z0 : Value} {bytes : Nat} (hT : SlTy P t 43 z0 (Rep.sz Ent) bytes) (hs : a.eval s = v2)
    {ad : Addr} {c : Nat} (hx : a.eval x = .slice (some ad) 1 c) {cs : List Value} {y : Ent} {lx hx' : Nat} (hcells : ∀ j u, cs[j]? = some u → w.cell? (ad.add j) = some u)
    {w0 : World} (hG0 : TwoX K w0 v1 v2 rs es) (hK : K ≤ w0.heap.size) (hw0 : w0.heap.size ≤ lx) (hb : Below w0.heap.size w0 w)
    (hy : Ow lx hx' w cs y) (h63 : es.length + 1 ≤ maxLen) (hbytes : (es.length + 1) * bytes ≤ 140737488355328)
    (h : ∀ ao ac w', TwoX K w' v1 (.slice ao (es.length + 1) ac) rs (es ++ [y]) → Below K w w' → Zone w0.heap.size w.heap.size w w' → wpList P ops Q rest (a.put o.dst (.slice ao (es.length + 1) ac)) w') : wpList P ops Q (o :: rest) a w := by
  obtain ⟨S1, S2, hd, h1, h2, g1, g2⟩ := hG0
  refine wpList_push_x (S := fun b => S2 b ∨ w0.heap.size ≤ b) hgd ho hT (by show (0 : Nat) < 3; omega) hs hx hcells (g2.mono fun b _ h => .inl h) hw0 (fun b hl _ => hb.block b hl) hy (fun b hb _ => .inr (by omega)) (.inr hb.size) h63 hbytes (fun v' w' hG hgr hv => ?_)
  obtain ⟨ao, ac, e, -⟩ := hG.len
  rw [List.length_append] at e
  have e : v' = .slice ao (es.length + 1) ac := e
  subst e
  refine h _ _ w' ⟨fun b => S1 b ∧ b < w0.heap.size, _, ?_, fun b hb => h1 b hb.1, ?_, ?_, hG⟩ ((Below.refl K w).grown hgr (Nat.le_trans hK hb.size) fun k hk => h2 k (g2.lt hk).2) (Zone.grown (Zone.refl _ _ _) hgr (Nat.le_refl _) fun k hk => .inl (g2.lt hk).1)
  · intro b hc hb
    rcases hb with hb | hb
    · exact hd b hc.1 hb
    · omega
  · intro b hb
    rcases hb with hb | hb
    · exact h2 b hb
    · omega
  · refine (g1.mono fun b hl h => ⟨h, hl⟩).keep fun b hl hS => (hgr.block b (Nat.lt_of_lt_of_le hl hb.size) fun e => hd b hS.1 (g2.lt e.symm).2).trans (hb.block b hl)
/-- .. as a step of a drawn region. -/
theorem step_push_t2 {ops : Array Oper} {o : Oper} {a : Act} {KK : Act → World → Prop} {Q : Exit → Act → World → Prop} {EE : Prop} (hgd : o.guard = none) {s x : Operand} {t : TypeId}
    (ho : o.op = .call { callee := .builtin .append, args := #[s, x], argTypes := #[t, t] })
    {z0 : Value} {bytes : Nat} (hT : SlTy P t 43 z0 (Rep.sz Ent) bytes) (hs : a.eval s = v2)
    {ad : Addr} {c : Nat} (hx : a.eval x = .slice (some ad) 1 c) {cs : List Value} {y : Ent} {lx hx' : Nat} (hcells : ∀ j u, cs[j]? = some u → w.cell? (ad.add j) = some u)
    {w0 : World} (hG0 : TwoX K w0 v1 v2 rs es) (hK : K ≤ w0.heap.size) (hw0 : w0.heap.size ≤ lx) (hb : Below w0.heap.size w0 w)
    (hy : Ow lx hx' w cs y) (h63 : es.length + 1 ≤ maxLen) (hbytes : (es.length + 1) * bytes ≤ 140737488355328)
    (h : ∀ ao ac w', TwoX K w' v1 (.slice ao (es.length + 1) ac) rs (es ++ [y]) → Below K w w' → Zone w0.heap.size w.heap.size w w' → KK (a.put o.dst (.slice ao (es.length + 1) ac)) w') : if Region.wanted o (yielded ops a.tmps) = true then Oper.wp P o a w KK Q else EE := by
  have hw : Region.wanted o (yielded ops a.tmps) = true := by simp [Region.wanted, hgd]
  rw [if_pos hw]
  obtain ⟨S1, S2, hd, h1, h2, g1, g2⟩ := hG0
  obtain ⟨v', w', hrun, hG, hgr⟩ := run_push_x2 (P := P) (t := t) (ty := o.type) (S := fun b => S2 b ∨ w0.heap.size ≤ b) hT (by show (0 : Nat) < 3; omega) (ad := ad) (c := c) hcells (g2.mono fun b _ h => .inl h) hw0 (fun b hl _ => hb.block b hl) hy (fun b hb _ => .inr (by omega)) (.inr hb.size) h63 hbytes
  obtain ⟨ao, ac, e, -⟩ := hG.len
  rw [List.length_append] at e
  have e : v' = .slice ao (es.length + 1) ac := e
  subst e
  unfold Oper.wp execOp
  simp only [ho, resolve, invoke, builtin, Sem.run_bind, Sem.run_pure, Result.andThen_ok, List.map_toArray, List.map_cons, List.map_nil, hs, hx]
  rw [hrun]
  refine h _ _ _ ⟨fun b => S1 b ∧ b < w0.heap.size, _, ?_, fun b hb => h1 b hb.1, ?_, ?_, hG⟩ ((Below.refl K w).grown hgr (Nat.le_trans hK hb.size) fun k hk => h2 k (g2.lt hk).2) (Zone.grown (Zone.refl _ _ _) hgr (Nat.le_refl _) fun k hk => .inl (g2.lt hk).1)
  · intro b hc hb
    rcases hb with hb | hb
    · exact hd b hc.1 hb
    · omega
  · intro b hb
    rcases hb with hb | hb
    · exact h2 b hb
    · omega
  · refine (g1.mono fun b hl h => ⟨h, hl⟩).keep fun b hl hS => (hgr.block b (Nat.lt_of_lt_of_le hl hb.size) fun e => hd b hS.1 (g2.lt e.symm).2).trans (hb.block b hl)
end
/-- .. in blocks of Q only. -/
def TwoQ (Q : Nat → Prop) (w : World) (v1 v2 : Value) (rs : List Rul) (es : List Ent) : Prop :=
  ∃ S1 S2 : Nat → Prop, (∀ b, S1 b → ¬ S2 b) ∧ (∀ b, S1 b → Q b) ∧ (∀ b, S2 b → Q b) ∧ GX S1 w 50 v1 rs ∧ GX S2 w 43 v2 es
section
variable {K : Nat} {Q : Nat → Prop} {w w' : World} {v1 v2 : Value} {rs : List Rul} {es : List Ent}
theorem TwoX.q (h : TwoX K w v1 v2 rs es) (k : ∀ b, K ≤ b → b < w.heap.size → Q b) : TwoQ Q w v1 v2 rs es := by
  obtain ⟨S1, S2, hd, h1, h2, g1, g2⟩ := h
  exact ⟨fun b => S1 b ∧ b < w.heap.size, fun b => S2 b ∧ b < w.heap.size, fun b h k => hd b h.1 k.1, fun b h => k b (h1 b h.1) h.2, fun b h => k b (h2 b h.1) h.2, g1.mono fun b hl h => ⟨h, hl⟩, g2.mono fun b hl h => ⟨h, hl⟩⟩
theorem TwoQ.x (h : TwoQ Q w v1 v2 rs es) (k : ∀ b, Q b → K ≤ b) : TwoX K w v1 v2 rs es := by
  obtain ⟨S1, S2, hd, h1, h2, g1, g2⟩ := h
  exact ⟨S1, S2, hd, fun b h => k b (h1 b h), fun b h => k b (h2 b h), g1, g2⟩
theorem TwoQ.keep (h : TwoQ Q w v1 v2 rs es) (k : ∀ b, Q b → b < w.heap.size → w'.heap[b]? = w.heap[b]?) : TwoQ Q w' v1 v2 rs es := by
  obtain ⟨S1, S2, hd, h1, h2, g1, g2⟩ := h
  exact ⟨S1, S2, hd, h1, h2, g1.keep fun b hb hs => k b (h1 b hs) hb, g2.keep fun b hb hs => k b (h2 b hs) hb⟩
theorem TwoQ.below (h : TwoQ Q w v1 v2 rs es) (hb : Below w.heap.size w w') : TwoQ Q w' v1 v2 rs es := h.keep fun b _ hl => hb.block b hl
theorem TwoQ.len (h : TwoQ Q w v1 v2 rs es) : ∃ ao ac bo bc, v1 = .slice ao rs.length ac ∧ v2 = .slice bo es.length bc := by
  obtain ⟨S1, S2, hd, h1, h2, g1, g2⟩ := h
  obtain ⟨ao, ac, rfl, -⟩ := g1.len
  obtain ⟨bo, bc, rfl, -⟩ := g2.len
  exact ⟨ao, ac, bo, bc, rfl, rfl⟩
end
section
variable {P : Program} {Q0 : Nat → Prop} {w : World} {v1 v2 : Value} {rs : List Rul} {es : List Ent}
theorem wpList_push_q1 {ops : Array Oper} {rest : List Oper} {o : Oper} {a : Act} {Q : Exit → Act → World → Prop} (hgd : o.guard = none) {s x : Operand} {t : TypeId}
    (ho : o.op = .call { callee := .builtin .append, args := #[s, x], argTypes := #[t, t] })
    {z0 : Value} {bytes : Nat} (hT : SlTy P t 50 z0 (Rep.sz Rul) bytes) (hs : a.eval s = v1)
    {ad : Addr} {c : Nat} (hx : a.eval x = .slice (some ad) 1 c) {cs : List Value} {y : Rul} {lx hx' : Nat} (hcells : ∀ j u, cs[j]? = some u → w.cell? (ad.add j) = some u)
    {w0 : World} (hG0 : TwoQ Q0 w0 v1 v2 rs es) (hQ : ∀ b, lx ≤ b → Q0 b) (hw0 : w0.heap.size ≤ lx) (hlx : lx ≤ w.heap.size) (hb : Below w0.heap.size w0 w)
    (hy : Ow lx hx' w cs y) (h63 : rs.length + 1 ≤ maxLen) (hbytes : (rs.length + 1) * bytes ≤ 140737488355328)
    (h : ∀ ao ac w', TwoQ Q0 w' (.slice ao (rs.length + 1) ac) v2 (rs ++ [y]) es → Hid (∀ b, b < w.heap.size → (¬ Q0 b ∨ w0.heap.size ≤ b) → w'.heap[b]? = w.heap[b]?) → Hid (∀ K, (∀ b, Q0 b → K ≤ b) → K ≤ w.heap.size → Below K w w') → wpList P ops Q rest (a.put o.dst (.slice ao (rs.length + 1) ac)) w') : wpList P ops Q (o :: rest) a w := by
  obtain ⟨S1, S2, hd, h1, h2, g1, g2⟩ := hG0
  refine wpList_push_x (S := fun b => S1 b ∨ lx ≤ b) hgd ho hT (by show (0 : Nat) < 5; omega) hs hx hcells (g1.mono fun b _ h => .inl h) hw0 (fun b hl _ => hb.block b hl) hy (fun b hb _ => .inr hb) (.inr hlx) h63 hbytes (fun v' w' hG hgr hv => ?_)
  obtain ⟨ao, ac, e, -⟩ := hG.len
  rw [List.length_append] at e
  have e : v' = .slice ao (rs.length + 1) ac := e
  subst e
  refine h _ _ w' ⟨_, fun b => S2 b ∧ b < w0.heap.size, ?_, ?_, fun b hb => h2 b hb.1, hG, ?_⟩ (Lib.hid fun b hb hq => hgr.block b hb fun e => hq.elim (fun h => h (h1 b (g1.lt e.symm).2)) fun h => by have := (g1.lt e.symm).1; omega) (Lib.hid fun K hk hw => (Below.refl K w).grown hgr hw fun k e => hk k (h1 k (g1.lt e).2))
  · intro b hb hc
    rcases hb with hb | hb
    · exact hd b hb hc.1
    · omega
  · intro b hb
    rcases hb with hb | hb
    · exact h1 b hb
    · exact hQ b hb
  · refine (g2.mono fun b hl h => ⟨h, hl⟩).keep fun b hl hS => (hgr.block b (Nat.lt_of_lt_of_le hl hb.size) fun e => hd b (g1.lt e.symm).2 hS.1).trans (hb.block b hl)
theorem step_push_q2 {ops : Array Oper} {o : Oper} {a : Act} {KK : Act → World → Prop} {Q : Exit → Act → World → Prop} {EE : Prop} (hgd : o.guard = none) {s x : Operand} {t : TypeId}
    (ho : o.op = .call { callee := .builtin .append, args := #[s, x], argTypes := #[t, t] })
    {z0 : Value} {bytes : Nat} (hT : SlTy P t 43 z0 (Rep.sz Ent) bytes) (hs : a.eval s = v2)
    {ad : Addr} {c : Nat} (hx : a.eval x = .slice (some ad) 1 c) {cs : List Value} {y : Ent} {lx hx' : Nat} (hcells : ∀ j u, cs[j]? = some u → w.cell? (ad.add j) = some u)
    {w0 : World} (hG0 : TwoQ Q0 w0 v1 v2 rs es) (hQ : ∀ b, lx ≤ b → Q0 b) (hw0 : w0.heap.size ≤ lx) (hlx : lx ≤ w.heap.size) (hb : Below w0.heap.size w0 w)
    (hy : Ow lx hx' w cs y) (h63 : es.length + 1 ≤ maxLen) (hbytes : (es.length + 1) * bytes ≤ 140737488355328)
    (h : ∀ ao ac w', TwoQ Q0 w' v1 (.slice ao (es.length + 1) ac) rs (es ++ [y]) → Hid (∀ b, b < w.heap.size → (¬ Q0 b ∨ w0.heap.size ≤ b) → w'.heap[b]? = w.heap[b]?) → Hid (∀ K, (∀ b, Q0 b → K ≤ b) → K ≤ w.heap.size → Below K w w') → KK (a.put o.dst (.slice ao (es.length + 1) ac)) w') : if Region.wanted o (yielded ops a.tmps) = true then Oper.wp P o a w KK Q else EE := by
  have hw : Region.wanted o (yielded ops a.tmps) = true := by simp [Region.wanted, hgd]
  rw [if_pos hw]
  obtain ⟨S1, S2, hd, h1, h2, g1, g2⟩ := hG0
  obtain ⟨v', w', hrun, hG, hgr⟩ := run_push_x2 (P := P) (t := t) (ty := o.type) (S := fun b => S2 b ∨ lx ≤ b) hT (by show (0 : Nat) < 3; omega) (ad := ad) (c := c) hcells (g2.mono fun b _ h => .inl h) hw0 (fun b hl _ => hb.block b hl) hy (fun b hb _ => .inr hb) (.inr hlx) h63 hbytes
  obtain ⟨ao, ac, e, -⟩ := hG.len
  rw [List.length_append] at e
  have e : v' = .slice ao (es.length + 1) ac := e
  subst e
  unfold Oper.wp execOp
  simp only [ho, resolve, invoke, builtin, Sem.run_bind, Sem.run_pure, Result.andThen_ok, List.map_toArray, List.map_cons, List.map_nil, hs, hx]
  rw [hrun]
  refine h _ _ _ ⟨fun b => S1 b ∧ b < w0.heap.size, _, ?_, fun b hb => h1 b hb.1, ?_, ?_, hG⟩ (Lib.hid fun b hb hq => hgr.block b hb fun e => hq.elim (fun h => h (h2 b (g2.lt e.symm).2)) fun h => by have := (g2.lt e.symm).1; omega) (Lib.hid fun K hk hw => (Below.refl K w).grown hgr hw fun k e => hk k (h2 k (g2.lt e).2))
  · intro b hc hb
    rcases hb with hb | hb
    · exact hd b hc.1 hb
    · omega
  · intro b hb
    rcases hb with hb | hb
    · exact h2 b hb
    · exact hQ b hb
  · refine (g1.mono fun b hl h => ⟨h, hl⟩).keep fun b hl hS => (hgr.block b (Nat.lt_of_lt_of_le hl hb.size) fun e => hd b hS.1 (g2.lt e.symm).2).trans (hb.block b hl)
end
/-- An entry of what the call owns. -/
theorem Ow.ent_mk {lo hi : Nat} {w : World} {te : Int} {tl : List Stp} {v : Value} {q : ByteArray} (h : Ow lo hi w [.int .i64 te, v] ((te, tl) : Kin)) (hq : q.size ≤ maxLen) : Ow lo hi w [.int .i64 te, v, .string q] (((te, tl), q) : Ent) := by
  obtain ⟨fp, h1, h2, h3⟩ := h
  obtain ⟨v', e, hti, hr⟩ := repKin_inv h1
  simp only [List.cons.injEq, and_true] at e
  obtain ⟨-, rfl⟩ := e
  exact ⟨fp, dEnt_mk hti hq hr, h2, h3⟩
end Go.Proofs.YtdpkldapobbnpaaGreatDoor
