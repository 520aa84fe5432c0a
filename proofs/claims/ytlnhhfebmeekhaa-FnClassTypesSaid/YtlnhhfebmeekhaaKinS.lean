/- Ours: lists of kin types; a copy of a kin type (impl). -/
import Derived.Test.YtlnhhfebmeekhaaZ10J
import Derived.Test.YtlnhhfebmeekhaaZ10H
namespace Go.Proofs.Ytlnhhfebmeekhaa
set_option linter.unusedVariables false
set_option linter.unusedSimpArgs false
open Go.RowKit

section
variable {P : Program} {α : Type} [FlatRep α] {nd : Bool} {lo lo' hi : Nat} {w : World} {E : TypeId} {v : Value} {xs : List α}
theorem run_spread_flat {t ty : TypeId} {z0 : Value} {bytes : Nat} (hT : SlTy P t E z0 (Rep.sz α) bytes) (hsz : 0 < Rep.sz α) (hG : GL nd lo lo' hi w E v xs)
    {vs : Value} {ys : List α} {z : Bool} {lx hx' : Nat} (hy : Rd z lx hx' w [vs] ys) (h63 : xs.length + ys.length ≤ maxLen) (hbytes : (xs.length + ys.length) * bytes ≤ 140737488355328) (hlo : lo ≤ w.heap.size) :
    ∃ v' w', (Builtin.append_ #[t, t] ty #[v, vs]).run P w = .ok v' w' ∧ GL nd lo lo' w'.heap.size w' E v' (xs ++ ys) ∧ w.grownBy w' v.ownBlock ∧ Below lo w w' := by
  obtain ⟨fp, ⟨v1, hv1, ao, n, cap, rfl, e1, e2, e3, e4, hr⟩, hz⟩ := hy
  simp at hv1; subst hv1
  subst e1
  rcases hr with ⟨h0, rfl⟩ | ⟨b, off, css', fps', rfl, hb, rfl, hzip, hcells, _⟩
  · have hys : ys = [] := List.eq_nil_of_length_eq_zero h0
    subst hys
    obtain ⟨v', w', hrun, h2, h3, _, h5⟩ := run_push (P := P) (t := t) (ty := ty) hT hsz hG (ao := ao) (c := cap) (css' := []) (ys := []) (fps' := []) trivial (fun h => ⟨rfl, e4 h⟩) (fun a _ j u hj => by simp at hj) (by simp) (by simp) (by simpa using h63) (by simpa using hbytes) hlo
    exact ⟨v', w', hrun, h2, h3, h5⟩
  · obtain ⟨hfl, hall⟩ := flats hzip
    obtain ⟨v', w', hrun, h2, h3, _, h5⟩ := run_push (P := P) (t := t) (ty := ty) hT hsz hG (ao := some ⟨b, off, none⟩) (c := cap) (css' := css') (ys := ys) (fps' := fps') (hall _ _) (fun h => by cases h)
      (fun a e j u hj => by
        simp only [Option.some.injEq] at e; subst e
        have := hcells j u hj
        by_cases hj0 : j = 0
        · subst hj0; simpa [Addr.add] using this
        · simpa [Addr.add, hj0] using this)
      (fun b' hb => by rw [hfl] at hb; cases hb)
      (fun hnd => ⟨by rw [hfl]; exact List.nodup_nil, fun b' hb => by rw [hfl] at hb; cases hb⟩) h63 hbytes hlo
    exact ⟨v', w', hrun, h2, h3, h5⟩
/-- append(xs, ys...) at a step of a region that draws. -/
theorem step_spread_flat {ops : Array Oper} {o : Oper} {a : Act} {K : Act → World → Prop} {Q : Exit → Act → World → Prop} {EE : Prop} (hgd : o.guard = none) {s x : Operand} {t : TypeId}
    (ho : o.op = .call { callee := .builtin .append, args := #[s, x], argTypes := #[t, t] })
    {z0 : Value} {bytes : Nat} (hT : SlTy P t E z0 (Rep.sz α) bytes) (hsz : 0 < Rep.sz α) (hG : GL nd lo lo' hi w E v xs) (hs : a.eval s = v)
    {vs : Value} (hx : a.eval x = vs) {ys : List α} {z : Bool} {lx hx' : Nat} (hy : Rd z lx hx' w [vs] ys) (h63 : xs.length + ys.length ≤ maxLen) (hbytes : (xs.length + ys.length) * bytes ≤ 140737488355328) (hlo : lo ≤ w.heap.size)
    (h : ∀ v' w', GL nd lo lo' w'.heap.size w' E v' (xs ++ ys) → w.grownBy w' v.ownBlock → Below lo w w' → K (a.put o.dst v') w') :
    if Region.wanted o (yielded ops a.tmps) = true then Oper.wp P o a w K Q else EE := by
  have hw : Region.wanted o (yielded ops a.tmps) = true := by simp [Region.wanted, hgd]
  rw [if_pos hw]
  obtain ⟨v', w', hrun, h2, h3, h5⟩ := run_spread_flat (P := P) (t := t) (ty := o.type) hT hsz hG hy h63 hbytes hlo
  unfold Oper.wp execOp
  simp only [ho, resolve, invoke, builtin, Sem.run_bind, Sem.run_pure, Result.andThen_ok, List.map_toArray, List.map_cons, List.map_nil, hs, hx]
  rw [hrun]
  exact h v' w' h2 h3 h5
end

theorem GL.lower {α : Type} [Rep α] {nd : Bool} {lo lo' hi l l' : Nat} {w : World} {E : TypeId} {v : Value} {xs : List α} (h : GL nd lo lo' hi w E v xs) (h1 : l ≤ lo) (h2 : l' ≤ lo') : GL nd l l' hi w E v xs := by
  obtain ⟨css, fps, ⟨ho1, ho2⟩, hz, hf, hg, hn⟩ := h
  refine ⟨css, fps, ⟨ho1, ?_⟩, hz, fun b hb => ⟨Nat.le_trans h2 (hf b hb).1, (hf b hb).2⟩, hg, hn⟩
  rcases ho2 with h | ⟨g, cap, cur, rfl, hb, r⟩
  · exact .inl h
  · exact .inr ⟨g, cap, cur, rfl, Nat.le_trans h1 hb, r⟩
section
variable {P : Program} {α : Type} [Rep α] {nd : Bool} {lo lo' hi : Nat} {w : World} {E : TypeId} {v : Value} {xs : List α}
/-- out = append(out, x), and where the new row lies. -/
theorem wpList_push_at {ops : Array Oper} {rest : List Oper} {o : Oper} {a : Act} {Q : Exit → Act → World → Prop} (hgd : o.guard = none) {s x : Operand} {t : TypeId}
    (ho : o.op = .call { callee := .builtin .append, args := #[s, x], argTypes := #[t, t] })
    {z0 : Value} {bytes : Nat} (hT : SlTy P t E z0 (Rep.sz α) bytes) (hsz : 0 < Rep.sz α) (hG : GL nd lo lo' hi w E v xs) (hs : a.eval s = v)
    {ad : Addr} {c : Nat} (hx : a.eval x = .slice (some ad) 1 c) {cs : List Value} {y : α} {lx hx' : Nat} (hcells : ∀ j u, cs[j]? = some u → w.cell? (ad.add j) = some u)
    (hy : It nd lx hx' w cs y) (hl : lo' ≤ lx) (hd : hi ≤ lx ∨ (hx' ≤ lo ∧ (nd = true → hx' ≤ lo'))) (h63 : xs.length + 1 ≤ maxLen) (hbytes : (xs.length + 1) * bytes ≤ 140737488355328) (hlo : lo ≤ w.heap.size)
    (h : ∀ g cap w', GL nd lo lo' w'.heap.size w' E (.slice (some ⟨g, 0, none⟩) (xs.length + 1) cap) (xs ++ [y]) → w.grownBy w' v.ownBlock → Below lo w w' → (v.ownBlock = some g ∨ g = w.heap.size) → wpList P ops Q rest (a.put o.dst (.slice (some ⟨g, 0, none⟩) (xs.length + 1) cap)) w') : wpList P ops Q (o :: rest) a w := by
  obtain ⟨fp, hr, hz, hn⟩ := hy
  have hG' := hG
  obtain ⟨css, fps, hown, _, hf, hg, _⟩ := hG'
  obtain ⟨v', w', hrun, h2, h3, hv, h5⟩ := run_push (P := P) (t := t) (ty := o.type) hT hsz hG (ao := some ad) (c := c) (css' := [cs]) (ys := [y]) (fps' := [fp]) ⟨hr, trivial⟩ (fun h => by cases h)
    (fun a e => by simp only [Option.some.injEq] at e; subst e; simpa using hcells)
    (fun b hb => by
      have hb' : b ∈ fp := by simpa using hb
      refine ⟨Nat.le_trans hl (hz b hb').1, fun e => ?_⟩
      have h1 := hg b e.symm
      have h2 := (hown.lt b e.symm).1
      have h3 := hz b hb'
      omega)
    (fun hnd => ⟨by simpa using hn hnd, fun b hb => by
      have hb' : b ∈ fp := by simpa using hb
      have h3 := hz b hb'
      rcases hd with hd | ⟨_, hd⟩
      · left; omega
      · right; have := hd hnd; omega⟩) (by simpa using h63) (by simpa using hbytes) hlo
  refine wpList_plain hgd fun K hK => ?_
  unfold Oper.wp execOp
  simp only [ho, resolve, invoke, builtin, Sem.run_bind, Sem.run_pure, Result.andThen_ok, List.map_toArray, List.map_cons, List.map_nil, hs, hx]
  simp only [List.length_cons, List.length_nil, Nat.zero_add] at hrun
  rw [hrun]
  obtain ⟨g, cap, e, hlg, hgw⟩ := h2.form (by simp)
  simp only [List.length_append, List.length_cons, List.length_nil, Nat.zero_add] at e
  subst e
  refine hK _ _ (h g cap w' h2 h3 h5 ?_)
  rcases hv with hv | hv
  · exact .inl (by rw [← hv]; rfl)
  · right; simpa [Value.ownBlock] using hv
end

theorem slKin : SlTy Try.prog 49 53 (.agg #[.int .i64 0, .slice none 0 0]) 2 32 := SlTy.of Try.underlying49 (by kernel_rfl) rfl
theorem repKin_inv {z : Bool} {w : World} {cs : List Value} {t : Kin} {fp : List Nat} (h : Rep.rep z w cs t fp) : ∃ v, cs = [.int .i64 t.1, v] ∧ I64 t.1 ∧ Rep.rep z w [v] t.2 fp := by
  obtain ⟨c1, c2, f1, f2, rfl, rfl, ⟨rfl, h1, rfl⟩, h2⟩ := h
  have h2' := h2
  obtain ⟨v, rfl, _⟩ := h2'
  exact ⟨v, rfl, h1, h2⟩
theorem repKin_mk {z : Bool} {w : World} {e : Int} {v : Value} {l : List Stp} {fp : List Nat} (he : I64 e) (h : Rep.rep z w [v] l fp) : Rep.rep z w [.int .i64 e, v] ((e, l) : Kin) fp := ⟨[_], [v], [], fp, rfl, rfl, ⟨rfl, he, rfl⟩, h⟩
theorem Rd.kin_at {z : Bool} {lo hi : Nat} {w : World} {xs : List Kin} {ao : Option Addr} {n cap : Nat} (h : Rd z lo hi w [.slice ao n cap] xs) {i : Nat} (hi' : i < n) :
    ∃ (b off : Nat) (t : Kin) (v : Value), ao = some ⟨b, off, none⟩ ∧ Hid (xs[i]? = some t) ∧ w.cell? ⟨b, off + i * 2, none⟩ = some (.int .i64 t.1) ∧ w.cell? ⟨b, off + i * 2 + 1, none⟩ = some v ∧ I64 t.1 ∧ Rd z lo hi w [v] t.2 ∧ Rd z lo hi w [.int .i64 t.1, v] t ∧ lo ≤ b ∧ b < hi ∧ b < w.heap.size := by
  obtain ⟨b, off, t, cs, e, hx, ⟨fp, hr, hz⟩, _, g1, g2, g3, hc, hf⟩ := h.at hi'
  obtain ⟨v, rfl, h1, h3⟩ := repKin_inv hr
  refine ⟨b, off, t, v, e, hx, ?_, ?_, h1, ⟨fp, h3, hz⟩, ⟨fp, hr, hz⟩, g1, g2, g3⟩
  · have := hc 0 (.int .i64 t.1) rfl; simpa [Rep.sz, Nat.add_assoc] using this
  · have := hc 1 v rfl; simpa [Rep.sz, Nat.add_assoc] using this

/-- A kin type comes back whose steps lie in a row of its own. -/
def PostKG (w : World) (t : Kin) (e : Ending) (w' : World) : Prop := ∃ v, e = .returned (.agg #[.int .i64 t.1, v]) ∧ GL true w.heap.size w.heap.size w'.heap.size w' 83 v t.2 ∧ Below w.heap.size w w'
set_option maxRecDepth 20000 in
set_option maxHeartbeats 2000000 in
theorem copyTypeI_any {z : Bool} {lo hi : Nat} (w : World) (a b : Value) (t : Kin) (h : Rd z lo hi w [a, b] t) (hl : t.2.length ≤ 1048576) : Calls Try.prog 93 #[.agg #[a, b]] w (PostKG w t) := by
  obtain ⟨rfl, hI, hb⟩ := h.kin
  obtain ⟨ao, n, cap, rfl, hn, hnc, hcm, hnone⟩ := hb.shape
  subst hn
  unfold maxLen at *
  have HI := Lib.hid hI
  clear h hI hnone
  go_enter Try.func93, Try.ntmps93
  go_upto_region 1 with fail
  refine wp_region_held_drew (S := (fun w' => w'.cell? ⟨w.heap.size, 0, none⟩ = some (.int .i64 t.1) ∧ w'.cell? ⟨w.heap.size, 1, none⟩ = some (.slice ao t.2.length cap))) (by kernel_rfl) ?_ (fun hHeld => ?_)
  · first | exact trivial | ((try dsimp only); go_keep)
  refine tkR 0 (v := ?_) ?_ ?_
  rotate_left
  · intro w hSw; (try dsimp only at hSw); go_simp <;> with_reducible rfl
  try simp only [Act.put, List.setIfInBounds_toArray, List.set_cons_zero, List.set_cons_succ]
  refine tkR 2 (v := ?_) ?_ ?_
  rotate_left
  · intro w hSw; (try dsimp only at hSw); go_simp <;> with_reducible rfl
  try simp only [Act.put, List.setIfInBounds_toArray, List.set_cons_zero, List.set_cons_succ]
  refine tkR 1 (v := ?_) ?_ ?_
  rotate_left
  · intro w hSw; (try dsimp only at hSw); go_simp <;> with_reducible rfl
  try simp only [Act.put, List.setIfInBounds_toArray, List.set_cons_zero, List.set_cons_succ]
  refine tkR 3 (v := ?_) ?_ ?_
  rotate_left
  · intro w hSw; (try dsimp only at hSw); go_simp <;> with_reducible rfl
  try simp only [Act.put, List.setIfInBounds_toArray, List.set_cons_zero, List.set_cons_succ]
  refine wpAnyH_ready (rs := [4]) (by kernel_rfl) (by simp) ?_
  refine rdR (fun K hK => ?_) ?_
  · refine step_spread_flat rfl rfl slStep (by show (0 : Nat) < 2; omega) (GL.start true (w.heap.size + 2) (w.heap.size + 2) (w.heap.size + 2) _ _) (by simp [Act.eval, Act.put]) (by simp [Act.eval, Act.put]) (hb.below bwT) (by unfold maxLen; simp; omega) (by simp; omega) (by simp) ?_
    rintro v1 w1 hG1 _ hb1
    obtain ⟨g1, cap1, rfl, -, -⟩ := hG1.len
    have hS1 := And.intro (oldc hb1 (by omega) hHeld.1) (oldc hb1 (by omega) hHeld.2)
    have HG := Lib.hid hG1
    simp only [List.nil_append] at HG
    have r0 : w1.cell? ⟨w.heap.size + 1, 0, none⟩ = some (.int .i64 0) := oldc hb1 (by omega) (by simp [go_sem])
    have r1 : w1.cell? ⟨w.heap.size + 1, 1, none⟩ = some (.slice none 0 0) := oldc hb1 (by omega) (by simp [go_sem])
    have rf : ∀ o, w1.frozen? ⟨w.heap.size + 1, o, none⟩ = false := fun o => (hb1.frozen (p := ⟨w.heap.size + 1, o, none⟩) (by simp)).trans (by simp [go_sem])
    have s1 := hb1.size
    have hbw1 : Below w.heap.size w w1 := Below.trans (show Below w.heap.size w _ from bwT) (hb1.mono (by omega))
    refine hK.out _ _ ?_ (fun hHeld => ?_)
    · exact kpT
    clear hK K
    try simp only [Act.put, List.setIfInBounds_toArray, List.set_cons_zero, List.set_cons_succ]
    refine tkR 5 (v := ?_) ?_ ?_
    rotate_left
    · intro w hSw; (try dsimp only at hSw); go_simp <;> with_reducible rfl
    try simp only [Act.put, List.setIfInBounds_toArray, List.set_cons_zero, List.set_cons_succ]
    refine wpAnyH_ready (rs := [6]) (by kernel_rfl) (by simp) ?_
    refine rdR (fun K hK => ?_) ?_
    · go_simp
      refine hK.out _ _ ?_ (fun hHeld => ?_)
      · exact kpT
      clear hK K
      try simp only [Act.put, List.setIfInBounds_toArray, List.set_cons_zero, List.set_cons_succ]
      refine wpAnyH_done (by kernel_rfl) ?_ _
      clear hHeld hS1 hb hG1 hb1
      go_wp2
      exact bodyPost_ret (v := .agg #[.int .i64 t.1, .slice g1 t.2.length cap1]) (by simp [results, Try.results93, go_sem, r0, r1]) rfl ⟨_, rfl, GL.lower ((HG.out.keep znT znT).top) (by omega) (by omega), bwT⟩
    exact AllReadyH.nil
  exact AllReadyH.nil
end Go.Proofs.Ytlnhhfebmeekhaa
