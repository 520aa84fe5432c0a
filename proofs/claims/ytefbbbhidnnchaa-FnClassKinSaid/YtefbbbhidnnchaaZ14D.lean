/- Texts laid one behind the other (merge.py): Rel2, Grow2, Grow3. -/
import Derived.Test.YtefbbbhidnnchaaRel
import Derived.Deep.AppendLies
import Derived.Deep.RegionHeldLaw
namespace Go.Proofs.Ytefbbbhidnnchaa
set_option linter.unusedVariables false
set_option linter.unusedSimpArgs false
open Go.RowKit

/-! ### Rel2 -/
section

def relabV (c : Cls) (p : List Int) : Bool := isCls c && isPerm p && decide (p.length = c.1.length)
def relabC (c : Cls) (p : List Int) : Cls := if relabV c p = true then (relab p c.1, relab p c.2) else ([], [])

/-- A struct comes back, owned and new, and a bool. -/
def PostOw2B {α : Type} [Rep α] (w : World) (x : α) (r : Bool) (e : Ending) (w' : World) : Prop := ∃ a b, e = .returned (.tuple #[.agg #[a, b], .bool r]) ∧ Ow w.heap.size w'.heap.size w' [a, b] x ∧ Below w.heap.size w w'

theorem Ow.nil2 (lo hi : Nat) (w : World) : Ow lo hi w [.slice none 0 0, .slice none 0 0] (([], []) : Cls) := by
  refine ⟨[], ⟨[.slice none 0 0], [.slice none 0 0], [], [], rfl, rfl, ?_, ?_⟩, fun b hb => (by cases hb), List.nodup_nil⟩ <;> exact ⟨_, rfl, none, 0, 0, rfl, rfl, Nat.le_refl _, by simp [maxLen], fun _ => rfl, .inl ⟨rfl, rfl⟩⟩

theorem isCls_parts {c : Cls} (h : isCls c = true) : 1 ≤ c.1.length ∧ c.1.length ≤ 8 ∧ c.2.length = c.1.length ∧ InRange c.1.length c.1 ∧ InRange c.1.length c.2 ∧ isPerm c.1 = true ∧ isPerm c.2 = true := by
  simp only [isCls, Bool.and_eq_true, decide_eq_true_eq] at h
  obtain ⟨⟨⟨h1, h2, h3⟩, h4⟩, h5⟩ := h
  exact ⟨h1, h2, h3, isPerm_range h4, by rw [← h3]; exact isPerm_range h5, h4, h5⟩

section
variable {z z' : Bool} {lo hi lo' hi' : Nat} (w : World) (u v vp : Value) (c : Cls) (p : List Int)

set_option maxHeartbeats 4000000 in
theorem relabS_any (h : Rd z lo hi w [u, v] c) (h' : Rd z' lo' hi' w [vp] p) (hc : c.1.length ≤ 1048576) (hl : p.length ≤ 1048576) :
    Calls Try.prog 71 #[.agg #[u, v], vp] w (PostOw2B w (relabC c p) (relabV c p)) := by
  obtain ⟨f, q⟩ := c
  have hc : f.length ≤ 1048576 := hc
  obtain ⟨ao, n1, cap, bo, n2, dap, rfl, rfl⟩ := shapeCls h
  obtain ⟨po, np, pcap, rfl, e, hnc, hcm, hnone⟩ := h'.shape
  subst e
  obtain rfl : n1 = f.length := by
    obtain ⟨_, _, _, e, e2, -⟩ := (h.two rfl).1.shape
    simp only [Value.slice.injEq] at e; dsimp only at e2; omega
  obtain ⟨r1, hr1⟩ : ∃ r, r = isCls (f, q) := ⟨_, rfl⟩
  obtain ⟨r2, hr2⟩ : ∃ r, r = isPerm p := ⟨_, rfl⟩
  obtain ⟨r3, hr3⟩ : ∃ r, r = decide (p.length = f.length) := ⟨_, rfl⟩
  have H1 := Lib.hid hr1
  have H2 := Lib.hid hr2
  have H3 := Lib.hid hr3
  have HV := Lib.hid (show relabV (f, q) p = (r1 && r2 && r3) by rw [relabV, hr1, hr2, hr3])
  have HC := Lib.hid (show relabC (f, q) p = if (r1 && r2 && r3) = true then (relab p f, relab p q) else ([], []) by rw [relabC, HV.out])
  clear hr1 hr2 hr3
  cases r1
  · rw [HV.out, HC.out]
    go_enter Try.func71, Try.ntmps71
    go_wp2_with fail
    refine (isClsS_b _ _ _ _ (h.below (by go_grown)) hc _ H1.out).mono ?_
    rintro e w1 ⟨rfl, hb1⟩
    have hB1 : Below w.heap.size w w1 := Below.after bwT hb1 szT; have s1 := hb1.size; try simp only [World.size_alloc, World.size_setCell, World.size_drew] at s1
    have r0 : w1.cell? ⟨w.heap.size + 1, 0, none⟩ = some (.slice none 0 0) := oldc hb1 ltT (by simp [go_sem])
    have r1 : w1.cell? ⟨w.heap.size + 1, 1, none⟩ = some (.slice none 0 0) := oldc hb1 ltT (by simp [go_sem])
    have l1 : w.heap.size + 1 < w1.heap.size := by omega
    have hf1 : ∀ o, w1.frozen? ⟨w.heap.size + 1, o, none⟩ = false := fun o => (hb1.frozen (p := ⟨w.heap.size + 1, o, none⟩) ltT).trans (by simp [go_sem])
    clear hb1
    go_wp2
    exact bodyPost_ret (v := .tuple #[.agg #[.slice none 0 0, .slice none 0 0], .bool false]) (by simp [results, go_sem, r0, r1]) rfl ⟨_, _, rfl, Ow.nil2 _ _ _, bwT⟩
  · obtain ⟨k1, k2, k3, k4, k5, -, -⟩ := isCls_parts H1.out.symm
    dsimp only at k1 k2 k3 k4 k5
    have HK3 := Lib.hid k3
    have HK4 := Lib.hid k4
    have HK5 := Lib.hid k5
    clear k3 k4 k5
    cases r3
    · have hbne : ((p.length : Int) != (f.length : Int)) = true := by
        have := of_decide_eq_false H3.out.symm
        simp; omega
      rw [HV.out, HC.out]
      go_enter Try.func71, Try.ntmps71
      go_wp2_with fail
      refine (isClsS_b _ _ _ _ (h.below (by go_grown)) hc _ H1.out).mono ?_
      rintro e w1 ⟨rfl, hb1⟩
      have hB1 : Below w.heap.size w w1 := Below.after bwT hb1 szT; have s1 := hb1.size; try simp only [World.size_alloc, World.size_setCell, World.size_drew] at s1
      have a0 : w1.cell? ⟨w.heap.size, 0, none⟩ = some (.slice ao f.length cap) := oldc hb1 ltT (by simp [go_sem])
      have r0 : w1.cell? ⟨w.heap.size + 1, 0, none⟩ = some (.slice none 0 0) := oldc hb1 ltT (by simp [go_sem])
      have r1 : w1.cell? ⟨w.heap.size + 1, 1, none⟩ = some (.slice none 0 0) := oldc hb1 ltT (by simp [go_sem])
      have l0 : w.heap.size < w1.heap.size := by omega
      have l1 : w.heap.size + 1 < w1.heap.size := by omega
      have hf1 : ∀ o, w1.frozen? ⟨w.heap.size + 1, o, none⟩ = false := fun o => (hb1.frozen (p := ⟨w.heap.size + 1, o, none⟩) ltT).trans (by simp [go_sem])
      clear hb1
      go_wp2
      all_goals exact bodyPost_ret (v := .tuple #[.agg #[.slice none 0 0, .slice none 0 0], .bool false]) (by simp [results, go_sem, r0, r1]) rfl ⟨_, _, rfl, Ow.nil2 _ _ _, bwT⟩
    · cases r2
      · have hpf : p.length = f.length := of_decide_eq_true H3.out.symm
        have hbne : ((p.length : Int) != (f.length : Int)) = false := by simp [hpf]
        clear hpf
        rw [HV.out, HC.out]
        go_enter Try.func71, Try.ntmps71
        go_wp2_with fail
        refine (isClsS_b _ _ _ _ (h.below (by go_grown)) hc _ H1.out).mono ?_
        rintro e w1 ⟨rfl, hb1⟩
        have hB1 : Below w.heap.size w w1 := Below.after bwT hb1 szT; have s1 := hb1.size; try simp only [World.size_alloc, World.size_setCell, World.size_drew] at s1
        have a0 : w1.cell? ⟨w.heap.size, 0, none⟩ = some (.slice ao f.length cap) := oldc hb1 ltT (by simp [go_sem])
        have r0 : w1.cell? ⟨w.heap.size + 1, 0, none⟩ = some (.slice none 0 0) := oldc hb1 ltT (by simp [go_sem])
        have r1 : w1.cell? ⟨w.heap.size + 1, 1, none⟩ = some (.slice none 0 0) := oldc hb1 ltT (by simp [go_sem])
        have l1 : w.heap.size + 1 < w1.heap.size := by omega
        have hf1 : ∀ o, w1.frozen? ⟨w.heap.size + 1, o, none⟩ = false := fun o => (hb1.frozen (p := ⟨w.heap.size + 1, o, none⟩) ltT).trans (by simp [go_sem])
        clear hb1
        go_wp2_with fail
        refine (isPermS_b _ _ _ (h'.below hB1) hl _ H2.out).mono ?_
        rintro e w2 ⟨rfl, hb2⟩
        have hB2 : Below w.heap.size w w2 := hB1.trans (hb2.mono (by omega))
        have r0 := oldc hb2 l1 r0
        have r1 := oldc hb2 l1 r1
        have hf2 : ∀ o, w2.frozen? ⟨w.heap.size + 1, o, none⟩ = false := fun o => (hb2.frozen (p := ⟨w.heap.size + 1, o, none⟩) l1).trans (hf1 o)
        clear hb2
        go_wp2
        exact bodyPost_ret (v := .tuple #[.agg #[.slice none 0 0, .slice none 0 0], .bool false]) (by simp [results, go_sem, r0, r1]) rfl ⟨_, _, rfl, Ow.nil2 _ _ _, bwT⟩
      · have hpf : p.length = f.length := of_decide_eq_true H3.out.symm
        have HPF := Lib.hid hpf
        have hbne : ((p.length : Int) != (f.length : Int)) = false := by simp [hpf]
        have HPR := Lib.hid (isPerm_range H2.out.symm)
        clear hpf
        rw [HV.out, HC.out]
        go_enter Try.func71, Try.ntmps71
        go_wp2_with fail
        refine (isClsS_b _ _ _ _ (h.below (by go_grown)) hc _ H1.out).mono ?_
        rintro e w1 ⟨rfl, hb1⟩
        have hB1 : Below w.heap.size w w1 := Below.after bwT hb1 szT; have s1 := hb1.size; try simp only [World.size_alloc, World.size_setCell, World.size_drew] at s1
        have a0 : w1.cell? ⟨w.heap.size, 0, none⟩ = some (.slice ao f.length cap) := oldc hb1 ltT (by simp [go_sem])
        have a1 : w1.cell? ⟨w.heap.size, 1, none⟩ = some (.slice bo n2 dap) := oldc hb1 ltT (by simp [go_sem])
        have r0 : w1.cell? ⟨w.heap.size + 1, 0, none⟩ = some (.slice none 0 0) := oldc hb1 ltT (by simp [go_sem])
        have r1 : w1.cell? ⟨w.heap.size + 1, 1, none⟩ = some (.slice none 0 0) := oldc hb1 ltT (by simp [go_sem])
        have l0 : w.heap.size < w1.heap.size := by omega
        have l1 : w.heap.size + 1 < w1.heap.size := by omega
        have hf1 : ∀ o, w1.frozen? ⟨w.heap.size + 1, o, none⟩ = false := fun o => (hb1.frozen (p := ⟨w.heap.size + 1, o, none⟩) ltT).trans (by simp [go_sem])
        clear hb1
        go_wp2_with fail
        refine (isPermS_b _ _ _ (h'.below hB1) hl _ H2.out).mono ?_
        rintro e w2 ⟨rfl, hb2⟩
        have hB2 : Below w.heap.size w w2 := hB1.trans (hb2.mono (by omega))
        have a0 := oldc hb2 l0 a0
        have a1 := oldc hb2 l0 a1
        have r0 := oldc hb2 l1 r0
        have r1 := oldc hb2 l1 r1
        have s2 := hb2.size
        have l2 : w.heap.size + 1 < w2.heap.size := by omega
        have hf2 : ∀ o, w2.frozen? ⟨w.heap.size + 1, o, none⟩ = false := fun o => (hb2.frozen (p := ⟨w.heap.size + 1, o, none⟩) l1).trans (hf1 o)
        clear hb2
        go_wp2_with fail
        refine (relS_any _ _ _ _ (f, q) p (h.below hB2) (h'.below hB2) HPF.out.symm (by have := HK3.out; have := HPF.out; dsimp only; omega) HPR.out (by rw [HPF.out]; exact HK4.out) (by rw [HPF.out]; exact HK5.out) hl).mono ?_
        rintro e w3 ⟨g1, g2, rfl, ho3, hb3⟩
        obtain ⟨ao3, n3, cp3, bo3, m3, dp3, rfl, rfl⟩ := shapeCls ho3.rd
        have hB3 : Below w.heap.size w w3 := hB2.trans (hb3.mono (by omega))
        have r0 := oldc hb3 l2 r0
        have r1 := oldc hb3 l2 r1
        have s3 := hb3.size
        have hf3 : ∀ o, w3.frozen? ⟨w.heap.size + 1, o, none⟩ = false := fun o => (hb3.frozen (p := ⟨w.heap.size + 1, o, none⟩) l2).trans (hf2 o)
        have HO := Lib.hid (ho3.mono (show w.heap.size + 1 + 1 ≤ w2.heap.size by omega) (Nat.le_refl _))
        clear hb3 ho3 h h'
        go_wp2
        exact bodyPost_ret (v := .tuple #[.agg #[.slice ao3 n3 cp3, .slice bo3 m3 dp3], .bool true]) (by simp [results, go_sem, r0, r1]) rfl ⟨_, _, rfl, (HO.out.keep znT).top.mono (by omega) (by simp), bwT⟩
end

end

/-! ### Grow2 -/
section

section
variable {P : Program} {α : Type} [Rep α] {nd : Bool} {lo lo' hi : Nat} {w : World} {E : TypeId} {v : Value} {xs : List α}
theorem GL.form (h : GL nd lo lo' hi w E v xs) (hn : 0 < xs.length) : ∃ g cap, v = .slice (some ⟨g, 0, none⟩) xs.length cap ∧ lo ≤ g ∧ g < w.heap.size := by
  obtain ⟨css, fps, ho, _⟩ := h
  exact ho.form hn

theorem step_push {ops : Array Oper} {o : Oper} {a : Act} {K : Act → World → Prop} {Q : Exit → Act → World → Prop} {EE : Prop} (hgd : o.guard = none) {s x : Operand} {t : TypeId}
    (ho : o.op = .call { callee := .builtin .append, args := #[s, x], argTypes := #[t, t] })
    {z0 : Value} {bytes : Nat} (hT : SlTy P t E z0 (Rep.sz α) bytes) (hsz : 0 < Rep.sz α) (hG : GL nd lo lo' hi w E v xs) (hs : a.eval s = v)
    {ad : Addr} {c : Nat} (hx : a.eval x = .slice (some ad) 1 c) {cs : List Value} {y : α} {lx hx' : Nat} (hcells : ∀ j u, cs[j]? = some u → w.cell? (ad.add j) = some u)
    (hy : It nd lx hx' w cs y) (hl : lo' ≤ lx) (hd : hi ≤ lx ∨ (hx' ≤ lo ∧ (nd = true → hx' ≤ lo'))) (h63 : xs.length + 1 ≤ maxLen) (hbytes : (xs.length + 1) * bytes ≤ 140737488355328) (hlo : lo ≤ w.heap.size) {H : Nat} (hH : w.heap.size = H) {n : Nat} (hn : xs.length + 1 = n)
    (h : ∀ g cap w', GL nd lo lo' w'.heap.size w' E (.slice (some ⟨g, 0, none⟩) n cap) (xs ++ [y]) → w.grownBy w' v.ownBlock → (v.ownBlock = some g ∨ g = H) → lo ≤ g → g < w'.heap.size → Below lo w w' → K (a.put o.dst (.slice (some ⟨g, 0, none⟩) n cap)) w') :
    if Region.wanted o (yielded ops a.tmps) = true then Oper.wp P o a w K Q else EE := by
  have hw : Region.wanted o (yielded ops a.tmps) = true := by simp [Region.wanted, hgd]
  rw [if_pos hw]
  subst hH hn
  obtain ⟨fp, hr, hz, hnd⟩ := hy
  have hG' := hG
  obtain ⟨css, fps, hown, _, hf, hg, _⟩ := hG'
  obtain ⟨v', w', hrun, h2, h3, hv, h5⟩ := run_push (P := P) (t := t) (ty := o.type) hT hsz hG (ao := some ad) (c := c) (css' := [cs]) (ys := [y]) (fps' := [fp]) ⟨hr, trivial⟩ (fun h => by cases h)
    (fun a e => by simp only [Option.some.injEq] at e; subst e; simpa using hcells)
    (fun b hb => by
      have hb' : b ∈ fp := by simpa using hb
      refine ⟨Nat.le_trans hl (hz b hb').1, fun e => ?_⟩
      have h1 := hg b e.symm
      have h2 := (hown.lt b e.symm).1
      have h3 := hz b hb'
      omega)
    (fun hnd' => ⟨by simpa using hnd hnd', fun b hb => by
      have hb' : b ∈ fp := by simpa using hb
      have h3 := hz b hb'
      rcases hd with hd | ⟨_, hd⟩
      · left; omega
      · right; have := hd hnd'; omega⟩) (by simpa using h63) (by simpa using hbytes) hlo
  unfold Oper.wp execOp
  simp only [ho, resolve, invoke, builtin, Sem.run_bind, Sem.run_pure, Result.andThen_ok, List.map_toArray, List.map_cons, List.map_nil, hs, hx]
  simp only [List.length_cons, List.length_nil, Nat.zero_add] at hrun
  rw [hrun]
  obtain ⟨g, cap, e, hlg, hgw⟩ := h2.form (by simp)
  simp only [List.length_append, List.length_cons, List.length_nil, Nat.zero_add] at e
  subst e
  refine h g cap w' h2 h3 ?_ hlg hgw h5
  rcases hv with hv | hv
  · exact .inl (by rw [← hv]; rfl)
  · right; simpa [Value.ownBlock] using hv
end

/-- A list of flat items lies in its own row alone. -/
theorem GL.far {α : Type} [FlatRep α] {nd : Bool} {lo lo' hi : Nat} {w w' : World} {E : TypeId} {v : Value} {xs : List α} (h : GL nd lo lo' hi w E v xs) {row : Option Nat} (hg : w.grownBy w' row) (hr : ∀ g, v.ownBlock = some g → some g ≠ row) : GL nd lo lo' w'.heap.size w' E v xs := by
  obtain ⟨css, fps, ho, hz, hf, hgg, hn⟩ := h
  obtain ⟨hfl, hall⟩ := flats hz
  refine ⟨css, fps, ⟨ho.1, ?_⟩, hall _ _, (fun b (hb : b ∈ fps.flatten) => by rw [hfl] at hb; cases hb), fun g h => Nat.lt_of_lt_of_le (ho.lt g h).2 hg.size, hn⟩
  rcases ho.2 with h | ⟨g, cap, cur, rfl, hb, hh, r⟩
  · exact .inl h
  · exact .inr ⟨g, cap, cur, rfl, hb, by rw [hg.block g (ho.lt g rfl).2 (hr g rfl)]; exact hh, r⟩
theorem offF_drewN {fp : List Nat} {a w : World} (h : OffF fp a w) (n : Nat) : OffF fp a (w.drewN n) := ⟨h.os, h.tape, h.output, h.size, h.block⟩
theorem zone_drewN {lo hi : Nat} {a w : World} (h : Zone lo hi a w) (n : Nat) : Zone lo hi a (w.drewN n) := h

end

/-! ### Grow3 -/
section

section
variable {P : Program} {α : Type} [FlatRep α] {nd : Bool} {lo lo' hi : Nat} {w : World} {E : TypeId} {v : Value} {xs : List α}
theorem wpList_spread_flat {ops : Array Oper} {rest : List Oper} {o : Oper} {a : Act} {Q : Exit → Act → World → Prop} (hgd : o.guard = none) {s x : Operand} {t : TypeId}
    (ho : o.op = .call { callee := .builtin .append, args := #[s, x], argTypes := #[t, t] })
    {z0 : Value} {bytes : Nat} (hT : SlTy P t E z0 (Rep.sz α) bytes) (hsz : 0 < Rep.sz α) (hG : GL nd lo lo' hi w E v xs) (hs : a.eval s = v)
    {vs : Value} (hx : a.eval x = vs) {ys : List α} {z : Bool} {lx hx' : Nat}
    (hy : Rd z lx hx' w [vs] ys) (h63 : xs.length + ys.length ≤ maxLen) (hbytes : (xs.length + ys.length) * bytes ≤ 140737488355328) (hlo : lo ≤ w.heap.size)
    (h : ∀ v' w', GL nd lo lo' w'.heap.size w' E v' (xs ++ ys) → w.grownBy w' v.ownBlock → Below lo w w' → wpList P ops Q rest (a.put o.dst v') w') : wpList P ops Q (o :: rest) a w := by
  obtain ⟨fp, ⟨v1, hv1, ao, n, cap, rfl, e1, e2, e3, e4, hr⟩, hz⟩ := hy
  simp at hv1; subst hv1
  subst e1
  have key : ∃ v' w', (Builtin.append_ #[t, t] o.type #[v, .slice ao ys.length cap]).run P w = .ok v' w' ∧ GL nd lo lo' w'.heap.size w' E v' (xs ++ ys) ∧ w.grownBy w' v.ownBlock ∧ Below lo w w' := by
    rcases hr with ⟨h0, rfl⟩ | ⟨b, off, css', fps', rfl, hb, rfl, hzip, hcells, _⟩
    · have hys : ys = [] := List.eq_nil_of_length_eq_zero h0
      subst hys
      obtain ⟨v', w', hrun, h2, h3, _, h5⟩ := run_push (P := P) (t := t) (ty := o.type) hT hsz hG (ao := ao) (c := cap) (css' := []) (ys := []) (fps' := []) trivial (fun h => ⟨rfl, e4 h⟩) (fun a _ j u hj => by simp at hj) (by simp) (by simp) (by simpa using h63) (by simpa using hbytes) hlo
      exact ⟨v', w', hrun, h2, h3, h5⟩
    · obtain ⟨hfl, hall⟩ := flats hzip
      obtain ⟨v', w', hrun, h2, h3, _, h5⟩ := run_push (P := P) (t := t) (ty := o.type) hT hsz hG (ao := some ⟨b, off, none⟩) (c := cap) (css' := css') (ys := ys) (fps' := fps') (hall _ _) (fun h => by cases h)
        (fun a e j u hj => by
          simp only [Option.some.injEq] at e; subst e
          have := hcells j u hj
          by_cases hj0 : j = 0
          · subst hj0; simpa [Addr.add] using this
          · simpa [Addr.add, hj0] using this)
        (fun b' hb => by rw [hfl] at hb; cases hb)
        (fun hnd => ⟨by rw [hfl]; exact List.nodup_nil, fun b' hb => by rw [hfl] at hb; cases hb⟩) h63 hbytes hlo
      exact ⟨v', w', hrun, h2, h3, h5⟩
  obtain ⟨v', w', hrun, h2, h3, h5⟩ := key
  refine wpList_plain hgd fun K hK => ?_
  unfold Oper.wp execOp
  simp only [ho, resolve, invoke, builtin, Sem.run_bind, Sem.run_pure, Result.andThen_ok, List.map_toArray, List.map_cons, List.map_nil, hs, hx]
  rw [hrun]
  exact hK _ _ (h v' w' h2 h3 h5)
end

theorem zip_ints {z : Bool} {w : World} : ∀ {css : List (List Value)} {xs : List Int} {fps : List (List Nat)}, Zip (Rep.rep z w) css xs fps → css = xs.map fun x => [.int .i64 x]
  | [], [], [], _ => rfl
  | c :: css, x :: xs, f :: fps, h => by
    obtain ⟨⟨h1, _, _⟩, h2⟩ := h
    rw [List.map_cons, zip_ints h2, h1]
  | [], [], _ :: _, h | [], _ :: _, _, h | _ :: _, [], _, h | _ :: _, _ :: _, [], h => h.elim
theorem zip_ints_of {z : Bool} {w : World} : ∀ {xs : List Int}, (∀ x ∈ xs, I64 x) → Zip (Rep.rep z w) (xs.map fun x => [.int .i64 x]) xs (xs.map fun _ => [])
  | [], _ => trivial
  | x :: xs, h => ⟨⟨rfl, h x (by simp), rfl⟩, zip_ints_of fun y hy => h y (by simp [hy])⟩
theorem zip_ints_in {z : Bool} {w : World} : ∀ {css : List (List Value)} {xs : List Int} {fps : List (List Nat)}, Zip (Rep.rep z w) css xs fps → ∀ x ∈ xs, I64 x
  | [], [], [], _ => fun _ h => by cases h
  | c :: css, x :: xs, f :: fps, h => by
    obtain ⟨⟨_, h1, _⟩, h2⟩ := h
    intro y hy
    rcases List.mem_cons.1 hy with rfl | hy
    · exact h1
    · exact zip_ints_in h2 y hy
  | [], [], _ :: _, h | [], _ :: _, _, h | _ :: _, [], _, h | _ :: _, _ :: _, [], h => h.elim

/-- A growing slice of numbers, item i stored anew. -/
theorem GL.put {nd : Bool} {lo lo' hi : Nat} {w : World} {E : TypeId} {g n cap : Nat} {xs : List Int} (h : GL nd lo lo' hi w E (.slice (some ⟨g, 0, none⟩) n cap) xs) {i : Nat} (hi' : i < n) {y : Int} (hy : I64 y) :
    GL nd lo lo' hi (w.setCell ⟨g, i, none⟩ (.int .i64 y)) E (.slice (some ⟨g, 0, none⟩) n cap) (xs.set i y) := by
  obtain ⟨css, fps, ho, hz, hf, hg, hn⟩ := h
  have hc := zip_ints hz
  subst hc
  have hin := zip_ints_in hz
  have hfl : ∀ (l : List Int), (l.map fun x => [Value.int .i64 x]).flatten = l.map fun x => Value.int .i64 x := by
    intro l; induction l with
    | nil => rfl
    | cons a l ih => simp [ih]
  have hnil : ∀ (l : List Int), (l.map fun _ => ([] : List Nat)).flatten = [] := by
    intro l; induction l with
    | nil => rfl
    | cons a l ih => simp [ih]
  refine ⟨(xs.set i y).map fun x => [.int .i64 x], (xs.set i y).map fun _ => [], ?_, zip_ints_of (fun x hx => ?_), (by rw [hnil]; simp), hg, fun _ => by rw [hnil]; exact List.nodup_nil⟩
  · rw [hfl] at ho
    rw [hfl]
    obtain ⟨h1, h2⟩ := ho
    refine ⟨by simpa using h1, ?_⟩
    rcases h2 with ⟨e, _⟩ | ⟨g', cap', cur, e, hb, hh, r1, r2, r3, r4⟩
    · cases e
    · simp only [Value.slice.injEq, Option.some.injEq, Addr.mk.injEq, and_true] at e
      obtain ⟨rfl, rfl, rfl⟩ := e
      refine .inr ⟨g, cap, cur.setIfInBounds i (.int .i64 y), by simp, hb, ?_, by simpa using r1, r2, by simpa using r3, ?_⟩
      · unfold World.setCell
        simp only [Array.getElem?_modify, if_true, hh, Option.map_some]
        rfl
      · simp only [Array.toList_setIfInBounds, List.length_set, List.map_set]
        rw [← r4, List.take_set]
  · rcases List.mem_or_eq_of_mem_set hx with h | h
    · exact hin x h
    · rw [h]; exact hy

/-- Item i of a growing slice of numbers. -/
theorem GL.int_at {nd : Bool} {lo lo' hi : Nat} {w : World} {E : TypeId} {v : Value} {xs : List Int} (h : GL nd lo lo' hi w E v xs) {i : Nat} (hi' : i < xs.length) :
    ∃ g cap x, v = .slice (some ⟨g, 0, none⟩) xs.length cap ∧ Hid (xs[i]? = some x) ∧ w.cell? ⟨g, i, none⟩ = some (.int .i64 x) ∧ I64 x ∧ lo ≤ g ∧ g < hi ∧ g < w.heap.size ∧ (∀ o, w.frozen? ⟨g, o, none⟩ = false) := by
  obtain ⟨g, cap, rfl, h1, h2⟩ := h.form (by omega)
  obtain ⟨css, fps, ho, hz, hf, hg, hn⟩ := h
  have hit := (GL.it (l0 := min lo lo') (w := w) (hi := hi) (lo := lo) (lo' := lo') (E := E) (nd := nd) ⟨css, fps, ho, hz, hf, hg, hn⟩ (by omega) (by omega)).rd
  obtain ⟨b, off, x, e, hx, hc, hx1, hx2, _⟩ := hit.int_at hi'
  simp only [Option.some.injEq, Addr.mk.injEq, and_true] at e
  obtain ⟨rfl, rfl⟩ := e
  refine ⟨g, cap, x, rfl, hx, by simpa using hc, ⟨hx1, hx2⟩, h1, hg g rfl, h2, fun o => ?_⟩
  rcases ho.2 with ⟨e, _⟩ | ⟨g', cap', cur, e, hb, hh, _⟩
  · cases e
  · simp only [Value.slice.injEq, Option.some.injEq, Addr.mk.injEq, and_true, true_and] at e
    obtain ⟨rfl, rfl⟩ := e
    simp [World.frozen?, hh]

end

end Go.Proofs.Ytefbbbhidnnchaa
