/- Texts laid one behind the other (merge.py): LessD, SortG, Gx. -/
import Derived.Test.YtlnhhfebmeekhaaLex
import Derived.Test.YtlnhhfebmeekhaaRds
import Derived.Test.YtlnhhfebmeekhaaSort
import Derived.Test.YtlnhhfebmeekhaaShf
import Derived.Test.YtlnhhfebmeekhaaZ10E
namespace Go.Proofs.Ytlnhhfebmeekhaa
set_option linter.unusedVariables false
set_option linter.unusedSimpArgs false
open Go.RowKit

/-! ### LessD -/
section

set_option maxHeartbeats 1000000 in
theorem lessInts_d {z z' : Bool} {lo hi lo' hi' : Nat} {w : World} {u v : Value} {xs ys : List Int} (h : Rd z lo hi w [u] xs) (h' : Rd z' lo' hi' w [v] ys) (r : Bool) (hr : r = lexB xs ys) :
    Calls Try.prog 81 #[u, v] w (PostDr w r) := by
  obtain ⟨ao, n, cap, rfl, rfl, hnc, hcm, hnone⟩ := h.shape
  obtain ⟨ao', n', cap', rfl, rfl, hnc', hcm', hnone'⟩ := h'.shape
  unfold maxLen at *
  have HR := Lib.hid hr
  clear hr
  go_enter Try.func81, Try.ntmps81
  go_wp2
  go_loopw [5] (fun i wr => ∃ k : Nat, k ≤ xs.length ∧ k ≤ ys.length ∧ i = .int .i64 k ∧ Hid (r = lexB (xs.drop k) (ys.drop k)) ∧ Hid (∃ q, wr = w.drewN q)) (fun i _ => xs.length - (intOf i).toNat)
  case atStart => exact ⟨0, Nat.zero_le _, Nat.zero_le _, rfl, Lib.hid (by simpa using HR.out), Lib.hid ⟨0, rfl⟩⟩
  case round =>
    clear HR
    obtain ⟨k, hk, hk', rfl, ht, hqw⟩ := hrel
    have hb : Below w.heap.size w wr := by
      obtain ⟨q, rfl⟩ := hqw.out
      exact below_drewN (Below.refl _ _) _
    by_cases hlt : k < xs.length
    · by_cases hlt' : k < ys.length
      · obtain ⟨b, off, x, rfl, hx, hc, hx1, hx2, _⟩ := (h.below hb).int_at hlt
        obtain ⟨b', off', y, rfl, hy, hc', hy1, hy2, _⟩ := (h'.below hb).int_at hlt'
        have hI : (k : Int) < (xs.length : Int) := by omega
        have hI' : (k : Int) < (ys.length : Int) := by omega
        clear h h'
        by_cases hxy : x = y
        · subst hxy
          have HT : Hid (r = lexB (xs.drop (k + 1)) (ys.drop (k + 1))) := by rw [ht.out, lexB_step hx.out hy.out]; rfl
          clear ht hx hy
          go_wp2_with fail
          go_quiet (fail)
          go_wp2
          go_roundw
          case rel => exact ⟨k + 1, by omega, by omega, by go_num, HT, Lib.hid (drew_on hqw.out _)⟩
          case measure => simp [intOf]; omega
        · have hne : (x != y) = true := by simpa using hxy
          have HF : Hid (r = decide (x < y)) := by rw [ht.out, lexB_ne hx.out hy.out hxy]; rfl
          clear ht hx hy hxy
          go_wp2_with fail
          go_quiet (fail)
          go_wp2_with fail
          go_quiet (fail)
          go_wp2
          go_ret
          exact ⟨ret_bool HF.out.symm, by first | exact drew_on (drew_on hqw.out _) _ | exact drew_on hqw.out _⟩
      · have HF := Lib.hid (show r = decide (xs.length < ys.length) by
          rw [ht.out, lexB_end2 (by omega) hlt]; simp; omega)
        have hI : (k : Int) < (xs.length : Int) := by omega
        have hI' : ¬ (k : Int) < (ys.length : Int) := by omega
        clear h h' ht
        go_wp2
        go_ret
        exact ⟨ret_bool (by rw [HF.out]; try simp), hqw.out⟩
    · have HF := Lib.hid (show r = decide (xs.length < ys.length) by
        rw [ht.out, lexB_end1 (by omega) hk']
        have : k = xs.length := by omega
        rw [this])
      have hI : ¬ (k : Int) < (xs.length : Int) := by omega
      clear h h' ht
      go_wp2
      go_ret
      exact ⟨ret_bool (by rw [HF.out]; try simp), hqw.out⟩
set_option maxHeartbeats 1000000 in
theorem lessG_d {lo hi : Nat} {W : World} {v : Value} {B : Nat} {ys : Pms} (hB : W.cell? ⟨B, 0, none⟩ = some v) (h : Rd false lo hi W [v] ys) (i j : Nat) (hi' : i < ys.length) (hj : j < ys.length) (hl : ys.length < 4611686018427387904) (r : Bool) (hr : r = lexB ys[i] ys[j]) :
    Calls Try.prog 90 #[.int .i64 i, .int .i64 j, .pointer (some ⟨B, 0, none⟩)] W (PostDr W r) := by
  obtain ⟨ao, n, cap, rfl, hn, -⟩ := h.shape
  subst hn
  obtain ⟨b, off, p, vp, e, hp, cp, hrp, -, -, hb⟩ := h.lists_at hi'
  subst e
  obtain ⟨b2, off2, q, vq, e, hq, cq, hrq, -, -, -⟩ := h.lists_at hj
  simp only [Option.some.injEq, Addr.mk.injEq, and_true] at e
  obtain ⟨rfl, rfl⟩ := e
  have e1 : ys[i] = p := by have := hp.out; rw [List.getElem?_eq_getElem hi'] at this; exact Option.some.inj this
  have e2 : ys[j] = q := by have := hq.out; rw [List.getElem?_eq_getElem hj] at this; exact Option.some.inj this
  rw [e1, e2] at hr
  have HR := Lib.hid hr
  have HP := Lib.hid hrp
  have HQ := Lib.hid hrq
  clear hr hrp hrq h hp hq e1 e2
  go_enter Try.func90, Try.ntmps90
  go_wp2_with fail
  go_quiet (first | (go_at_call 81; exact Calls.quiet_of (lessInts_d (HP.out.below (below_drewN (Below.refl _ _) _)) (HQ.out.below (below_drewN (Below.refl _ _) _)) r HR.out)))
  go_wp2
  go_ret
  exact ⟨rfl, _, rfl⟩

end

/-! ### SortG -/
section
open Go.RowKit Go.Shelf

theorem lexB_wo : Wo lexB where
  irrefl := lexB_self
  trans x y z h1 h2 := by
    cases h3 : lexB x z with
    | true => rfl
    | false =>
      -- x < y, so not y < x; not x < z: so not y < z ..
      have h4 := lexB_asym h1
      -- lexB_trans : lexB b a = false → lexB c b = false → lexB c a = false
      have h5 := lexB_trans (a := z) (b := x) (c := y) h3 h4
      rw [h2] at h5
      cases h5
  ntrans x y z h1 h2 := lexB_trans (a := z) (b := y) (c := x) h2 h1
theorem asc_of {l : Pms} (h : l.Pairwise fun a b => lexB b a = false) : Asc l := h
theorem infoLL : ∃ i, Try.prog.info? 39 = some i ∧ i.desc = .slice 28 := by
  have h : (Try.prog.info? 39).map (·.desc) = some (.slice 28) := by kernel_rfl
  cases hi : Try.prog.info? 39 with
  | none => rw [hi] at h; cases h
  | some i => rw [hi] at h; exact ⟨i, rfl, Option.some.inj h⟩
theorem infoL : ∃ i, Try.prog.info? 28 = some i ∧ i.size = 1 ∧ i.hasPointers = true ∧ i.bytes = 24 := by
  have h : (Try.prog.info? 28).map (fun i => (i.size, i.hasPointers, i.bytes)) = some (1, true, 24) := by kernel_rfl
  cases hi : Try.prog.info? 28 with
  | none => rw [hi] at h; cases h
  | some i =>
    rw [hi] at h
    have h2 := Option.some.inj h
    simp only [Prod.mk.injEq] at h2
    exact ⟨i, rfl, h2.1, h2.2.1, h2.2.2⟩
theorem swapK {n : Nat} {ie : TypeInfo} (hp : ie.hasPointers = true) (hb : ie.bytes = 24) : Lib.swapperK n ie 23 = if n = 0 then 1 else if n = 1 then 2 else 9 := by
  unfold Lib.swapperK
  rw [hp, hb]
  by_cases h0 : n = 0
  · simp [h0]
  · by_cases h1 : n = 1
    · simp [h1]
    · simp [h0, h1]
theorem sortG_any {lo up : Nat} (w : World) (B : Nat) (v : Value) (o : Pms) (hB : w.cell? ⟨B, 0, none⟩ = some v) (hBl : B < w.heap.size) (hBv : some B ≠ v.ownBlock) (hown : Ow lo up w [v] o) (hl : o.length ≤ 1048576) :
    Calls Try.prog 42 #[.iface 39 v, .func (.func 90) #[] #[.pointer (some ⟨B, 0, none⟩)]] w (PostSrt lexB lo up w v.ownBlock.toList v o) := by
  obtain ⟨i, hi, hd⟩ := infoLL
  obtain ⟨ie, hie, hs, hp, hb⟩ := infoL
  obtain ⟨ao, n, cap, rfl, hn, -⟩ := hown.rd.shape
  subst hn
  by_cases h2 : 2 ≤ o.length
  · obtain ⟨blk, off, -, -, rfl, -⟩ := hown.rd.at (i := 0) (by omega)
    have hne : B ≠ blk := fun e => hBv (by rw [e]; rfl)
    have hless : LessOk Try.prog 90 #[.pointer (some ⟨B, 0, none⟩)] lexB w blk (.slice (some ⟨blk, off, none⟩) o.length cap) o := by
      intro W ys hyl _ hsz hk hR i j hi hj
      exact lessG_d (B := B) ((World.cell?_of_block (w := w) (a := ⟨B, 0, none⟩) (hk B hBl hne)).trans hB) hR i j hi hj (by omega) _ rfl
    have hS := sort_many sa6 39 28 i ie hi hd (by kernel_rfl) hie 23 (fun _ => by kernel_rfl) hs (fun _ => by kernel_rfl) lexB lexB_wo 90 #[.pointer (some ⟨B, 0, none⟩)]
      (enters_of Try.func90 (by kernel_rfl) rfl) 112 o.length h2 (by rw [swapK hp hb, if_neg (by omega), if_neg (by omega)]; kernel_rfl) false
      (fun args W => run_callFunc_extern Try.func112 (by kernel_rfl) (by kernel_rfl) (by kernel_rfl) (e := Extern.ReflectliteSwapper.swap false) (by kernel_rfl) args W) rfl w blk off cap o (by omega) hown hless
    exact hS
  · have hS := sort_few (α := List Int) sa6 39 28 i ie hi hd (by kernel_rfl) hie 23 (fun _ => by kernel_rfl) lexB (.func 90) #[] #[.pointer (some ⟨B, 0, none⟩)] (if o.length = 0 then 104 else 105) ao o.length cap (by omega)
      (by
        rw [swapK hp hb]
        by_cases h0 : o.length = 0
        · rw [if_pos h0, if_pos h0]; kernel_rfl
        · rw [if_neg h0, if_neg h0, if_pos (by omega)]; kernel_rfl) w o (Value.slice ao o.length cap).ownBlock.toList hown
    exact hS

end

/-! ### Gx -/
section

def GX {α : Type} [Rep α] (S : Nat → Prop) (w : World) (E : TypeId) (v : Value) (xs : List α) : Prop :=
  ∃ css fps, w.ownsRow 0 E (Rep.sz α) v xs.length css.flatten ∧ Zip (Rep.rep true w) css xs fps ∧ (∀ b ∈ fps.flatten, S b ∧ some b ≠ v.ownBlock) ∧ (∀ g, v.ownBlock = some g → S g) ∧ fps.flatten.Nodup
section
variable {α : Type} [Rep α] {S : Nat → Prop} {w w' : World} {E : TypeId} {v : Value} {xs : List α}
theorem GX.lt (h : GX S w E v xs) {b : Nat} (e : v.ownBlock = some b) : b < w.heap.size ∧ S b := by
  obtain ⟨css, fps, ho, hz, hf, hg, hn⟩ := h
  exact ⟨(ho.lt b e).2, hg b e⟩
theorem GX.keep (h : GX S w E v xs) (k : ∀ b, b < w.heap.size → S b → w'.heap[b]? = w.heap[b]?) : GX S w' E v xs := by
  obtain ⟨css, fps, ho, hz, hf, hg, hn⟩ := h
  refine ⟨css, fps, ⟨ho.1, ?_⟩, hz.keep (fun b hb => k b (hz.lt b hb) (hf b hb).1), hf, hg, hn⟩
  rcases ho.2 with h | ⟨g, cap, cur, rfl, hb, hh, r⟩
  · exact .inl h
  · exact .inr ⟨g, cap, cur, rfl, hb, by rw [k g (ho.lt g rfl).2 (hg g rfl)]; exact hh, r⟩
theorem GX.below (h : GX S w E v xs) (hb : Below w.heap.size w w') : GX S w' E v xs := h.keep fun b hl _ => hb.block b hl
theorem GX.alloc (h : GX S w E v xs) (o : Obj) : GX S (w.alloc o) E v xs := h.below ((Below.refl _ _).alloc (Nat.le_refl _) o)
theorem GX.mono {S' : Nat → Prop} (h : GX S w E v xs) (k : ∀ b, b < w.heap.size → S b → S' b) : GX S' w E v xs := by
  obtain ⟨css, fps, ho, hz, hf, hg, hn⟩ := h
  exact ⟨css, fps, ho, hz, fun b hb => ⟨k b (hz.lt b hb) (hf b hb).1, (hf b hb).2⟩, fun g e => k g (ho.lt g e).2 (hg g e), hn⟩
theorem GX.len (h : GX S w E v xs) : ∃ ao cap, v = .slice ao xs.length cap ∧ xs.length ≤ cap ∧ cap ≤ maxLen := by
  obtain ⟨css, fps, ho, hz, hf, hg, hn⟩ := h
  rcases ho.2 with ⟨rfl, h⟩ | ⟨g, cap, cur, rfl, hbb, hh, h1, h2, r⟩
  · rw [h]; exact ⟨none, 0, rfl, Nat.le_refl _, by simp [maxLen]⟩
  · exact ⟨_, cap, rfl, h1, h2⟩
theorem GX.ow (h : GX S w E v xs) {lo hi : Nat} (k : ∀ b, b < w.heap.size → S b → lo ≤ b ∧ b < hi) : Ow lo hi w [v] xs := by
  obtain ⟨css, fps, ho, hz, hf, hg, hn⟩ := h
  rcases ho.2 with ⟨rfl, h⟩ | ⟨g, cap, cur, rfl, hbb, hh, h3, h4, h5, h6⟩
  · exact ⟨[], ⟨_, rfl, none, 0, 0, rfl, h, Nat.le_refl _, by simp [maxLen], fun _ => rfl, .inl ⟨rfl, rfl⟩⟩, (fun _ h => by cases h), List.nodup_nil⟩
  · refine ⟨g :: fps.flatten, ⟨_, rfl, some ⟨g, 0, none⟩, xs.length, cap, rfl, rfl, h3, h4, (fun h => by cases h), .inr ⟨g, 0, css, fps, rfl, (ho.lt g rfl).2, rfl, hz, ?_, ?_⟩⟩, ?_, List.nodup_cons.2 ⟨fun hm => (hf g hm).2 rfl, hn⟩⟩
    · intro j c hj
      have := ho.cells (g := g) rfl j c hj
      by_cases hj0 : j = 0
      · subst hj0; simpa [Addr.add] using this
      · simpa [Addr.add, hj0] using this
    · intro _ o
      simp [World.frozen?, hh]
    · intro b hb
      rcases List.mem_cons.1 hb with rfl | hb
      · exact k b (ho.lt b rfl).2 (hg b rfl)
      · exact k b (hz.lt b hb) (hf b hb).1
theorem GX.rd (h : GX S w E v xs) : Rd true 0 w.heap.size w [v] xs := (h.ow (lo := 0) (hi := w.heap.size) fun b h1 _ => ⟨Nat.zero_le _, h1⟩).rd
/-- A literal of one item that the call owns. -/
theorem GX.lit1 (S : Nat → Prop) (w : World) (E : TypeId) {u : Value} {y : α} {lo hi : Nat} (hy : Ow lo hi w [u] y) (hS : ∀ b, lo ≤ b → b < hi → S b) (hw : S w.heap.size) : GX S (w.alloc (.cells #[u] E)) E (.slice (some ⟨w.heap.size, 0, none⟩) 1 1) [y] := by
  obtain ⟨fp, h1, h2, h3⟩ := hy
  have hs' : 1 = Rep.sz α := Rep.len h1
  refine ⟨[[u]], [fp], ?_, ⟨Rep.keep h1 fun b hb => Below.heap_alloc w _ b (Rep.lt h1 b hb), trivial⟩, ?_, ?_, by simpa using h3⟩
  · exact ⟨by simp [← hs'], .inr ⟨w.heap.size, 1, #[u], rfl, Nat.zero_le _, heap_alloc_new w _, Nat.le_refl _, by simp [maxLen], by simp [← hs'], by simp [← hs']⟩⟩
  · intro b hb
    have hb2 : b ∈ fp := by simpa using hb
    exact ⟨hS b (h2 b hb2).1 (h2 b hb2).2, by simp [Value.ownBlock]; have := Rep.lt h1 b hb2; omega⟩
  · intro g e
    simp [Value.ownBlock] at e
    subst e; exact hw
end
/-- What a one-cell literal holds. -/
theorem cells_new (w : World) (v : Value) (t : TypeId) : ∀ (j : Nat) (u : Value), [v][j]? = some u → (w.alloc (.cells #[v] t)).cell? ((⟨w.heap.size, 0, none⟩ : Addr).add j) = some u := by
  intro j c hj
  match j, hj with
  | 0, hj => simp at hj; subst hj; simp [Addr.add]
section
variable {P : Program} {α : Type} [Rep α] {S : Nat → Prop} {w : World} {E : TypeId} {v : Value} {xs : List α}
/-- out = append(out, x): x is owned and lies in blocks that the list does not take. -/
theorem wpList_push_x {ops : Array Oper} {rest : List Oper} {o : Oper} {a : Act} {Q : Exit → Act → World → Prop} (hgd : o.guard = none) {s x : Operand} {t : TypeId}
    (ho : o.op = .call { callee := .builtin .append, args := #[s, x], argTypes := #[t, t] })
    {z0 : Value} {bytes : Nat} (hT : SlTy P t E z0 (Rep.sz α) bytes) (hsz : 0 < Rep.sz α) (hs : a.eval s = v)
    {ad : Addr} {c : Nat} (hx : a.eval x = .slice (some ad) 1 c) {cs : List Value} {y : α} {lx hx' : Nat} (hcells : ∀ j u, cs[j]? = some u → w.cell? (ad.add j) = some u)
    {w0 : World} (hG0 : GX S w0 E v xs) (hw0 : w0.heap.size ≤ lx) (hk0 : ∀ b, b < w0.heap.size → S b → w.heap[b]? = w0.heap[b]?)
    (hy : Ow lx hx' w cs y) (hSy : ∀ b, lx ≤ b → b < hx' → S b) (hSw : S w.heap.size) (h63 : xs.length + 1 ≤ maxLen) (hbytes : (xs.length + 1) * bytes ≤ 140737488355328)
    (h : ∀ v' w', GX S w' E v' (xs ++ [y]) → w.grownBy w' v.ownBlock → (v'.ownBlock = v.ownBlock ∨ v'.ownBlock = some w.heap.size) → wpList P ops Q rest (a.put o.dst v') w') : wpList P ops Q (o :: rest) a w := by
  obtain ⟨css, fps, ho1, hz1, hf, hg, hn⟩ := hG0
  obtain ⟨fp, hr, hz, hnd⟩ := hy
  have hown : w.ownsRow 0 E (Rep.sz α) v xs.length css.flatten := by
    refine ⟨ho1.1, ?_⟩
    rcases ho1.2 with h | ⟨g, cap, cur, rfl, hb, hh, r⟩
    · exact .inl h
    · exact .inr ⟨g, cap, cur, rfl, hb, by rw [hk0 g (ho1.lt g rfl).2 (hg g rfl)]; exact hh, r⟩
  have hzw : Zip (Rep.rep true w) css xs fps := hz1.keep fun b hb => hk0 b (hz1.lt b hb) (hf b hb).1
  have hlen : cs.length = 1 * Rep.sz α := by rw [Nat.one_mul]; exact Rep.len hr
  obtain ⟨v', w', hrun, ho', hgr, hv⟩ := run_app (P := P) w (t := t) (ty := o.type) hT hsz hown (ao := some ad) (m := 1) (c := c) hlen (fun h => by cases h) (fun a e => by simp only [Option.some.injEq] at e; subst e; exact hcells) (Rep.one hr) h63 hbytes (Nat.zero_le _)
  have hne1 : ∀ b ∈ fp, some b ≠ v.ownBlock := fun b hb e => by have := (ho1.lt b e.symm).2; have := (hz b hb).1; omega
  have hlt : ∀ b ∈ (fps ++ [fp]).flatten, b < w.heap.size ∧ some b ≠ v.ownBlock ∧ S b := by
    intro b hb
    simp only [List.flatten_append, List.mem_append, List.flatten_cons, List.flatten_nil, List.append_nil] at hb
    rcases hb with hb | hb
    · exact ⟨hzw.lt b hb, (hf b hb).2, (hf b hb).1⟩
    · exact ⟨Rep.lt hr b hb, hne1 b hb, hSy b (hz b hb).1 (hz b hb).2⟩
  refine wpList_plain hgd fun K hK => ?_
  unfold Oper.wp execOp
  simp only [ho, resolve, invoke, builtin, Sem.run_bind, Sem.run_pure, Result.andThen_ok, List.map_toArray, List.map_cons, List.map_nil, hs, hx]
  rw [hrun]
  refine hK _ _ (h v' w' ⟨css ++ [cs], fps ++ [fp], ?_, ?_, fun b hb => ⟨(hlt b hb).2.2, fun e => ?_⟩, fun g e => ?_, ?_⟩ hgr hv)
  · rw [List.length_append, List.flatten_append]; simpa using ho'
  · exact (hzw.snoc hr).keep fun b hb => hgr.block b (hlt b hb).1 (hlt b hb).2.1
  · rcases hv with hv | hv
    · exact (hlt b hb).2.1 (by rw [← hv]; exact e)
    · rw [hv] at e; have := (hlt b hb).1; simp at e; omega
  · rcases hv with hv | hv
    · exact hg g (hv.symm.trans e)
    · rw [hv] at e; simp at e; subst e; exact hSw
  · rw [List.flatten_append]
    refine nodup_app hn (by simpa using hnd) fun x h1 h2 => ?_
    have h2 : x ∈ fp := by simpa using h2
    have := hz1.lt x h1
    have := (hz x h2).1
    omega
end

end

end Go.Proofs.Ytlnhhfebmeekhaa
