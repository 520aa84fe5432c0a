/- Ours: slices that a call itself makes: made whole, grown by append, written item by item. No function of the program is named here. -/
import Derived.Test.YtefbbbhidnnchaaLib
namespace Go.Proofs.Ytefbbbhidnnchaa
set_option linter.unusedVariables false
set_option linter.unusedSimpArgs false
open Go.RowKit

/-- What the program's table says of a slice type t: its items' type, their zero value, their cells, their bytes. -/
structure SlTy (P : Program) (t e : TypeId) (z0 : Value) (size bytes : Nat) : Prop where
  ht : P.underlying t = some (.slice e)
  info : ∃ i, P.info? e = some i ∧ i.zero = some z0 ∧ i.size = size ∧ i.bytes = bytes
  zs : z0.cells.size = size

theorem SlTy.of {P : Program} {t e : TypeId} {z0 : Value} {size bytes : Nat} (ht : P.underlying t = some (.slice e)) (h : (P.info? e).map (fun i => (i.zero, i.size, i.bytes)) = some (some z0, size, bytes)) (zs : z0.cells.size = size) : SlTy P t e z0 size bytes := by
  obtain ⟨i, h1, h2, h3, h4⟩ := info_parts h
  exact SlTy.mk ht ⟨i, h1, h2, h3, h4⟩ zs

section
variable {P : Program} (w : World)
/-- append as the law of the library gives it, and besides: the new row lies where the old one lay, or behind all that was there. -/
theorem run_app {t ty e : TypeId} {z0 : Value} {size bytes : Nat} (hT : SlTy P t e z0 size bytes) (hsz : 0 < size) {lo : Nat}
    {v : Value} {n : Nat} {xs : List Value} (hown : w.ownsRow lo e size v n xs)
    {ao : Option Addr} {m c : Nat} {news : List Value} (hl : news.length = m * size) (hnone : ao = none → m = 0 ∧ c = 0) (hnews : ∀ a, ao = some a → ∀ j u, news[j]? = some u → w.cell? (a.add j) = some u) (h1 : ∀ u ∈ news, u.oneCell' = true)
    (h63 : n + m ≤ maxLen) (hbytes : (n + m) * bytes ≤ 140737488355328) (hlo : lo ≤ w.heap.size) :
    ∃ v' w', (Builtin.append_ #[t, t] ty #[v, .slice ao m c]).run P w = .ok v' w' ∧ w'.ownsRow lo e size v' (n + m) (xs ++ news) ∧ w.grownBy w' v.ownBlock ∧
      (v'.ownBlock = v.ownBlock ∨ v'.ownBlock = some w.heap.size) := by
  obtain ⟨ht, ⟨i, hi, hz, hsize, hby⟩, hzs⟩ := hT
  cases ao with
  | none =>
    obtain ⟨rfl, rfl⟩ := hnone rfl
    have hn : news = [] := List.eq_nil_of_length_eq_zero (by simpa using hl)
    subst hn
    exact ⟨v, w, run_append_owned_none (P := P) (w := w) lo t ty e i size ht hi v n xs hown |>.trans (by simp), by simpa using hown, ⟨rfl, rfl, rfl, Nat.le_refl _, fun _ _ _ => rfl⟩, .inl rfl⟩
  | some a =>
    obtain ⟨v', w', hr, ho, hg, hnil⟩ := run_append_own (P := P) w lo t ty e i z0 size bytes ht hi hz hsize hby hzs hsz v n xs hown a m c news hl (hnews a rfl) h1 h63 hbytes hlo
    refine ⟨v', w', hr, ho, hg, ?_⟩
    have hsmall : n + m ≤ 9223372036854775807 := by simp only [maxLen] at h63; omega
    subst hsize
    subst hby
    rcases hown.2 with ⟨rfl, rfl⟩ | ⟨g, cap, cur, rfl, hbg, hgg, hnc, hcm, hcs, htake⟩
    · by_cases hm : m = 0
      · rw [hnil.2 ⟨rfl, hm⟩]; exact .inl rfl
      · have h2 := run_append_nil (P := P) w t ty e i z0 ht hi hz a m c news hl (hnews a rfl) (by omega) (by omega) (by have hb := hbytes; simp only [Nat.zero_add] at hb; omega)
        rw [hr] at h2
        simp only [Result.ok.injEq] at h2
        rw [h2.1]; exact .inr rfl
    · by_cases hroom : n + m ≤ cap
      · have hfit : n * i.size + news.length ≤ cur.size := by rw [hl, hcs, ← Nat.add_mul]; exact Nat.mul_le_mul_right _ hroom
        have h2 := run_append_room (P := P) w t ty e i ht hi g n cap cur hgg a m c news hl (hnews a rfl) h1 hroom hfit
        rw [hr] at h2
        simp only [Result.ok.injEq] at h2
        rw [h2.1]; exact .inl rfl
      · have holds : ∀ j u, xs[j]? = some u → w.cell? ((⟨g, 0, none⟩ : Addr).add j) = some u := hown.cells (g := g) rfl
        have h2 := run_append_grow (P := P) w t ty e i z0 ht hi hz ⟨g, 0, none⟩ n cap xs hown.1 holds a m c news hl (hnews a rfl) (by omega) (by omega) (growslice_fits (by omega) hbytes)
        rw [hr] at h2
        simp only [Result.ok.injEq] at h2
        rw [h2.1]; exact .inr rfl
end

/-- A slice that the call itself made and appends to: its own row from lo on; the items' memory from lo' on; all of it below hi. nd: the items are owned, too. -/
def GL {α : Type} [Rep α] (nd : Bool) (lo lo' hi : Nat) (w : World) (E : TypeId) (v : Value) (xs : List α) : Prop :=
  ∃ css fps, w.ownsRow lo E (Rep.sz α) v xs.length css.flatten ∧ Zip (Rep.rep nd w) css xs fps ∧ (∀ b ∈ fps.flatten, lo' ≤ b ∧ b < hi ∧ some b ≠ v.ownBlock) ∧ (∀ g, v.ownBlock = some g → g < hi) ∧ (nd = true → fps.flatten.Nodup)

section
variable {α : Type} [Rep α] {nd : Bool} {lo lo' hi : Nat} {w w' : World} {E : TypeId} {v : Value} {xs : List α}

theorem GL.start (nd : Bool) (lo lo' hi : Nat) (w : World) (E : TypeId) : GL (α := α) nd lo lo' hi w E (.slice none 0 0) [] :=
  ⟨[], [], by simpa using World.ownsRow_nil w lo E (Rep.sz α), trivial, by simp, by simp [Value.ownBlock], fun _ => List.nodup_nil⟩

theorem GL.keep (h : GL nd lo lo' hi w E v xs) (k : Zone lo hi w w') (k' : Zone lo' hi w w') : GL nd lo lo' hi w' E v xs := by
  obtain ⟨css, fps, ho, hz, hf, hg, hn⟩ := h
  refine ⟨css, fps, ⟨ho.1, ?_⟩, hz.keep (fun b hb => k' b (hf b hb).1 (hf b hb).2.1), hf, hg, hn⟩
  rcases ho.2 with h | ⟨g, cap, cur, rfl, hb, hh, r⟩
  · exact .inl h
  · exact .inr ⟨g, cap, cur, rfl, hb, by rw [k g hb (hg g rfl)]; exact hh, r⟩

theorem GL.mono {hi' : Nat} (h : GL nd lo lo' hi w E v xs) (k : hi ≤ hi') : GL nd lo lo' hi' w E v xs := by
  obtain ⟨css, fps, ho, hz, hf, hg, hn⟩ := h
  exact ⟨css, fps, ho, hz, fun b hb => ⟨(hf b hb).1, Nat.lt_of_lt_of_le (hf b hb).2.1 k, (hf b hb).2.2⟩, fun g h => Nat.lt_of_lt_of_le (hg g h) k, hn⟩

theorem GL.top (h : GL nd lo lo' hi w E v xs) : GL nd lo lo' w.heap.size w E v xs := by
  obtain ⟨css, fps, ho, hz, hf, hg, hn⟩ := h
  exact ⟨css, fps, ho, hz, fun b hb => ⟨(hf b hb).1, hz.lt b hb, (hf b hb).2.2⟩, fun g h => (ho.lt g h).2, hn⟩

theorem GL.below (h : GL nd lo lo' hi w E v xs) (hb : Below w.heap.size w w') : GL nd lo lo' hi w' E v xs := by
  obtain ⟨css, fps, ho, hz, hf, hg, hn⟩ := h
  refine ⟨css, fps, ⟨ho.1, ?_⟩, hz.keep (fun b hb' => hb.block b (hz.lt b hb')), hf, hg, hn⟩
  rcases ho.2 with h | ⟨g, cap, cur, rfl, hbb, hh, r⟩
  · exact .inl h
  · exact .inr ⟨g, cap, cur, rfl, hbb, by rw [hb.block g (ho.lt g rfl).2]; exact hh, r⟩

theorem GL.alloc (h : GL nd lo lo' hi w E v xs) (o : Obj) : GL nd lo lo' hi (w.alloc o) E v xs := h.below ((Below.refl _ _).alloc (Nat.le_refl _) o)

theorem GL.len (h : GL nd lo lo' hi w E v xs) : ∃ ao cap, v = .slice ao xs.length cap ∧ xs.length ≤ cap ∧ cap ≤ maxLen := by
  obtain ⟨css, fps, ho, hz, hf, hg, hn⟩ := h
  rcases ho.2 with ⟨rfl, h⟩ | ⟨g, cap, cur, rfl, hbb, hh, h1, h2, r⟩
  · rw [h]; exact ⟨none, 0, rfl, Nat.le_refl _, by simp [maxLen]⟩
  · exact ⟨_, cap, rfl, h1, h2⟩

theorem GL.it (h : GL nd lo lo' hi w E v xs) {l0 : Nat} (h1 : l0 ≤ lo) (h2 : l0 ≤ lo') : It nd l0 hi w [v] xs := by
  obtain ⟨css, fps, ho, hz, hf, hg, hn⟩ := h
  rcases ho.2 with ⟨rfl, h⟩ | ⟨g, cap, cur, rfl, hbb, hh, h3, h4, h5, h6⟩
  · exact ⟨[], ⟨_, rfl, none, 0, 0, rfl, h, Nat.le_refl _, by simp [maxLen], fun _ => rfl, .inl ⟨rfl, rfl⟩⟩, (fun _ h => by cases h), fun _ => List.nodup_nil⟩
  · refine ⟨g :: fps.flatten, ⟨_, rfl, some ⟨g, 0, none⟩, xs.length, cap, rfl, rfl, h3, h4, (fun h => by cases h), .inr ⟨g, 0, css, fps, rfl, (ho.lt g rfl).2, rfl, hz, ?_, ?_⟩⟩, ?_, fun hnd => List.nodup_cons.2 ⟨fun hm => (hf g hm).2.2 rfl, hn hnd⟩⟩
    · intro j c hj
      have := ho.cells (g := g) rfl j c hj
      by_cases hj0 : j = 0
      · subst hj0; simpa [Addr.add] using this
      · simpa [Addr.add, hj0] using this
    · intro _ o
      simp [World.frozen?, hh]
    · intro b hb
      rcases List.mem_cons.1 hb with rfl | hb
      · exact ⟨Nat.le_trans h1 hbb, hg b rfl⟩
      · exact ⟨Nat.le_trans h2 (hf b hb).1, (hf b hb).2.1⟩
theorem GL.rd (h : GL nd lo lo' hi w E v xs) {l0 : Nat} (h1 : l0 ≤ lo) (h2 : l0 ≤ lo') : Rd nd l0 hi w [v] xs := (h.it h1 h2).rd
theorem GL.ow (h : GL true lo lo' hi w E v xs) {l0 : Nat} (h1 : l0 ≤ lo) (h2 : l0 ≤ lo') : Ow l0 hi w [v] xs := (h.it h1 h2).ow
end

theorem nodup_app {a b : List Nat} (ha : a.Nodup) (hb : b.Nodup) (h : ∀ x ∈ a, x ∉ b) : (a ++ b).Nodup := by
  rw [List.nodup_append]
  exact ⟨ha, hb, fun x hx y hy e => h x hx (e ▸ hy)⟩

section
variable {P : Program} {α : Type} [Rep α] {nd : Bool} {lo lo' hi : Nat} {w : World} {E : TypeId} {v : Value} {xs : List α}
/-- An append of items whose cells lie at an address. -/
theorem run_push {t ty : TypeId} {z0 : Value} {bytes : Nat} (hT : SlTy P t E z0 (Rep.sz α) bytes) (hsz : 0 < Rep.sz α) (hG : GL nd lo lo' hi w E v xs)
    {ao : Option Addr} {c : Nat} {css' : List (List Value)} {ys : List α} {fps' : List (List Nat)} (hz' : Zip (Rep.rep nd w) css' ys fps')
    (hnone : ao = none → ys.length = 0 ∧ c = 0) (hnews : ∀ a, ao = some a → ∀ j u, css'.flatten[j]? = some u → w.cell? (a.add j) = some u)
    (hd : ∀ b ∈ fps'.flatten, lo' ≤ b ∧ some b ≠ v.ownBlock) (hn' : nd = true → fps'.flatten.Nodup ∧ ∀ b ∈ fps'.flatten, hi ≤ b ∨ b < lo')
    (h63 : xs.length + ys.length ≤ maxLen) (hbytes : (xs.length + ys.length) * bytes ≤ 140737488355328) (hlo : lo ≤ w.heap.size) :
    ∃ v' w', (Builtin.append_ #[t, t] ty #[v, .slice ao ys.length c]).run P w = .ok v' w' ∧ GL nd lo lo' w'.heap.size w' E v' (xs ++ ys) ∧ w.grownBy w' v.ownBlock ∧
      (v'.ownBlock = v.ownBlock ∨ v'.ownBlock = some w.heap.size) ∧ Below lo w w' := by
  obtain ⟨css, fps, ho, hz, hf, hg, hn⟩ := hG
  have hl' : css'.flatten.length = ys.length * Rep.sz α := by rw [length_flat hz'.sizes, hz'.lens.1]
  obtain ⟨v', w', hr, ho', hgr, hv⟩ := run_app (P := P) w (t := t) (ty := ty) hT hsz ho hl' hnone hnews hz'.one h63 hbytes hlo
  have hlt : ∀ b ∈ (fps ++ fps').flatten, b < w.heap.size := by
    intro b hb
    simp only [List.flatten_append, List.mem_append] at hb
    rcases hb with hb | hb
    · exact hz.lt b hb
    · exact hz'.lt b hb
  have hne : ∀ b ∈ (fps ++ fps').flatten, lo' ≤ b ∧ some b ≠ v.ownBlock := by
    intro b hb
    simp only [List.flatten_append, List.mem_append] at hb
    rcases hb with hb | hb
    · exact ⟨(hf b hb).1, (hf b hb).2.2⟩
    · exact hd b hb
  refine ⟨v', w', hr, ⟨css ++ css', fps ++ fps', by rw [List.length_append, List.flatten_append]; exact ho', ?_, fun b hb => ⟨(hne b hb).1, Nat.lt_of_lt_of_le (hlt b hb) hgr.size, ?_⟩, fun g h => (ho'.lt g h).2, fun hnd => ?_⟩, hgr, hv, ?_⟩
  · exact (hz.append hz').keep fun b hb => hgr.block b (hlt b hb) (hne b hb).2
  · intro e
    rcases hv with hv | hv
    · exact (hne b hb).2 (by rw [← hv]; exact e)
    · rw [hv] at e; have := hlt b hb; simp at e; omega
  · rw [List.flatten_append]
    obtain ⟨a1, a2⟩ := hn' hnd
    refine nodup_app (hn hnd) a1 fun x hx hx' => ?_
    have := hf x hx
    have := a2 x hx'
    omega
  · refine (Below.refl lo w).grown hgr hlo fun k hk => (ho.lt k hk).1

/-- out = append(out, x): one item, whose cells lie at an address. -/
theorem wpList_push {ops : Array Oper} {rest : List Oper} {o : Oper} {a : Act} {Q : Exit → Act → World → Prop} (hgd : o.guard = none) {s x : Operand} {t : TypeId}
    (ho : o.op = .call { callee := .builtin .append, args := #[s, x], argTypes := #[t, t] })
    {z0 : Value} {bytes : Nat} (hT : SlTy P t E z0 (Rep.sz α) bytes) (hsz : 0 < Rep.sz α) (hG : GL nd lo lo' hi w E v xs) (hs : a.eval s = v)
    {ad : Addr} {c : Nat} (hx : a.eval x = .slice (some ad) 1 c) {cs : List Value} {y : α} {lx hx' : Nat} (hcells : ∀ j u, cs[j]? = some u → w.cell? (ad.add j) = some u)
    (hy : It nd lx hx' w cs y) (hl : lo' ≤ lx) (hd : hi ≤ lx ∨ (hx' ≤ lo ∧ (nd = true → hx' ≤ lo'))) (h63 : xs.length + 1 ≤ maxLen) (hbytes : (xs.length + 1) * bytes ≤ 140737488355328) (hlo : lo ≤ w.heap.size)
    (h : ∀ v' w', GL nd lo lo' w'.heap.size w' E v' (xs ++ [y]) → w.grownBy w' v.ownBlock → Below lo w w' → wpList P ops Q rest (a.put o.dst v') w') : wpList P ops Q (o :: rest) a w := by
  obtain ⟨fp, hr, hz, hn⟩ := hy
  have hG' := hG
  obtain ⟨css, fps, hown, _, hf, hg, _⟩ := hG'
  obtain ⟨v', w', hrun, h2, h3, _, h5⟩ := run_push (P := P) (t := t) (ty := o.type) hT hsz hG (ao := some ad) (c := c) (css' := [cs]) (ys := [y]) (fps' := [fp]) ⟨hr, trivial⟩ (fun h => by cases h)
    (fun a e => by simp only [Option.some.injEq] at e; subst e; simpa using hcells)
    (fun b hb => by
      have hb' : b ∈ fp := by simpa using hb
      refine ⟨Nat.le_trans hl (hz b hb').1, fun e => ?_⟩
      have h1 := hg b e.symm
      have h2 := (hown.lt b e.symm).1
      have h3 := hz b hb'
      omega)
    (fun hnd => ⟨by simpa using hn hnd, fun b hb => by
      have hb' : b ∈ fp := by simpa using hb
      have h3 := hz b hb'
      rcases hd with hd | ⟨_, hd⟩
      · left; omega
      · right; have := hd hnd; omega⟩) (by simpa using h63) (by simpa using hbytes) hlo
  refine wpList_plain hgd fun K hK => ?_
  unfold Oper.wp execOp
  simp only [ho, resolve, invoke, builtin, Sem.run_bind, Sem.run_pure, Result.andThen_ok, List.map_toArray, List.map_cons, List.map_nil, hs, hx]
  simp only [List.length_cons, List.length_nil, Nat.zero_add] at hrun
  rw [hrun]
  exact hK _ _ (h v' w' h2 h3 h5)

end
theorem made_flat (z : List Value) (n : Nat) : (madeCells z.toArray (n * z.length)).toList = (List.replicate n z).flatten := by
  apply List.ext_getElem?
  intro i
  have hlen : ∀ d ∈ List.replicate n z, d.length = z.length := fun d hd => by rw [(List.mem_replicate.1 hd).2]
  by_cases h : i < n * z.length
  · have hz : 0 < z.length := by
      rcases Nat.eq_zero_or_pos z.length with h0 | h0
      · rw [h0] at h; simp at h
      · exact h0
    have hq : i / z.length < n := (Nat.div_lt_iff_lt_mul hz).2 h
    have hr : i % z.length < z.length := Nat.mod_lt _ hz
    have e : i = (i / z.length) * z.length + i % z.length := by rw [Nat.mul_comm]; exact (Nat.div_add_mod i z.length).symm
    have hat := cellsAt_flat (css := List.replicate n z) (i := i / z.length) (c := z) hlen (by simp [hq]) (i % z.length) hr
    rw [← e] at hat
    rw [hat]
    simp [madeCells, h, hr]
  · have h1 : (List.replicate n z).flatten.length = n * z.length := by rw [length_flat hlen, List.length_replicate]
    rw [List.getElem?_eq_none (l := (madeCells z.toArray (n * z.length)).toList) (by simp [madeCells]; omega), List.getElem?_eq_none (by rw [h1]; omega)]

theorem zip_replicate {α : Type} [Rep α] {z : Bool} {w : World} {c : List Value} {y : α} (h : Rep.rep z w c y []) : ∀ n, Zip (Rep.rep z w) (List.replicate n c) (List.replicate n y) (List.replicate n [])
  | 0 => trivial
  | n + 1 => ⟨h, zip_replicate h n⟩

theorem flatten_nils (n : Nat) : (List.replicate n ([] : List Nat)).flatten = [] := by simp

/-- make([]T, n), n items of one zero value. -/
theorem wpList_mk {P : Program} {α : Type} [Rep α] {w : World} {ops : Array Oper} {rest : List Oper} {o : Oper} {a : Act} {Q : Exit → Act → World → Prop} (hgd : o.guard = none) {l c : Operand} {t E : TypeId}
    (ho : o.op = .makeSlice t l c) {z0 : Value} {bytes : Nat} (hT : SlTy P t E z0 (Rep.sz α) bytes) {y0 : α} (hy0 : ∀ w, Rep.rep true w z0.cells.toList y0 [])
    {kl kc : IntKind} {L : Int} {C : Int} {n : Nat} (hl : a.eval l = .int kl L) (hc : a.eval c = .int kc C) (hL : L = n) (hC : C = n) (hbytes : bytes * n ≤ 281474976710656) (h63 : n ≤ maxLen)
    (h : ∀ w', Ow w.heap.size (w.heap.size + 1) w' [.slice (some ⟨w.heap.size, 0, none⟩) n n] (List.replicate n y0) → Below w.heap.size w w' → w.heap.size < w'.heap.size → wpList P ops Q rest (a.put o.dst (.slice (some ⟨w.heap.size, 0, none⟩) n n)) w') : wpList P ops Q (o :: rest) a w := by
  obtain ⟨ht, ⟨i, hi, hz, hsize, hby⟩, hzs⟩ := hT
  refine wpList_make_full w hgd l c t ho w.heap.size E i z0 (Rep.sz α) ht hi hz hsize kl kc L C n hl hc hL hC (by rw [hby]; exact hbytes) h63 (Nat.le_refl _) fun w' hown hg => ?_
  have hlen : z0.cells.toList.length = Rep.sz α := by simpa using hzs
  have hfl : (madeCells z0.cells (n * Rep.sz α)).toList = (List.replicate n z0.cells.toList).flatten := by
    have := made_flat z0.cells.toList n
    rw [hlen] at this
    simpa using this
  rw [hfl] at hown
  have hlt := (hown.lt w.heap.size rfl).2
  refine h w' ?_ ((Below.refl _ _).grown hg (Nat.le_refl _) (fun k hk => by cases hk)) hlt
  rcases hown.2 with ⟨hv, _⟩ | ⟨g, cap, cur, hv, hb, hh, _⟩
  · cases hv
  · simp only [Value.slice.injEq, Option.some.injEq, Addr.mk.injEq, and_true, true_and] at hv
    obtain ⟨rfl, rfl⟩ := hv
    refine ⟨[w.heap.size], ⟨_, rfl, _, n, n, rfl, by simp, Nat.le_refl _, h63, (fun h => by cases h), .inr ⟨w.heap.size, 0, _, List.replicate n [], rfl, hlt, by simp, zip_replicate (hy0 w') n, ?_, ?_⟩⟩, ?_, by simp⟩
    · intro j c hj
      have := hown.cells (g := w.heap.size) rfl j c hj
      by_cases hj0 : j = 0
      · subst hj0; simpa [Addr.add] using this
      · simpa [Addr.add, hj0] using this
    · intro _ o
      simp [World.frozen?, hh]
    · intro b hb
      have : b = w.heap.size := by simpa using hb
      omega

/-! ### writing in place: items without references -/
theorem flat_set {s : Nat} : ∀ {css : List (List Value)} {i j : Nat} {c : List Value} {u : Value}, (∀ d ∈ css, d.length = s) → css[i]? = some c → j < s → css.flatten.set (i * s + j) u = (css.set i (c.set j u)).flatten
  | [], i, _, c, _, _, h, _ => by simp at h
  | d :: css, 0, j, c, u, hl, h, hj => by
    simp at h; subst h
    have := hl d (by simp)
    simp only [List.flatten_cons, Nat.zero_mul, Nat.zero_add, List.set_cons_zero]
    rw [List.set_append_left _ _ (by omega)]
  | d :: css, i + 1, j, c, u, hl, h, hj => by
    have h2 := hl d (by simp)
    have ih := flat_set (css := css) (i := i) (j := j) (c := c) (u := u) (fun d hd => hl d (by simp [hd])) (by simpa using h) hj
    simp only [List.flatten_cons, List.set_cons_succ]
    rw [List.set_append_right _ _ (by rw [Nat.add_mul]; omega), ← ih]
    congr 2
    rw [Nat.add_mul]; omega

theorem flats {α : Type} [FlatRep α] {z : Bool} {w : World} : ∀ {cs : List (List Value)} {xs : List α} {fs : List (List Nat)}, Zip (Rep.rep z w) cs xs fs → fs.flatten = [] ∧ ∀ z' w', Zip (Rep.rep z' w') cs xs fs
  | [], [], [], _ => ⟨rfl, fun _ _ => trivial⟩
  | c :: cs, x :: xs, f :: fs, h => by
    obtain ⟨h1, h2⟩ := flats h.2
    obtain ⟨rfl, h4⟩ := FlatRep.flat h.1
    exact ⟨by simpa using h1, fun z' w' => ⟨h4 z' w', h2 z' w'⟩⟩
  | [], [], _ :: _, h => h.elim
  | [], _ :: _, _, h => h.elim
  | _ :: _, [], _, h => h.elim
  | _ :: _, _ :: _, [], h => h.elim

theorem cell_setCell (w : World) (b o o' : Nat) (u : Value) (c : Value) (h : w.cell? ⟨b, o', none⟩ = some c) : (w.setCell ⟨b, o, none⟩ u).cell? ⟨b, o', none⟩ = some (if o = o' then u else c) := by
  unfold World.cell? World.setCell at *
  simp only [Array.getElem?_modify, if_true] at *
  cases hh : w.heap[b]? with
  | none => rw [hh] at h; simp at h
  | some ob =>
    rw [hh] at h
    cases ob with
    | cells cc e fr =>
      simp at h ⊢
      rw [Array.getElem?_setIfInBounds]
      obtain ⟨hlt, he⟩ := Array.getElem?_eq_some_iff.1 h
      by_cases ho : o = o'
      · subst ho; simp [hlt]
      · simp [ho, h]
    | _ => simp at h

theorem frozen_setCell (w : World) (b o o' : Nat) (u : Value) (h : w.frozen? ⟨b, o', none⟩ = false) : (w.setCell ⟨b, o, none⟩ u).frozen? ⟨b, o', none⟩ = false := by
  unfold World.frozen? World.setCell at *
  simp only [Array.getElem?_modify, if_true] at *
  cases hh : w.heap[b]? with
  | none => simp
  | some ob =>
    rw [hh] at h
    cases ob <;> simp_all

/-- A store into cell j of item i. -/
theorem rep_setc {α : Type} [FlatRep α] {w : World} {b off n cap : Nat} {xs : List α} {fp : List Nat} (h : Rep.rep true w [.slice (some ⟨b, off, none⟩) n cap] xs fp) {i j : Nat} {x y : α} {cs : List Value} {u : Value} {fp' : List Nat} {w' : World}
    (hx : xs[i]? = some x) (hcs : Rep.rep true w cs x []) (hj : j < Rep.sz α) (hy : Rep.rep true w' (cs.set j u) y fp') :
    Rep.rep true (w.setCell ⟨b, off + (i * Rep.sz α + j), none⟩ u) [.slice (some ⟨b, off, none⟩) n cap] (xs.set i y) fp := by
  obtain ⟨v1, hv1, ao, n', cap', rfl, e1, e2, e3, e4, hr⟩ := h
  simp at hv1; obtain ⟨rfl, rfl, rfl⟩ := hv1
  refine ⟨_, rfl, _, _, _, rfl, by simpa using e1, e2, e3, e4, ?_⟩
  rcases hr with hr | ⟨b', off', css, fps, hb', hb, rfl, hzip, hc, hf⟩
  · exact .inl hr
  · simp only [Option.some.injEq, Addr.mk.injEq, and_true] at hb'
    obtain ⟨rfl, rfl⟩ := hb'
    obtain ⟨c, f, q1, q2, q3⟩ := hzip.get hx
    obtain rfl := FlatRep.det q3 hcs
    obtain ⟨hfl, hall⟩ := flats hzip
    have hi' : i < xs.length := (List.getElem?_eq_some_iff.1 hx).1
    have hset : css.flatten.set (i * Rep.sz α + j) u = (css.set i (c.set j u)).flatten := flat_set hzip.sizes q1 hj
    have hzs := (hall true (w.setCell ⟨b, off + (i * Rep.sz α + j), none⟩ u)).set (i := i) (c := c.set j u) (x := y) (f := []) ((FlatRep.flat hy).2 _ _) hi'
    refine .inr ⟨b, off, _, _, rfl, by simpa using hb, ?_, hzs, ?_, fun h o => frozen_setCell _ _ _ _ _ (hf h o)⟩
    · rw [(flats hzs).1, hfl]
    · intro k d hk
      rw [← hset] at hk
      have hk' : k < css.flatten.length := by have := (List.getElem?_eq_some_iff.1 hk).1; simpa using this
      have hold := hc k css.flatten[k] (List.getElem?_eq_getElem hk')
      rw [cell_setCell _ _ _ _ _ _ hold]
      rw [List.getElem?_set] at hk
      by_cases hkk : i * Rep.sz α + j = k
      · subst hkk
        rw [if_pos rfl] at hk
        rw [if_pos (by simpa using hk')] at hk
        simp at hk; subst hk; simp
      · rw [if_neg hkk, List.getElem?_eq_getElem hk'] at hk
        rw [if_neg (by omega)]; exact hk
theorem Ow.setc {α : Type} [FlatRep α] {lo hi : Nat} {w : World} {b off n cap : Nat} {xs : List α} (h : Ow lo hi w [.slice (some ⟨b, off, none⟩) n cap] xs) {i j : Nat} {x y : α} {cs : List Value} {u : Value} {fp' : List Nat} {w' : World}
    (hx : xs[i]? = some x) (hcs : Rep.rep true w cs x []) (hj : j < Rep.sz α) (hy : Rep.rep true w' (cs.set j u) y fp') :
    Ow lo hi (w.setCell ⟨b, off + (i * Rep.sz α + j), none⟩ u) [.slice (some ⟨b, off, none⟩) n cap] (xs.set i y) := by
  obtain ⟨fp, h1, h2, h3⟩ := h
  exact ⟨fp, rep_setc h1 hx hcs hj hy, h2, h3⟩

/-- Item i, its footprint named. -/
theorem rep_at {α : Type} [Rep α] {z : Bool} {w : World} {ao : Option Addr} {n cap : Nat} {xs : List α} {fp : List Nat} (h : Rep.rep z w [.slice ao n cap] xs fp) {i : Nat} (hi' : i < n) :
    ∃ b off x cs f, ao = some ⟨b, off, none⟩ ∧ Hid (xs[i]? = some x) ∧ Rep.rep z w cs x f ∧ cs.length = Rep.sz α ∧ b ∈ fp ∧ (∀ k ∈ f, k ∈ fp) ∧ b < w.heap.size ∧
      (∀ j c, cs[j]? = some c → w.cell? ⟨b, off + (i * Rep.sz α + j), none⟩ = some c) ∧ (z = true → ∀ o, w.frozen? ⟨b, o, none⟩ = false) := by
  obtain ⟨v', hv, ao', n', cap', rfl, h1, h2, h3, h4, h⟩ := h
  simp at hv; obtain ⟨rfl, rfl, rfl⟩ := hv
  rcases h with ⟨rfl, _⟩ | ⟨b, off, css, fps, rfl, hb, rfl, hzip, hc, hf⟩
  · omega
  · have hx : xs[i]? = some xs[i] := List.getElem?_eq_getElem (by omega)
    obtain ⟨cs, f, e1, e2, r⟩ := hzip.get hx
    refine ⟨b, off, xs[i], cs, f, rfl, hx, r, Rep.len r, by simp, fun k hk => ?_, hb, fun j c hj => hc _ c ?_, hf⟩
    · simp only [List.mem_cons, List.mem_flatten]; exact .inr ⟨f, List.mem_of_getElem? e2, hk⟩
    · rw [cellsAt_flat hzip.sizes e1 j (by rw [← Rep.len r]; exact (List.getElem?_eq_some_iff.1 hj).1)]; exact hj
theorem rep_int_at {z : Bool} {w : World} {ao : Option Addr} {n cap : Nat} {xs : List Int} {fp : List Nat} (h : Rep.rep z w [.slice ao n cap] xs fp) {i : Nat} (hi' : i < n) :
    ∃ b off x, ao = some ⟨b, off, none⟩ ∧ Hid (xs[i]? = some x) ∧ w.cell? ⟨b, off + i, none⟩ = some (.int .i64 x) ∧ -9223372036854775808 ≤ x ∧ x ≤ 9223372036854775807 ∧ Hid (b ∈ fp) ∧ b < w.heap.size ∧ (z = true → ∀ o, w.frozen? ⟨b, o, none⟩ = false) := by
  obtain ⟨b, off, x, cs, f, e, hx, ⟨rfl, hr, _⟩, _, h1, h2, h3, hc, hf⟩ := rep_at h hi'
  exact ⟨b, off, x, e, hx, by have := hc 0 (.int .i64 x) rfl; simpa [Rep.sz] using this, hr.1, hr.2, h1, h3, hf⟩
theorem rep_int_set {w : World} {b off n cap : Nat} {xs : List Int} {fp : List Nat} (h : Rep.rep true w [.slice (some ⟨b, off, none⟩) n cap] xs fp) {i : Nat} {x y : Int} (hx : xs[i]? = some x) (hb : I64 x) (hy : I64 y) :
    Rep.rep true (w.setCell ⟨b, off + i, none⟩ (.int .i64 y)) [.slice (some ⟨b, off, none⟩) n cap] (xs.set i y) fp := by
  have := rep_setc h (i := i) (j := 0) (x := x) (y := y) (cs := [.int .i64 x]) (u := .int .i64 y) (fp' := []) (w' := w) hx ⟨rfl, hb, rfl⟩ (by show (0 : Nat) < 1; omega) ⟨rfl, hy, rfl⟩
  simpa [Rep.sz] using this

/-- Nothing has turned but these blocks. -/
structure OffF (fp : List Nat) (w w' : World) : Prop where
  os : w'.os = w.os
  tape : w'.tape = w.tape
  output : w'.output = w.output
  size : w.heap.size ≤ w'.heap.size
  block : ∀ b, b < w.heap.size → b ∉ fp → w'.heap[b]? = w.heap[b]?
theorem OffF.refl (fp : List Nat) (w : World) : OffF fp w w := ⟨rfl, rfl, rfl, Nat.le_refl _, fun _ _ _ => rfl⟩
theorem OffF.trans {fp : List Nat} {a b c : World} (h : OffF fp a b) (k : OffF fp b c) : OffF fp a c :=
  ⟨k.os.trans h.os, k.tape.trans h.tape, k.output.trans h.output, Nat.le_trans h.size k.size, fun i hi hn => (k.block i (Nat.lt_of_lt_of_le hi h.size) hn).trans (h.block i hi hn)⟩
theorem OffF.mono {fp fp' : List Nat} {a b : World} (h : OffF fp a b) (k : ∀ i ∈ fp, i ∈ fp') : OffF fp' a b :=
  ⟨h.os, h.tape, h.output, h.size, fun i hi hn => h.block i hi (fun hm => hn (k i hm))⟩
theorem OffF.setCell {fp : List Nat} {a w : World} (h : OffF fp a w) {p : Addr} (hp : p.block ∈ fp) (u : Value) : OffF fp a (w.setCell p u) :=
  h.trans ⟨rfl, rfl, rfl, by simp [World.setCell], fun i _ hn => Below.heap_setCell _ _ _ _ (fun e => hn (e ▸ hp))⟩
theorem OffF.alloc {fp : List Nat} {a w : World} (h : OffF fp a w) (o : Obj) : OffF fp a (w.alloc o) := h.trans ⟨rfl, rfl, rfl, by simp, fun b hb _ => Below.heap_alloc _ _ _ hb⟩
theorem OffF.drew {fp : List Nat} {a w : World} (h : OffF fp a w) : OffF fp a w.drew := ⟨h.os, h.tape, h.output, h.size, h.block⟩
theorem OffF.below {fp : List Nat} {a w w' : World} (h : OffF fp a w) (k : Below w.heap.size w w') : OffF fp a w' :=
  h.trans ⟨k.os, k.tape, k.output, k.size, fun i hi _ => k.block i hi⟩
theorem OffF.toBelow {fp : List Nat} {a w : World} (h : OffF fp a w) {B : Nat} (hB : B ≤ a.heap.size) (k : ∀ b ∈ fp, B ≤ b) : Below B a w :=
  ⟨h.os, h.tape, h.output, h.size, fun i hi => h.block i (by omega) (fun hm => by have := k i hm; omega)⟩
theorem OffF.zone {fp : List Nat} {a w : World} (h : OffF fp a w) {l u : Nat} (hu : u ≤ a.heap.size) {lo hi : Nat} (hz : InZ lo hi fp) (k : hi ≤ l ∨ u ≤ lo) : Zone l u a w :=
  fun i h1 h2 => h.block i (by omega) (fun hm => by have := hz i hm; omega)

theorem offc {fp : List Nat} {w w' : World} (ho : OffF fp w w') {lo hi : Nat} (hz : InZ lo hi fp) {b o : Nat} (h : b < lo ∨ hi ≤ b) (hl : b < w.heap.size) {v : Value} (hv : w.cell? ⟨b, o, none⟩ = some v) : w'.cell? ⟨b, o, none⟩ = some v :=
  (World.cell?_of_block (a := ⟨b, o, none⟩) (ho.block b hl (fun hm => by have := hz b hm; omega))).trans hv
theorem Ow.int_at0 {lo hi : Nat} {w : World} {xs : List Int} {g n cap : Nat} (h : Ow lo hi w [.slice (some ⟨g, 0, none⟩) n cap] xs) {i : Nat} (hi' : i < n) :
    ∃ x, Hid (xs[i]? = some x) ∧ w.cell? ⟨g, i, none⟩ = some (.int .i64 x) ∧ -9223372036854775808 ≤ x ∧ x ≤ 9223372036854775807 ∧ w.frozen? ⟨g, i, none⟩ = false ∧ lo ≤ g ∧ g < hi ∧ g < w.heap.size := by
  obtain ⟨b, off, x, e, hx, hc, h1, h2, h3, h4, h5, hf⟩ := h.rd.int_at hi'
  simp only [Option.some.injEq, Addr.mk.injEq, and_true] at e
  obtain ⟨rfl, rfl⟩ := e
  exact ⟨x, hx, by simpa using hc, h1, h2, hf rfl _, h3, h4, h5⟩
theorem Ow.int_set0 {lo hi : Nat} {w : World} {xs : List Int} {g n cap : Nat} (h : Ow lo hi w [.slice (some ⟨g, 0, none⟩) n cap] xs) {i : Nat} (hi' : i < n) {y : Int} (hy : I64 y) :
    Ow lo hi (w.setCell ⟨g, i, none⟩ (.int .i64 y)) [.slice (some ⟨g, 0, none⟩) n cap] (xs.set i y) := by
  obtain ⟨x, hx, hc, h1, h2, _⟩ := h.int_at0 hi'
  have := h.setc (i := i) (j := 0) (x := x) (y := y) (cs := [.int .i64 x]) (u := .int .i64 y) (fp' := []) (w' := w) hx ⟨rfl, ⟨h1, h2⟩, rfl⟩ (by show (0 : Nat) < 1; omega) ⟨rfl, hy, rfl⟩
  simpa [Rep.sz] using this
theorem Ow.bool_at0 {lo hi : Nat} {w : World} {xs : List Bool} {g n cap : Nat} (h : Ow lo hi w [.slice (some ⟨g, 0, none⟩) n cap] xs) {i : Nat} (hi' : i < n) :
    ∃ x, Hid (xs[i]? = some x) ∧ w.cell? ⟨g, i, none⟩ = some (.bool x) ∧ w.frozen? ⟨g, i, none⟩ = false ∧ lo ≤ g ∧ g < hi ∧ g < w.heap.size := by
  obtain ⟨b, off, x, e, hx, hc, h3, h4, h5, hf⟩ := h.rd.bool_at hi'
  simp only [Option.some.injEq, Addr.mk.injEq, and_true] at e
  obtain ⟨rfl, rfl⟩ := e
  exact ⟨x, hx, by simpa using hc, hf rfl _, h3, h4, h5⟩
theorem Ow.bool_set0 {lo hi : Nat} {w : World} {xs : List Bool} {g n cap : Nat} (h : Ow lo hi w [.slice (some ⟨g, 0, none⟩) n cap] xs) {i : Nat} (hi' : i < n) (y : Bool) :
    Ow lo hi (w.setCell ⟨g, i, none⟩ (.bool y)) [.slice (some ⟨g, 0, none⟩) n cap] (xs.set i y) := by
  obtain ⟨x, hx, hc, _⟩ := h.bool_at0 hi'
  have := h.setc (i := i) (j := 0) (x := x) (y := y) (cs := [.bool x]) (u := .bool y) (fp' := []) (w' := w) hx ⟨rfl, rfl⟩ (by show (0 : Nat) < 1; omega) ⟨rfl, rfl⟩
  simpa [Rep.sz] using this
end Go.Proofs.Ytefbbbhidnnchaa
