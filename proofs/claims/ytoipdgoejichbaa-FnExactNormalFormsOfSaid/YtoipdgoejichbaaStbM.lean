/- Texts laid one behind the other (merge.py): Grp, Rds, Sort, SortK, InsK, StbP, Stb, Sym, Stf, StbL, StbO, StbE. -/
import Derived.Test.YtoipdgoejichbaaBase
import Derived.Shelf.GgSortFunc.Whole
import Derived.Shelf.GgSortFunc.Tiny
import Derived.Shelf.SlSortFuncK.WholeK
import Derived.Test.YtoipdgoejichbaaProg
import Derived.Test.YtoipdgoejichbaaShfT
import Derived.Shelf.GgSortMore.Stable
namespace Go.Proofs.Ytoipdgoejichbaa
set_option linter.unusedVariables false
set_option linter.unusedSimpArgs false
open Go.RowKit

/-! ### Grp -/
section

abbrev Pms := List (List Int)
def gAdd (o : Pms) (p : List Int) : Pms := if p ∈ o then o else o ++ [p]
def gRound (c : Cls) (o : Pms) (q : List Int) : Pms := gAdd (gAdd o (comp q c.1)) (comp q c.2)
/-- From the place i on: all that are met; none if they are more than so many. -/
def gLoop (c : Cls) (most : Nat) : Nat → Nat → Pms → Option Pms
  | 0, _, _ => none
  | f + 1, i, o => match o[i]? with
    | some q => if most < (gRound c o q).length then none else gLoop c most f (i + 1) (gRound c o q)
    | none => some o
/-- A list in its place. -/
def lins (p : List Int) : Pms → Pms
  | [] => [p]
  | q :: l => if lexB p q = true then p :: q :: l else q :: lins p l
def lsrt (o : Pms) : Pms := o.foldl (fun s p => lins p s) []
theorem gLoop_none {c : Cls} {most f i : Nat} {o : Pms} (h : o[i]? = none) : gLoop c most (f + 1) i o = some o := by rw [gLoop, h]
theorem gLoop_big {c : Cls} {most f i : Nat} {o : Pms} {q : List Int} (h : o[i]? = some q) (hb : most < (gRound c o q).length) : gLoop c most (f + 1) i o = none := by rw [gLoop, h]; exact if_pos hb
theorem gLoop_go {c : Cls} {most f i : Nat} {o : Pms} {q : List Int} (h : o[i]? = some q) (hb : ¬ most < (gRound c o q).length) : gLoop c most (f + 1) i o = gLoop c most f (i + 1) (gRound c o q) := by rw [gLoop, h]; exact if_neg hb
theorem lins_perm (p : List Int) : ∀ l : Pms, (lins p l).Perm (p :: l)
  | [] => List.Perm.refl _
  | q :: l => by
    rw [lins]
    split
    · exact List.Perm.refl _
    · exact ((lins_perm p l).cons q).trans (List.Perm.swap p q l)
theorem lsrt_snoc (o : Pms) (p : List Int) : lsrt (o ++ [p]) = lins p (lsrt o) := by unfold lsrt; rw [List.foldl_append]; rfl
theorem foldl_lins_perm : ∀ (o s : Pms), (o.foldl (fun s p => lins p s) s).Perm (o ++ s)
  | [], s => List.Perm.refl _
  | p :: o, s => by
    refine (foldl_lins_perm o (lins p s)).trans ?_
    refine ((List.Perm.append_left o (lins_perm p s))).trans ?_
    exact List.perm_middle
theorem lsrt_perm (o : Pms) : (lsrt o).Perm o := by
  have := foldl_lins_perm o []
  rw [List.append_nil] at this
  exact this
theorem lsrt_mem {o : Pms} {p : List Int} : p ∈ lsrt o ↔ p ∈ o := (lsrt_perm o).mem_iff
theorem lsrt_len (o : Pms) : (lsrt o).length = o.length := (lsrt_perm o).length_eq
/-- Ascending: nothing lies ahead of what is less. -/
def Asc (l : Pms) : Prop := l.Pairwise fun a b => lexB b a = false
theorem lexB_trans : ∀ {a b c : List Int}, lexB b a = false → lexB c b = false → lexB c a = false
  | a, [], c, h1, h2 => by
    cases a with
    | nil => cases c with | nil => rfl | cons z zs => simp [lexB]
    | cons x xs => simp [lexB] at h1
  | a, y :: ys, [], h1, h2 => by simp [lexB] at h2
  | [], y :: ys, z :: zs, h1, h2 => by simp [lexB]
  | x :: xs, y :: ys, z :: zs, h1, h2 => by
    rw [lexB] at h1 h2 ⊢
    by_cases e1 : y = x
    · subst e1
      rw [if_pos rfl] at h1
      by_cases e2 : z = y
      · subst e2
        rw [if_pos rfl] at h2 ⊢
        exact lexB_trans h1 h2
      · rw [if_neg e2] at h2 ⊢; exact h2
    · rw [if_neg e1] at h1
      by_cases e2 : z = y
      · subst e2
        rw [if_neg e1]; exact h1
      · rw [if_neg e2] at h2
        have h3 : ¬ y < x := by simpa using h1
        have h4 : ¬ z < y := by simpa using h2
        rw [if_neg (show ¬ z = x by omega)]
        simp; omega
theorem lexB_asym {a b : List Int} (h : lexB a b = true) : lexB b a = false := by
  cases h2 : lexB b a with
  | false => rfl
  | true =>
    have := lexB_self a
    cases h3 : lexB a b with
    | false => rw [h3] at h; cases h
    | true =>
      -- a < b < a
      exact absurd (lexB_cyc a b h h2) (by simp)
where
  lexB_cyc : ∀ a b : List Int, lexB a b = true → lexB b a = true → False
    | [], [], h, _ => by simp [lexB] at h
    | [], _ :: _, _, h => by simp [lexB] at h
    | _ :: _, [], h, _ => by simp [lexB] at h
    | x :: xs, y :: ys, h, h' => by
      rw [lexB] at h h'
      by_cases e : x = y
      · subst e
        rw [if_pos rfl] at h h'
        exact lexB_cyc xs ys h h'
      · rw [if_neg e] at h
        rw [if_neg (Ne.symm e)] at h'
        simp at h h'; omega
theorem lins_asc {p : List Int} : ∀ {l : Pms}, Asc l → Asc (lins p l)
  | [], _ => by simp [lins, Asc]
  | q :: l, h => by
    unfold Asc at h ⊢
    rw [List.pairwise_cons] at h
    rw [lins]
    split
    · rename_i hp
      rw [List.pairwise_cons]
      refine ⟨fun x hx => ?_, List.pairwise_cons.2 h⟩
      rcases List.mem_cons.1 hx with rfl | hx
      · exact lexB_asym hp
      · exact lexB_trans (lexB_asym hp) (h.1 x hx)
    · rename_i hp
      rw [List.pairwise_cons]
      refine ⟨fun x hx => ?_, lins_asc h.2⟩
      have := (lins_perm p l).mem_iff.1 hx
      rcases List.mem_cons.1 this with rfl | hx
      · simpa using hp
      · exact h.1 x hx
theorem foldl_lins_asc : ∀ (o s : Pms), Asc s → Asc (o.foldl (fun s p => lins p s) s)
  | [], _, h => h
  | p :: o, s, h => foldl_lins_asc o _ (lins_asc h)
theorem lsrt_asc (o : Pms) : Asc (lsrt o) := foldl_lins_asc o [] List.Pairwise.nil
/-- Two ascending lists of the same members are one. -/
theorem asc_eq : ∀ {a b : Pms}, a.Perm b → Asc a → Asc b → a = b
  | [], b, h, _, _ => (List.Perm.nil_eq h)
  | x :: a, [], h, _, _ => absurd h.symm (by simp)
  | x :: a, y :: b, h, ha, hb => by
    unfold Asc at ha hb
    rw [List.pairwise_cons] at ha hb
    have hxy : x = y := by
      by_cases e : x = y
      · exact e
      · have hx : x ∈ y :: b := h.mem_iff.1 (by simp)
        have hy : y ∈ x :: a := h.mem_iff.2 (by simp)
        have h1 : x ∈ b := by rcases List.mem_cons.1 hx with h | h; exact absurd h e; exact h
        have h2 : y ∈ a := by rcases List.mem_cons.1 hy with h | h; exact absurd h.symm e; exact h
        exact lexB_tri _ _ (hb.1 x h1) (ha.1 y h2)
    subst hxy
    rw [asc_eq (List.Perm.cons_inv h) ha.2 hb.2]
theorem gAdd_len (o : Pms) (p : List Int) : o.length ≤ (gAdd o p).length ∧ (gAdd o p).length ≤ o.length + 1 := by
  unfold gAdd
  split
  · omega
  · rw [List.length_append]; simp
theorem gRound_len (c : Cls) (o : Pms) (q : List Int) : o.length ≤ (gRound c o q).length ∧ (gRound c o q).length ≤ o.length + 2 := by
  have h1 := gAdd_len o (comp q c.1)
  have h2 := gAdd_len (gAdd o (comp q c.1)) (comp q c.2)
  unfold gRound
  omega

end

/-! ### Rds -/
section

def RdS {α : Type} [Rep α] (S : Nat → Prop) (w : World) (cs : List Value) (x : α) : Prop := ∃ fp, Rep.rep false w cs x fp ∧ ∀ b ∈ fp, b < w.heap.size ∧ S b
/-- The row is the call's own, from lo on; the items lie below lo, in blocks of S. -/
def GR {α : Type} [Rep α] (S : Nat → Prop) (lo : Nat) (w : World) (E : TypeId) (v : Value) (xs : List α) : Prop :=
  ∃ css fps, w.ownsRow lo E (Rep.sz α) v xs.length css.flatten ∧ Zip (Rep.rep false w) css xs fps ∧ ∀ b ∈ fps.flatten, b < lo ∧ S b
section
variable {α : Type} [Rep α] {S : Nat → Prop} {lo : Nat} {w w' : World} {E : TypeId} {v : Value} {xs : List α} {cs : List Value} {x : α}
theorem RdS.rd (h : RdS S w cs x) : Rd false 0 w.heap.size w cs x := by
  obtain ⟨fp, h1, h2⟩ := h
  exact ⟨fp, h1, fun b hb => ⟨Nat.zero_le _, (h2 b hb).1⟩⟩
theorem RdS.below (h : RdS S w cs x) (k : Below w.heap.size w w') : RdS S w' cs x := by
  obtain ⟨fp, h1, h2⟩ := h
  have h3 := Rep.keep h1 fun b hb => k.block b (h2 b hb).1
  exact ⟨fp, h3, fun b hb => ⟨Rep.lt h3 b hb, (h2 b hb).2⟩⟩
theorem RdS.mono {S' : Nat → Prop} (h : RdS S w cs x) (k : ∀ b, b < w.heap.size → S b → S' b) : RdS S' w cs x := by
  obtain ⟨fp, h1, h2⟩ := h
  exact ⟨fp, h1, fun b hb => ⟨(h2 b hb).1, k b (h2 b hb).1 (h2 b hb).2⟩⟩
theorem RdS.keep (h : RdS S w cs x) (k : ∀ b, b < w.heap.size → S b → w'.heap[b]? = w.heap[b]?) : RdS S w' cs x := by
  obtain ⟨fp, h1, h2⟩ := h
  have h3 := Rep.keep h1 fun b hb => k b (h2 b hb).1 (h2 b hb).2
  exact ⟨fp, h3, fun b hb => ⟨Rep.lt h3 b hb, (h2 b hb).2⟩⟩
theorem GR.lit0 (S : Nat → Prop) (lo : Nat) (w : World) (E : TypeId) (h : lo ≤ w.heap.size) : GR (α := α) S lo (w.alloc (.cells #[] E)) E (.slice (some ⟨w.heap.size, 0, none⟩) 0 0) [] :=
  ⟨[], [], by simpa using World.ownsRow_made (e := E) (size := Rep.sz α) w #[] 0 h (Nat.zero_le _) (by simp), trivial, by simp⟩
theorem GR.below (h : GR S lo w E v xs) (hb : Below w.heap.size w w') : GR S lo w' E v xs := by
  obtain ⟨css, fps, ho, hz, hl⟩ := h
  refine ⟨css, fps, ⟨ho.1, ?_⟩, hz.keep (fun b hb' => hb.block b (hz.lt b hb')), hl⟩
  rcases ho.2 with h | ⟨g, cap, cur, rfl, hbb, hh, r⟩
  · exact .inl h
  · exact .inr ⟨g, cap, cur, rfl, hbb, by rw [hb.block g (ho.lt g rfl).2]; exact hh, r⟩
theorem GR.alloc (h : GR S lo w E v xs) (o : Obj) : GR S lo (w.alloc o) E v xs := h.below ((Below.refl _ _).alloc (Nat.le_refl _) o)
theorem GR.rds (h : GR S lo w E v xs) : RdS (fun b => S b ∨ lo ≤ b) w [v] xs := by
  obtain ⟨css, fps, ho, hz, hl⟩ := h
  rcases ho.2 with ⟨rfl, h⟩ | ⟨g, cap, cur, rfl, hbb, hh, h3, h4, h5, h6⟩
  · exact ⟨[], ⟨_, rfl, none, 0, 0, rfl, h, Nat.le_refl _, by simp [maxLen], fun _ => rfl, .inl ⟨rfl, rfl⟩⟩, (fun _ h => by cases h)⟩
  · refine ⟨g :: fps.flatten, ⟨_, rfl, some ⟨g, 0, none⟩, xs.length, cap, rfl, rfl, h3, h4, (fun h => by cases h), .inr ⟨g, 0, css, fps, rfl, (ho.lt g rfl).2, rfl, hz, ?_, (fun h => by cases h)⟩⟩, ?_⟩
    · intro j c hj
      have := ho.cells (g := g) rfl j c hj
      by_cases hj0 : j = 0
      · subst hj0; simpa [Addr.add] using this
      · simpa [Addr.add, hj0] using this
    · intro b hb
      rcases List.mem_cons.1 hb with rfl | hb
      · exact ⟨(ho.lt b rfl).2, .inr hbb⟩
      · exact ⟨hz.lt b hb, .inl (hl b hb).2⟩
end
theorem RdS.list_at {S : Nat → Prop} {w : World} {xs : Pms} {ao : Option Addr} {n cap : Nat} (h : RdS S w [.slice ao n cap] xs) {i : Nat} (hi' : i < n) :
    ∃ b off p v, ao = some ⟨b, off, none⟩ ∧ Hid (xs[i]? = some p) ∧ w.cell? ⟨b, off + i, none⟩ = some v ∧ RdS S w [v] p ∧ b < w.heap.size := by
  obtain ⟨fp, ⟨v, e, ao', n', cap', e2, hn, h2, h3, h4, hh⟩, hz⟩ := h
  simp only [List.cons.injEq, and_true] at e
  subst e
  simp only [Value.slice.injEq] at e2
  obtain ⟨rfl, rfl, rfl⟩ := e2
  rcases hh with ⟨h0, _⟩ | ⟨b, off, css, fps, rfl, hb, rfl, hzip, hc, hf⟩
  · omega
  · obtain ⟨x, hx⟩ : ∃ x, xs[i]? = some x := ⟨_, List.getElem?_eq_getElem (by omega)⟩
    obtain ⟨c, f, k1, k2, k3⟩ := hzip.get hx
    obtain ⟨v, rfl⟩ : ∃ v, c = [v] := by
      have := Rep.len k3
      match c, this with
      | [v], _ => exact ⟨v, rfl⟩
    refine ⟨b, off, x, v, rfl, hx, ?_, ⟨f, k3, fun b hb => hz b (List.mem_cons_of_mem _ (List.mem_flatten.2 ⟨f, List.mem_of_getElem? k2, hb⟩))⟩, hb⟩
    have := cellsAt_flat hzip.sizes k1 0 (by show 0 < 1; omega)
    have := hc (i * 1 + 0) v (by simpa [Rep.sz] using this)
    simpa using this
section
variable {P : Program} {α : Type} [Rep α] {S : Nat → Prop} {lo : Nat} {w : World} {E : TypeId} {v : Value} {xs : List α}
theorem wpList_push_r {ops : Array Oper} {rest : List Oper} {o : Oper} {a : Act} {Q : Exit → Act → World → Prop} (hgd : o.guard = none) {s x : Operand} {t : TypeId}
    (ho : o.op = .call { callee := .builtin .append, args := #[s, x], argTypes := #[t, t] })
    {z0 : Value} {bytes : Nat} (hT : SlTy P t E z0 (Rep.sz α) bytes) (hsz : 0 < Rep.sz α) (hG : GR S lo w E v xs) (hs : a.eval s = v)
    {ad : Addr} {c : Nat} (hx : a.eval x = .slice (some ad) 1 c) {cs : List Value} {y : α} (hcells : ∀ j u, cs[j]? = some u → w.cell? (ad.add j) = some u)
    {w0 : World} (hy : RdS S w0 cs y) (hw : Below lo w0 w) (hw0 : w0.heap.size ≤ lo) (h63 : xs.length + 1 ≤ maxLen) (hbytes : (xs.length + 1) * bytes ≤ 140737488355328) (hlo : lo ≤ w.heap.size)
    (h : ∀ v' w', GR S lo w' E v' (xs ++ [y]) → Below lo w w' → wpList P ops Q rest (a.put o.dst v') w') : wpList P ops Q (o :: rest) a w := by
  obtain ⟨fp, hr0, hfp⟩ := hy
  have hr : Rep.rep false w cs y fp := Rep.keep hr0 fun b hb => hw.block b (Nat.lt_of_lt_of_le (hfp b hb).1 hw0)
  obtain ⟨css, fps, hown, hz, hl⟩ := hG
  have hlen : cs.length = 1 * Rep.sz α := by rw [Nat.one_mul]; exact Rep.len hr
  obtain ⟨v', w', hrun, ho', hgr, hv⟩ := run_app (P := P) w (t := t) (ty := o.type) hT hsz hown (ao := some ad) (m := 1) (c := c) hlen (fun h => by cases h) (fun a e => by simp only [Option.some.injEq] at e; subst e; exact hcells) (Rep.one hr) h63 hbytes hlo
  have hbel : Below lo w w' := (Below.refl lo w).grown hgr hlo fun k hk => (hown.lt k hk).1
  refine wpList_plain hgd fun K hK => ?_
  unfold Oper.wp execOp
  simp only [ho, resolve, invoke, builtin, Sem.run_bind, Sem.run_pure, Result.andThen_ok, List.map_toArray, List.map_cons, List.map_nil, hs, hx]
  rw [hrun]
  refine hK _ _ (h v' w' ⟨css ++ [cs], fps ++ [fp], ?_, (hz.snoc hr).keep fun b hb => hbel.block b ?_, ?_⟩ hbel)
  · rw [List.length_append, List.flatten_append]; simpa using ho'
  · rw [List.flatten_append, List.mem_append] at hb
    rcases hb with hb | hb
    · exact (hl b hb).1
    · exact Nat.lt_of_lt_of_le (hfp b (by simpa using hb)).1 hw0
  · intro b hb
    rw [List.flatten_append, List.mem_append] at hb
    rcases hb with hb | hb
    · exact hl b hb
    · have := hfp b (by simpa using hb)
      exact ⟨Nat.lt_of_lt_of_le this.1 hw0, this.2⟩
end

end

/-! ### Sort -/
section
open Go.RowKit Go.Shelf

/-- A bool comes back; nothing has turned but the draws. -/
def PostDr (w : World) (r : Bool) (e : Ending) (w' : World) : Prop := e = .returned (.bool r) ∧ ∃ q, w' = w.drewN q
theorem drew_on {w wr : World} (h : ∃ q, wr = w.drewN q) (n : Nat) : ∃ q, wr.drewN n = w.drewN q := by
  obtain ⟨q, rfl⟩ := h
  exact ⟨q + n, by simp⟩
theorem ones_of : ∀ {css : List (List Value)}, (∀ d ∈ css, d.length = 1) → ∃ vs : List Value, css = vs.map fun v => [v]
  | [], _ => ⟨[], rfl⟩
  | c :: css, h => by
    obtain ⟨vs, rfl⟩ := ones_of (css := css) fun d hd => h d (by simp [hd])
    have := h c (by simp)
    match c, this with
    | [v], _ => exact ⟨v :: vs, rfl⟩
theorem flat_ones : ∀ vs : List Value, (vs.map fun v => [v]).flatten = vs
  | [] => rfl
  | v :: vs => by rw [List.map_cons, List.flatten_cons, flat_ones vs]; rfl
/-- Items picked by number. -/
theorem Zip.pick {α : Type} {R : List Value → α → List Nat → Prop} {cs : List (List Value)} {xs : List α} {fs : List (List Nat)} (h : Zip R cs xs fs) (n : Nat) (h1 : cs.length = n) (h2 : xs.length = n) (h3 : fs.length = n) :
    ∀ l : List (Fin n), Zip R (l.map fun k => cs[k.val]'(by omega)) (l.map fun k => xs[k.val]'(by omega)) (l.map fun k => fs[k.val]'(by omega))
  | [] => trivial
  | k :: l => by
    refine ⟨?_, Zip.pick h n h1 h2 h3 l⟩
    obtain ⟨c, f, e1, e2, r⟩ := h.get (i := k.val) (x := xs[k.val]'(by omega)) (List.getElem?_eq_getElem (by omega))
    rw [List.getElem?_eq_getElem (by omega)] at e1 e2
    simp only [Option.some.injEq] at e1 e2
    subst e1
    subst e2
    exact r
theorem pick_all {α : Type} (xs : List α) (n : Nat) (h : xs.length = n) : ((List.finRange n).map fun k => xs[k.val]'(by omega)) = xs := by
  subst h
  apply List.ext_getElem
  · simp
  · intro i h1 h2
    simp

section
variable {P : Program} {ρ : Ren} {α : Type} [Rep α]
/-- What the comparison must do, wherever the sort stands: compare two of what the row holds, and turn nothing. -/
def LessOk (P : Program) (g : Nat) (lb : Array Value) (lt : α → α → Bool) (w : World) (blk : Nat) (v : Value) (xs : List α) : Prop :=
  ∀ (W : World) (ys : List α), ys.length = xs.length → (∀ y ∈ ys, y ∈ xs) → w.heap.size ≤ W.heap.size → (∀ b, b < w.heap.size → b ≠ blk → W.heap[b]? = w.heap[b]?) → Rd false 0 W.heap.size W [v] ys →
    ∀ (i j : Nat) (hi : i < ys.length) (hj : j < ys.length), Calls P g (#[.int .i64 i, .int .i64 j] ++ lb) W (PostDr W (lt ys[i] ys[j]))
/-- A strict weak order. -/
structure Wo (lt : α → α → Bool) : Prop where
  irrefl : ∀ x, lt x x = false
  trans : ∀ x y z, lt x y = true → lt y z = true → lt x z = true
  ntrans : ∀ x y z, lt x y = false → lt y z = false → lt x z = false
/-- The items are as they were but for their order, which is ascending; the row's block alone has turned. -/
def PostSrt (lt : α → α → Bool) (lo hi : Nat) (w : World) (fp : List Nat) (v : Value) (xs : List α) (e : Ending) (w' : World) : Prop :=
  e = .returned (.tuple #[]) ∧ ∃ ys : List α, ys.Perm xs ∧ ys.Pairwise (fun a b => lt b a = false) ∧ Ow lo hi w' [v] ys ∧ OffF fp w w'

theorem heap_putRow {β : Type} [Inhabited β] (enc : β → Value) (w : World) (m blk off : Nat) (d : Array β) (os : Array Obj) {b : Nat} (hb : b < w.heap.size) (hne : b ≠ blk) : (Sort.grow (Sort.putRow enc (Sort.ahead w m) blk off d) os).heap[b]? = w.heap[b]? := by
  rw [Sort.heap_grow_old _ _ (by unfold Sort.putRow Sort.mapBlock Sort.ahead; simpa using hb)]
  unfold Sort.putRow Sort.mapBlock Sort.ahead
  simp only [Array.getElem?_modify]
  rw [if_neg (Ne.symm hne)]
theorem size_putRow {β : Type} [Inhabited β] (enc : β → Value) (w : World) (m blk off : Nat) (d : Array β) (os : Array Obj) : w.heap.size ≤ (Sort.grow (Sort.putRow enc (Sort.ahead w m) blk off d) os).heap.size := by
  unfold Sort.grow Sort.putRow Sort.mapBlock Sort.ahead
  simp

set_option maxHeartbeats 1000000 in
theorem sort_many (L : LaysGg.n6 P ρ) (t e : TypeId) (i ie : TypeInfo) (hi : P.info? t = some i) (hd : i.desc = .slice e) (hpk : P.packed t = false) (hie : P.info? e = some ie) (ke : Nat) (hke : ∀ w, (Extern.Rtype.kind e).run P w = .ok ke w)
    (hs1 : ie.size = 1) (hagg : ∀ w, (isAgg e).run P w = .ok false w) (lt : α → α → Bool) (hO : Wo lt) (g : Nat) (lb : Array Value)
    (eg : ∀ args w, (callFunc g args).run P w = .ok (.enter g args) w) (f : Nat) (n : Nat) (h2 : 2 ≤ n) (hf : P.funcs.findIdx? (·.name == "internal/reflectlite" ++ ".Swapper$" ++ toString (Lib.swapperK n ie ke)) = some f)
    (gS : Bool) (hx : ∀ args W, (callFunc f args).run P W = ((Extern.ReflectliteSwapper.swap gS args).run P W).andThen fun v w' => .ok (.value v) w')
    (hsz : Rep.sz α = 1) {lo up : Nat} (w : World) (blk off cap : Nat) (xs : List α) (hbig : n < 4611686018427387904)
    (hown : Ow lo up w [.slice (some ⟨blk, off, none⟩) n cap] xs) (hless : LessOk P g lb lt w blk (.slice (some ⟨blk, off, none⟩) n cap) xs) :
    Calls P (ρ.f 6) #[.iface t (.slice (some ⟨blk, off, none⟩) n cap), .func (.func g) #[] lb] w (PostSrt lt lo up w [blk] (.slice (some ⟨blk, off, none⟩) n cap) xs) := by
  obtain ⟨fp, ⟨v1, hv1, ao, n', cap', rfl, e1, e2, e3, e4, hr⟩, hz, hnd⟩ := hown
  simp only [List.cons.injEq, and_true, Value.slice.injEq] at hv1
  obtain ⟨rfl, rfl, rfl⟩ := hv1
  rcases hr with ⟨h0, _⟩ | ⟨b, off', css, fps, hb', hb, rfl, hzip, hc, hfr⟩
  · omega
  simp only [Option.some.injEq, Addr.mk.injEq, and_true] at hb'
  obtain ⟨rfl, rfl⟩ := hb'
  obtain ⟨hl1, hl2⟩ := hzip.lens
  obtain ⟨vs, rfl⟩ := ones_of fun d hd => (hzip.sizes d hd).trans hsz
  rw [flat_ones] at hc
  rw [List.length_map] at hl1
  have hvl : vs.length = n := hl1.trans e1
  have hfl : fps.length = n := hl2.trans e1
  haveI : Inhabited (Fin n) := ⟨⟨0, by omega⟩⟩
  let enc : Fin n → Value := fun k => vs[k.val]'(by omega)
  let ltF : Fin n → Fin n → Bool := fun a b => lt (xs[a.val]'(by omega)) (xs[b.val]'(by omega))
  have hOF : Sort.SWO ltF := ⟨fun x => hO.irrefl _, fun x y z => hO.trans _ _ _, fun x y z => hO.ntrans _ _ _⟩
  have hds : (List.finRange n).toArray.size = n := by simp
  have hdj : ∀ j (hj : j < n), (List.finRange n).toArray[j]! = ⟨j, hj⟩ := fun j hj => by rw [getElem!_pos _ j (by simpa using hj)]; simp
  have hH : Sort.Holds enc w blk off (List.finRange n).toArray := fun j hj => by
    rw [hds] at hj
    rw [hdj j hj]
    exact ⟨hc j _ (List.getElem?_eq_getElem (by omega)), hfr rfl _⟩
  have hone : ∀ k, (enc k).oneCell' = true := fun k => hzip.one _ (by rw [flat_ones]; exact List.getElem_mem _)
  have hne : ∀ k ∈ fps.flatten, k ≠ blk := fun k hk e => (List.nodup_cons.1 hnd).1 (e ▸ hk)
  -- what a world holds whose row has been laid anew
  have hrow : ∀ (z : Bool) (m : Nat) (dk : Array (Fin n)) (os : Array Obj), dk.size = n → Rep.rep true (Sort.grow (Sort.putRow enc (Sort.ahead w m) blk off dk) os) [.slice (some ⟨blk, off, none⟩) n cap] (dk.toList.map fun k => xs[k.val]'(by omega)) (blk :: (dk.toList.map fun k => fps[k.val]'(by omega)).flatten) := by
    intro z m dk os hdk
    have hHd : Sort.Holds enc (Sort.ahead w m) blk off (List.finRange n).toArray := Sort.holds_ahead _ _ _ _ _ _ hH
    have hZ := Zip.pick hzip n (by simpa using hvl) e1 hfl dk.toList
    have hsub : ∀ k ∈ (dk.toList.map fun k => fps[k.val]'(by omega)).flatten, k ∈ fps.flatten := by
      intro k hk
      obtain ⟨l, hl, hkl⟩ := List.mem_flatten.1 hk
      obtain ⟨q, _, rfl⟩ := List.mem_map.1 hl
      exact List.mem_flatten.2 ⟨_, List.getElem_mem _, hkl⟩
    refine ⟨_, rfl, some ⟨blk, off, none⟩, n, cap, rfl, by simpa using hdk, e2, e3, (fun h => by cases h), .inr ⟨blk, off, _, _, rfl, Nat.lt_of_lt_of_le hb (size_putRow enc w m blk off dk os), rfl, hZ.keep ?_, ?_, ?_⟩⟩
    · intro k hk
      have hk' := hsub k hk
      exact heap_putRow enc w m blk off dk os (hzip.lt k hk') (hne k hk')
    · intro j c hj
      have e : (dk.toList.map fun k => (vs.map fun v => [v])[k.val]'(by simp; omega)) = (dk.toList.map enc).map fun v => [v] := by
        rw [List.map_map]
        apply List.map_congr_left
        intro k _
        simp [enc]
      rw [e, flat_ones] at hj
      have hjl : j < n := by have := (List.getElem?_eq_some_iff.1 hj).1; simp at this; omega
      rw [List.getElem?_map, List.getElem?_eq_getElem (by simpa using (by omega : j < dk.size))] at hj
      simp only [Option.map_some, Option.some.injEq] at hj
      rw [Sort.cell?_grow _ _ _ (by show blk < _; unfold Sort.putRow Sort.mapBlock Sort.ahead; simpa using hb)]
      have := Sort.cell?_putRow enc (Sort.ahead w m) blk off (List.finRange n).toArray dk hHd (by rw [hds]; exact hdk) j (by omega)
      rw [this, ← hj, getElem!_pos dk j (by omega)]
      simp
    · intro _ o
      rw [Sort.frozen?_grow _ _ _ (by show blk < _; unfold Sort.putRow Sort.mapBlock Sort.ahead; simpa using hb)]
      have hb2 := hfr rfl o
      unfold World.frozen? Sort.putRow Sort.mapBlock Sort.ahead at *
      simp only [Array.getElem?_modify, if_true] at *
      cases hh : w.heap[blk]? with
      | none => simp
      | some ob =>
        rw [hh] at hb2
        cases ob <;> simp_all [Sort.onCells]
  have hLR : LessReads P g lb enc ltF blk off (List.finRange n).toArray.size w := by
    intro m os dk hs i j hi hj
    rw [hds] at hs hi hj
    have hR := hrow true m dk os hs
    have hl : (dk.toList.map fun k => xs[k.val]'(by omega)).length = n := by simpa using hs
    have := hless (Sort.grow (Sort.putRow enc (Sort.ahead w m) blk off dk) os) _ (hl.trans e1.symm) (fun y hy => by
      obtain ⟨k, _, rfl⟩ := List.mem_map.1 hy
      exact List.getElem_mem _) (size_putRow enc w m blk off dk os) (fun b h1 h2 => heap_putRow enc w m blk off dk os h1 h2) ⟨_, Rep.weak hR, fun b hb => ⟨Nat.zero_le _, Rep.lt hR b hb⟩⟩ i j (by omega) (by omega)
    refine this.mono fun e w' h => ?_
    obtain ⟨he, q, hw⟩ := h
    refine ⟨?_, q, hw⟩
    rw [he]
    simp only [List.getElem_map, ltF]
    rw [getElem!_pos dk i (by omega), getElem!_pos dk j (by omega)]
    simp
  have hS := Any.sort_Slice_sorted L t e i ie hi hd hpk hie ke hke hs1 hagg enc hone ltF hOF g lb eg blk off cap (List.finRange n).toArray (by rw [hds]; exact h2) (by rw [hds]; exact hbig) f (by rw [hds]; exact hf) gS hx w hLR hH hb
  rw [hds] at hS
  refine hS.mono ?_
  rintro e w' ⟨rfl, d', m, os, hp, hso, rfl⟩
  obtain ⟨hp1, _, hp3⟩ := hp
  rw [hds] at hp1
  have hpl : d'.toList.Perm (List.finRange n) := by
    have x1 : d'.extract 0 n = d' := Array.extract_eq_self_of_le (by omega)
    have x2 : (List.finRange n).toArray.extract 0 n = (List.finRange n).toArray := Array.extract_eq_self_of_le (by omega)
    rw [x1, x2] at hp3
    simpa using hp3
  have hperm : (d'.toList.map fun k => xs[k.val]'(by omega)).Perm xs := by
    have := hpl.map fun k : Fin n => xs[k.val]'(by omega)
    rwa [pick_all xs n e1] at this
  have hpf : (d'.toList.map fun k => fps[k.val]'(by omega)).Perm fps := by
    have := hpl.map fun k : Fin n => fps[k.val]'(by omega)
    rwa [pick_all fps n hfl] at this
  refine ⟨rfl, _, hperm, ?_, ⟨_, hrow true m d' os hp1, fun b hb => ?_, ?_⟩, ?_⟩
  · rw [List.pairwise_iff_getElem]
    intro i j hi hj hij
    have hi' : i < d'.size := by simpa using hi
    have hj' : j < d'.size := by simpa using hj
    have := hso i j (Nat.zero_le _) hij (by omega)
    rw [getElem!_pos d' j hj', getElem!_pos d' i hi'] at this
    simpa [ltF] using this
  · rcases List.mem_cons.1 hb with rfl | hb
    · exact hz _ (by simp)
    · exact hz b (List.mem_cons_of_mem _ (hpf.flatten.mem_iff.1 hb))
  · rw [List.nodup_cons] at hnd ⊢
    exact ⟨fun h => hnd.1 (hpf.flatten.mem_iff.1 h), hpf.flatten.nodup_iff.2 hnd.2⟩
  · exact ⟨rfl, rfl, rfl, size_putRow enc w m blk off d' os, fun b h1 h2 => heap_putRow enc w m blk off d' os h1 (by simpa using h2)⟩

theorem sort_few (L : LaysGg.n6 P ρ) (t e : TypeId) (i ie : TypeInfo) (hi : P.info? t = some i) (hd : i.desc = .slice e) (hpk : P.packed t = false) (hie : P.info? e = some ie) (ke : Nat) (hke : ∀ w, (Extern.Rtype.kind e).run P w = .ok ke w)
    (lt : α → α → Bool) (lf : Fn) (la lb : Array Value) (f : Nat) (ao : Option Addr) (n cap : Nat) (h1 : n ≤ 1) (hf : P.funcs.findIdx? (·.name == "internal/reflectlite" ++ ".Swapper$" ++ toString (Lib.swapperK n ie ke)) = some f)
    {lo up : Nat} (w : World) (xs : List α) (fp : List Nat) (hown : Ow lo up w [.slice ao n cap] xs) :
    Calls P (ρ.f 6) #[.iface t (.slice ao n cap), .func lf la lb] w (PostSrt lt lo up w fp (.slice ao n cap) xs) := by
  refine (Any.sort_Slice_tiny L t e i ie hi hd hpk hie ke hke ao n cap h1 f hf lf la lb w).mono ?_
  rintro e w' ⟨rfl, os, rfl⟩
  have hb : Below w.heap.size w (Sort.grow w os) := ⟨rfl, rfl, rfl, by simp, fun b hb => Sort.heap_grow_old w os hb⟩
  obtain ⟨ao', n', cap', e, hn, -⟩ := hown.rd.shape
  simp only [Value.slice.injEq] at e
  obtain ⟨rfl, rfl, rfl⟩ := e
  refine ⟨rfl, xs, List.Perm.refl _, ?_, hown.below hb, ⟨rfl, rfl, rfl, hb.size, fun b h _ => hb.block b h⟩⟩
  match xs, hn with
  | [], _ => exact List.Pairwise.nil
  | [x], _ => exact List.pairwise_singleton _ _
  | _ :: _ :: _, hn => simp at hn; omega
end

end

/-! ### SortK -/
section
open Go.RowKit Go.Shelf

theorem flat_get {α : Type} (enc : α → List Value) (k : Nat) (hk : ∀ x, (enc x).length = k) (h0 : 0 < k) : ∀ (l : List α) (j : Nat), ((l.map enc).flatten)[j]? = (l[j / k]?).bind fun x => (enc x)[j % k]?
  | [], j => by simp
  | x :: l, j => by
    rw [List.map_cons, List.flatten_cons]
    by_cases hj : j < k
    · rw [List.getElem?_append_left (by rw [hk]; exact hj), Nat.div_eq_of_lt hj, Nat.mod_eq_of_lt hj]
      rfl
    · have hj' : k ≤ j := by omega
      rw [List.getElem?_append_right (by rw [hk]; exact hj'), hk, flat_get enc k hk h0 l (j - k)]
      have e1 : j / k = (j - k) / k + 1 := by rw [Nat.div_eq_sub_div h0 hj']
      have e2 : j % k = (j - k) % k := Nat.mod_eq_sub_mod hj'
      rw [e1, e2]
      rfl
theorem flatK_at {α : Type} [Inhabited α] (enc : α → List Value) (k : Nat) (hk : ∀ x, (enc x).length = k) (h0 : 0 < k) (d : Array α) (j : Nat) (hj : j < d.size * k) : ((d.toList.map enc).flatten)[j]? = some (Sort.flatK enc k d)[j]! := by
  have h1 : j / k < d.size := (Nat.div_lt_iff_lt_mul h0).2 hj
  have h2 : j % k < k := Nat.mod_lt _ h0
  rw [flat_get enc k hk h0, Sort.get_flatK _ _ _ _ hj, List.getElem?_eq_getElem (by simpa using h1)]
  simp only [Option.bind_some, Array.getElem_toList]
  rw [getElem!_pos d (j / k) h1, List.getElem?_eq_getElem (by rw [hk]; exact h2), getElem!_pos (enc d[j / k]) (j % k) (by rw [hk]; exact h2)]
section
variable {P : Program} {ρ : Ren} {α : Type} [Rep α]
set_option maxHeartbeats 2000000 in
theorem sort_manyK (L : LaysGg.n6 P ρ) (t e : TypeId) (i ie : TypeInfo) (hi : P.info? t = some i) (hd : i.desc = .slice e) (hpk : P.packed t = false) (hie : P.info? e = some ie) (ke : Nat) (hke : ∀ w, (Extern.Rtype.kind e).run P w = .ok ke w)
    (hs1 : ie.size = Rep.sz α) (h0 : 0 < Rep.sz α) (hagg : ∀ w, (isAgg e).run P w = .ok true w) (lt : α → α → Bool) (hO : Wo lt) (g : Nat) (lb : Array Value)
    (eg : ∀ args w, (callFunc g args).run P w = .ok (.enter g args) w) (f : Nat) (n : Nat) (h2 : 2 ≤ n) (hf : P.funcs.findIdx? (·.name == "internal/reflectlite" ++ ".Swapper$" ++ toString (Lib.swapperK n ie ke)) = some f)
    (gS : Bool) (hx : ∀ args W, (callFunc f args).run P W = ((Extern.ReflectliteSwapper.swap gS args).run P W).andThen fun v w' => .ok (.value v) w')
    {lo up : Nat} (w : World) (blk off cap : Nat) (xs : List α) (hbig : n < 4611686018427387904)
    (hown : Ow lo up w [.slice (some ⟨blk, off, none⟩) n cap] xs) (hless : LessOk P g lb lt w blk (.slice (some ⟨blk, off, none⟩) n cap) xs) :
    Calls P (ρ.f 6) #[.iface t (.slice (some ⟨blk, off, none⟩) n cap), .func (.func g) #[] lb] w (PostSrt lt lo up w [blk] (.slice (some ⟨blk, off, none⟩) n cap) xs) := by
  obtain ⟨fp, ⟨v1, hv1, ao, n', cap', rfl, e1, e2, e3, e4, hr⟩, hz, hnd⟩ := hown
  simp only [List.cons.injEq, and_true, Value.slice.injEq] at hv1
  obtain ⟨rfl, rfl, rfl⟩ := hv1
  rcases hr with ⟨hr0, _⟩ | ⟨b, off', css, fps, hb', hb, rfl, hzip, hc, hfr⟩
  · omega
  simp only [Option.some.injEq, Addr.mk.injEq, and_true] at hb'
  obtain ⟨rfl, rfl⟩ := hb'
  obtain ⟨hl1, hl2⟩ := hzip.lens
  have hvl : css.length = n := hl1.trans e1
  have hfl : fps.length = n := hl2.trans e1
  haveI : Inhabited (Fin n) := ⟨⟨0, by omega⟩⟩
  let enc : Fin n → List Value := fun k => css[k.val]'(by omega)
  let K := Rep.sz α
  have hk : ∀ x, (enc x).length = K := fun x => hzip.sizes _ (List.getElem_mem _)
  let ltF : Fin n → Fin n → Bool := fun a b => lt (xs[a.val]'(by omega)) (xs[b.val]'(by omega))
  have hOF : Sort.SWO ltF := ⟨fun x => hO.irrefl _, fun x y z => hO.trans _ _ _, fun x y z => hO.ntrans _ _ _⟩
  have hds : (List.finRange n).toArray.size = n := by simp
  have hall : (List.finRange n).toArray.toList.map enc = css := by
    show (List.finRange n).map enc = css
    exact pick_all css n hvl
  have hH : Sort.HoldsK enc K w blk off (List.finRange n).toArray := fun j hj => by
    rw [Sort.size_flatK] at hj
    have := flatK_at enc K hk h0 (List.finRange n).toArray j hj
    rw [hall] at this
    exact ⟨hc j _ this, hfr rfl _⟩
  have hone : ∀ k, ∀ v ∈ enc k, v.oneCell' = true := fun k v hv => hzip.one _ (List.mem_flatten.2 ⟨_, List.getElem_mem _, hv⟩)
  have hne : ∀ k ∈ fps.flatten, k ≠ blk := fun k hk e => (List.nodup_cons.1 hnd).1 (e ▸ hk)
  have heap1 : ∀ (m : Nat) (dk : Array (Fin n)) (os : Array Obj) (b : Nat), b < w.heap.size → b ≠ blk → (sortWorldK enc K w blk off m dk os).heap[b]? = w.heap[b]? := fun m dk os b h1 h2 => heap_putRow id w m blk off (Sort.flatK enc K dk) os h1 h2
  have size1 : ∀ (m : Nat) (dk : Array (Fin n)) (os : Array Obj), w.heap.size ≤ (sortWorldK enc K w blk off m dk os).heap.size := fun m dk os => size_putRow id w m blk off (Sort.flatK enc K dk) os
  -- what a world holds whose row has been laid anew
  have hrow : ∀ (m : Nat) (dk : Array (Fin n)) (os : Array Obj), dk.size = n → Rep.rep true (sortWorldK enc K w blk off m dk os) [.slice (some ⟨blk, off, none⟩) n cap] (dk.toList.map fun k => xs[k.val]'(by omega)) (blk :: (dk.toList.map fun k => fps[k.val]'(by omega)).flatten) := by
    intro m dk os hdk
    have hZ := Zip.pick hzip n hvl e1 hfl dk.toList
    have hsub : ∀ k ∈ (dk.toList.map fun k => fps[k.val]'(by omega)).flatten, k ∈ fps.flatten := by
      intro k hk
      obtain ⟨l, hl, hkl⟩ := List.mem_flatten.1 hk
      obtain ⟨q, _, rfl⟩ := List.mem_map.1 hl
      exact List.mem_flatten.2 ⟨_, List.getElem_mem _, hkl⟩
    refine ⟨_, rfl, some ⟨blk, off, none⟩, n, cap, rfl, by simpa using hdk, e2, e3, (fun h => by cases h), .inr ⟨blk, off, _, _, rfl, Nat.lt_of_lt_of_le hb (size1 m dk os), rfl, hZ.keep ?_, ?_, ?_⟩⟩
    · intro k hk
      have hk' := hsub k hk
      exact heap1 m dk os k (hzip.lt k hk') (hne k hk')
    · intro j c hj
      have hjl : j < dk.size * K := by
        have h1 := (List.getElem?_eq_some_iff.1 hj).1
        have h3 : ∀ l : List (Fin n), ((l.map enc).flatten).length = l.length * K := by
          intro l
          induction l with
          | nil => simp
          | cons x l ih => rw [List.map_cons, List.flatten_cons, List.length_append, ih, hk]; simp [Nat.add_mul]; omega
        have h4 := h3 dk.toList
        have h5 : (dk.toList.map enc).flatten.length = dk.size * K := by simpa using h4
        rw [← h5]; exact h1
      have h6 := flatK_at enc K hk h0 dk j hjl
      have h7 : some c = some (Sort.flatK enc K dk)[j]! := hj.symm.trans h6
      have h8 := Option.some.inj h7
      have hHd : Sort.Holds id (Sort.ahead w m) blk off (Sort.flatK enc K (List.finRange n).toArray) := Sort.holds_ahead _ _ _ _ _ _ hH
      unfold sortWorldK Sort.putRowK
      rw [Sort.cell?_grow _ _ _ (by show blk < _; unfold Sort.putRow Sort.mapBlock Sort.ahead; simpa using hb)]
      have := Sort.cell?_putRow id (Sort.ahead w m) blk off _ (Sort.flatK enc K dk) hHd (by rw [Sort.size_flatK, Sort.size_flatK, hds, hdk]) j (by rw [Sort.size_flatK]; exact hjl)
      rw [this, h8]; rfl
    · intro _ o
      unfold sortWorldK Sort.putRowK
      rw [Sort.frozen?_grow _ _ _ (by show blk < _; unfold Sort.putRow Sort.mapBlock Sort.ahead; simpa using hb)]
      have hb2 := hfr rfl o
      unfold World.frozen? Sort.putRow Sort.mapBlock Sort.ahead at *
      simp only [Array.getElem?_modify, if_true] at *
      cases hh : w.heap[blk]? with
      | none => simp
      | some ob =>
        rw [hh] at hb2
        cases ob <;> simp_all [Sort.onCells]
  have hLR : LessReadsK P g lb enc K ltF blk off (List.finRange n).toArray.size w := by
    intro m os dk hs i j hi hj
    rw [hds] at hs hi hj
    have hR := hrow m dk os hs
    have hl : (dk.toList.map fun k => xs[k.val]'(by omega)).length = n := by simpa using hs
    have := hless (sortWorldK enc K w blk off m dk os) _ (hl.trans e1.symm) (fun y hy => by
      obtain ⟨k, _, rfl⟩ := List.mem_map.1 hy
      exact List.getElem_mem _) (size1 m dk os) (fun b h1 h2 => heap1 m dk os b h1 h2) ⟨_, Rep.weak hR, fun b hb => ⟨Nat.zero_le _, Rep.lt hR b hb⟩⟩ i j (by omega) (by omega)
    refine this.mono fun e w' h => ?_
    obtain ⟨he, q, hw⟩ := h
    refine ⟨?_, q, hw⟩
    rw [he]
    simp only [List.getElem_map, ltF]
    rw [getElem!_pos dk i (by omega), getElem!_pos dk j (by omega)]
    simp
  have hS := Any.sort_Slice_cells_sorted L t e i ie hi hd hpk hie ke hke enc K hk hs1 hagg hone ltF hOF g lb eg blk off cap (List.finRange n).toArray (by rw [hds]; exact h2) (by rw [hds]; exact hbig) f (by rw [hds]; exact hf) gS hx w hLR hH hb
  rw [hds] at hS
  refine hS.mono ?_
  rintro e w' ⟨rfl, d', m, os, hp, hso, rfl⟩
  obtain ⟨hp1, _, hp3⟩ := hp
  rw [hds] at hp1
  have hpl : d'.toList.Perm (List.finRange n) := by
    have x1 : d'.extract 0 n = d' := Array.extract_eq_self_of_le (by omega)
    have x2 : (List.finRange n).toArray.extract 0 n = (List.finRange n).toArray := Array.extract_eq_self_of_le (by omega)
    rw [x1, x2] at hp3
    simpa using hp3
  have hperm : (d'.toList.map fun k => xs[k.val]'(by omega)).Perm xs := by
    have := hpl.map fun k : Fin n => xs[k.val]'(by omega)
    rwa [pick_all xs n e1] at this
  have hpf : (d'.toList.map fun k => fps[k.val]'(by omega)).Perm fps := by
    have := hpl.map fun k : Fin n => fps[k.val]'(by omega)
    rwa [pick_all fps n hfl] at this
  refine ⟨rfl, _, hperm, ?_, ⟨_, hrow m d' os hp1, fun b hb => ?_, ?_⟩, ?_⟩
  · rw [List.pairwise_iff_getElem]
    intro i j hi hj hij
    have hi' : i < d'.size := by simpa using hi
    have hj' : j < d'.size := by simpa using hj
    have := hso i j (Nat.zero_le _) hij (by omega)
    rw [getElem!_pos d' j hj', getElem!_pos d' i hi'] at this
    simpa [ltF] using this
  · rcases List.mem_cons.1 hb with rfl | hb
    · exact hz _ (by simp)
    · exact hz b (List.mem_cons_of_mem _ (hpf.flatten.mem_iff.1 hb))
  · rw [List.nodup_cons] at hnd ⊢
    exact ⟨fun h => hnd.1 (hpf.flatten.mem_iff.1 h), hpf.flatten.nodup_iff.2 hnd.2⟩
  · exact ⟨rfl, rfl, rfl, size1 m d' os, fun b h1 h2 => heap1 m d' os b h1 (by simpa using h2)⟩
end

end

/-! ### InsK -/
section
open Go.RowKit Go.Shelf

section
variable {α : Type} [Inhabited α]
/-- The row holds these items; of the blocks that lay in w0 the row's alone has turned. -/
structure RowAt (enc : α → List Value) (k : Nat) (w0 : World) (blk off : Nat) (d : Array α) (W : World) : Prop where
  holds : Sort.HoldsK enc k W blk off d
  frz : ∀ o, W.frozen? ⟨blk, o, none⟩ = false
  off : OffF [blk] w0 W
theorem RowAt.below {enc : α → List Value} {k : Nat} {w0 W W' : World} {blk off : Nat} {d : Array α} (h : RowAt enc k w0 blk off d W) (hb : Below W.heap.size W W') (hl : blk < w0.heap.size) : RowAt enc k w0 blk off d W' := by
  have hl' : blk < W.heap.size := Nat.lt_of_lt_of_le hl h.off.size
  exact ⟨fun j hj => ⟨(hb.cell (p := ⟨blk, off + j, none⟩) hl').trans (h.holds j hj).1, (hb.frozen (p := ⟨blk, off + j, none⟩) hl').trans (h.holds j hj).2⟩, fun o => (hb.frozen (p := ⟨blk, o, none⟩) hl').trans (h.frz o), h.off.below hb⟩
theorem putRow_off (W : World) (blk off : Nat) (F : Array Value) : OffF [blk] W (Sort.putRow id W blk off F) := by
  refine ⟨rfl, rfl, rfl, by simp [Sort.putRow, Sort.mapBlock], fun b _ hn => ?_⟩
  have hne : b ≠ blk := by simpa using hn
  unfold Sort.putRow Sort.mapBlock
  simp only [Array.getElem?_modify]
  rw [if_neg (Ne.symm hne)]
theorem putRow_frz (W : World) (blk off : Nat) (F : Array Value) (h : ∀ o, W.frozen? ⟨blk, o, none⟩ = false) (o : Nat) : (Sort.putRow id W blk off F).frozen? ⟨blk, o, none⟩ = false := by
  have hb2 := h o
  unfold World.frozen? Sort.putRow Sort.mapBlock at *
  simp only [Array.getElem?_modify, if_true] at *
  cases hh : W.heap[blk]? with
  | none => simp
  | some ob =>
    rw [hh] at hb2
    cases ob <;> simp_all [Sort.onCells]
theorem swp_eq {enc : α → List Value} {k : Nat} (hk : ∀ x, (enc x).length = k) {W : World} {blk off : Nat} {d : Array α} (h : Sort.HoldsK enc k W blk off d) {i j : Nat} (hi : i < d.size) (hj : j < d.size) :
    (W.setCells blk (off + i * k) (enc d[j]!)).setCells blk (off + j * k) (enc d[i]!) = Sort.putRow id W blk off (Sort.flatK enc k (Sort.swp d i j)) := by
  have e := Sort.swap_worldK enc k hk W 0 0 blk off d i j hi hj
  have e0 := Sort.putRowK_self enc k W blk off d h
  simp only [Sort.ahead_zero, Nat.add_zero, World.drewN_zero] at e
  rw [e0] at e
  exact e
theorem RowAt.swp {enc : α → List Value} {k : Nat} (hk : ∀ x, (enc x).length = k) {w0 W : World} {blk off : Nat} {d : Array α} (h : RowAt enc k w0 blk off d W) {i j : Nat} (hi : i < d.size) (hj : j < d.size) :
    RowAt enc k w0 blk off (Sort.swp d i j) ((W.setCells blk (off + i * k) (enc d[j]!)).setCells blk (off + j * k) (enc d[i]!)) ∧ OffF [blk] W ((W.setCells blk (off + i * k) (enc d[j]!)).setCells blk (off + j * k) (enc d[i]!)) := by
  rw [swp_eq hk h.holds hi hj]
  exact ⟨⟨Sort.holdsK_putRowK enc k W blk off d _ h.holds (by simp [Sort.size_swp]), putRow_frz W blk off _ h.frz, h.off.trans (putRow_off W blk off _)⟩, putRow_off W blk off _⟩
/-- What the comparison must do: answer by the row's items; of what lay it turns nothing. -/
def LessG (P : Program) (g : Nat) (lb : Array Value) (enc : α → List Value) (k : Nat) (lt : α → α → Bool) (w0 : World) (blk off size : Nat) : Prop :=
  ∀ (W : World) (d : Array α), RowAt enc k w0 blk off d W → d.size = size → ∀ i j : Nat, i < size → j < size →
    Calls P g (#[.int .i64 i, .int .i64 j] ++ lb) W fun e w' => e = .returned (.bool (lt d[i]! d[j]!)) ∧ Below W.heap.size W w'
end

section
variable {α : Type} [Inhabited α]
set_option maxHeartbeats 4000000 in
set_option maxRecDepth 100000 in
theorem insG_any (enc : α → List Value) (k : Nat) (hk : ∀ x, (enc x).length = k) (lt : α → α → Bool) (g : Nat) (lb : Array Value) (sf : Nat) (sb : Array Value) (blk off a b : Nat) (d : Array α) (w0 w : World)
    (eg : ∀ args w, (callFunc g args).run Try.prog w = .ok (.enter g args) w) (hless : LessG Try.prog g lb enc k lt w0 blk off d.size) (hswap : SwapSwapsK Try.prog sf sb enc k blk off d.size)
    (hR : RowAt enc k w0 blk off d w) (hblk : blk < w0.heap.size) (hab : a ≤ b) (hb : b ≤ d.size) (hsz : d.size < 4611686018427387904) :
    Calls Try.prog 118 #[.agg #[.func (.func g) #[] lb, .func (.func sf) #[] sb], .int .i64 a, .int .i64 b] w fun e w' => e = .returned (.tuple #[]) ∧ RowAt enc k w0 blk off (Sort.insertionSort lt d a b) w' := by
  have hlw : blk < w.heap.size := Nat.lt_of_lt_of_le hblk hR.off.size
  have HR := Lib.hid hR
  have HLESS := Lib.hid hless
  have HSW := Lib.hid hswap
  have HK := Lib.hid hk
  clear hR hless hswap hk
  go_enter Try.func118, Try.ntmps118
  go_wp2
  go_loopw [6] (fun vi wr => ∃ (i : Nat) (dk : Array α), vi = .int .i64 i ∧ a < i ∧ i ≤ b + 1 ∧ dk.size = d.size ∧ Hid (RowAt enc k w0 blk off dk wr) ∧ wr.cell? ⟨w.heap.size, 0, none⟩ = some (.func (.func g) #[] lb) ∧ wr.cell? ⟨w.heap.size, 1, none⟩ = some (.func (.func sf) #[] sb) ∧ w.heap.size < wr.heap.size ∧ Hid (Sort.insOuter lt a b i dk = Sort.insOuter lt a b (a + 1) d)) (fun vi _ => b + 1 - (intOf vi).toNat)
  case atStart => exact ⟨a + 1, d, by go_num, by omega, by omega, rfl, Lib.hid (HR.out.below bwT hblk), by simp [go_sem], by simp [go_sem], by simp, Lib.hid rfl⟩
  case round =>
    clear HR
    obtain ⟨wb, hwb⟩ : ∃ wm : World, wm = wr := ⟨_, rfl⟩
    subst hwb
    obtain ⟨i, dk, rfl, hai, hib, hsk, HRk, c0, c1, hlb, HO⟩ := hrel
    by_cases hlt : i < b
    · have hI : (i : Int) < (b : Int) := by omega
      go_wp2
      go_loopw [7] (fun vj wr => ∃ (j : Nat) (dj : Array α), vj = .int .i64 j ∧ a ≤ j ∧ j ≤ i ∧ dj.size = d.size ∧ Hid (RowAt enc k w0 blk off dj wr) ∧ wr.cell? ⟨w.heap.size, 0, none⟩ = some (.func (.func g) #[] lb) ∧ wr.cell? ⟨w.heap.size, 1, none⟩ = some (.func (.func sf) #[] sb) ∧ w.heap.size < wr.heap.size ∧ Hid (Sort.insInner lt a j dj = Sort.insInner lt a i dk)) (fun vj _ => (intOf vj).toNat)
      case atStart => exact ⟨i, dk, rfl, by omega, Nat.le_refl _, hsk, HRk, c0, c1, hlb, Lib.hid rfl⟩
      case round =>
        clear HRk c0 c1 hlb
        obtain ⟨wd, hwd⟩ : ∃ wm : World, wm = wr := ⟨_, rfl⟩
        subst hwd
        obtain ⟨j, dj, rfl, haj, hji, hsj, HRj, c0, c1, hlb, HI⟩ := hrel
        by_cases hja : a < j
        · have hJ : (a : Int) < (j : Int) := by omega
          have hl := HLESS.out wd dj HRj.out hsj j (j - 1) (by omega) (by omega)
          rw [show (((j - 1 : Nat) : Int)) = (j : Int) - 1 by omega] at hl
          cases hlv : lt dj[j]! dj[j - 1]! with
          | true =>
            rw [hlv] at hl
            have HLV := Lib.hid hlv
            clear hlv
            go_wp2_with (go_at_fn g; refine hl.mono ?_; rintro e w' ⟨rfl, hb'⟩; have d0 := oldc hb' hlb c0; have d1 := oldc hb' hlb c1)
            have HRn := Lib.hid (HRj.out.below hb' hblk)
            have hs := HSW.out w' dj HRn.out.holds hsj j (j - 1) (by omega) (by omega)
            rw [show (((j - 1 : Nat) : Int)) = (j : Int) - 1 by omega] at hs
            rw [hs, Oper.upon_value]
            have hsw := HRn.out.swp HK.out (i := j) (j := j - 1) (by omega) (by omega)
            obtain ⟨we, hwe⟩ : ∃ W : World, W = (w'.setCells blk (off + j * k) (enc dj[j - 1]!)).setCells blk (off + (j - 1) * k) (enc dj[j]!) := ⟨_, rfl⟩
            rw [← hwe] at hsw ⊢
            have sw := hsw.2.size
            have sb' := hb'.size
            have hne : w.heap.size ∉ [blk] := by simp; omega
            have e0 := (World.cell?_of_block (w := w') (a := ⟨w.heap.size, 0, none⟩) (hsw.2.block w.heap.size (by omega) hne)).trans d0
            have e1 := (World.cell?_of_block (w := w') (a := ⟨w.heap.size, 1, none⟩) (hsw.2.block w.heap.size (by omega) hne)).trans d1
            have HRe := Lib.hid hsw.1
            have HI2 := Lib.hid (show Sort.insInner lt a (j - 1) (Sort.swp dj j (j - 1)) = Sort.insInner lt a i dk by rw [← HI.out, insInner_go lt a j dj hja HLV.out])
            have hjm : (j : Int) - 1 = ((j - 1 : Nat) : Int) := by omega
            clear hs hsw hwe hl d0 d1 HRn
            go_wp2
            go_roundw
            case rel => exact ⟨j - 1, Sort.swp dj j (j - 1), by congr 1, by omega, by omega, by rw [Sort.size_swp]; exact hsj, HRe, e0, e1, by omega, HI2⟩
            case measure => simp [intOf]; omega
          | false =>
            rw [hlv] at hl
            have HO2 := Lib.hid (show Sort.insOuter lt a b (i + 1) dj = Sort.insOuter lt a b (a + 1) d by rw [← HO.out, insOuter_go _ _ _ _ _ hlt, ← HI.out, insInner_stop _ _ _ _ (Or.inr hlv)])
            clear hlv
            go_wp2_with (go_at_fn g; refine hl.mono ?_; rintro e w' ⟨rfl, hb'⟩; have d0 := oldc hb' hlb c0; have d1 := oldc hb' hlb c1)
            have HRn := Lib.hid (HRj.out.below hb' hblk)
            have sb' := hb'.size
            go_roundw
            case rel => exact ⟨i + 1, dj, by go_num, by omega, by omega, hsj, HRn, d0, d1, by omega, HO2⟩
            case measure => simp [intOf]; omega
        · have hJ : ¬ (a : Int) < (j : Int) := by omega
          have HO2 := Lib.hid (show Sort.insOuter lt a b (i + 1) dj = Sort.insOuter lt a b (a + 1) d by rw [← HO.out, insOuter_go _ _ _ _ _ hlt, ← HI.out, insInner_stop _ _ _ _ (Or.inl (by omega))])
          go_wp2
          go_roundw
          case rel => exact ⟨i + 1, dj, by go_num, by omega, by omega, hsj, HRj, c0, c1, hlb, HO2⟩
          case measure => simp [intOf]; omega
    · have hI : ¬ (i : Int) < (b : Int) := by omega
      have HF := Lib.hid (show RowAt enc k w0 blk off (Sort.insertionSort lt d a b) wb by
        unfold Sort.insertionSort
        rw [← HO.out, insOuter_stop _ _ _ _ _ hlt]; exact HRk.out)
      clear HRk HO
      go_wp2
      go_end0
      exact ⟨rfl, HF.out⟩
end

end

/-! ### StbP -/
section

section
variable {α : Type} [Inhabited α]
/-- swapRange: n swaps, from the i-th on. -/
def swr (a b : Nat) : Nat → Nat → Array α → Array α
  | 0, _, d => d
  | n + 1, i, d => swr a b n (i + 1) (Sort.swp d (a + i) (b + i))
/-- rotate. -/
def rot (m : Nat) : Nat → Nat → Nat → Array α → Array α
  | 0, _, _, d => d
  | f + 1, i, j, d => if i = j then swr (m - i) m i 0 d else if j < i then rot m f (i - j) j (swr (m - i) m j 0 d) else rot m f i (j - i) (swr (m - i) (m + j - i) i 0 d)
variable (lt : α → α → Bool)
/-- The three searches by halves. -/
def bs1 (d : Array α) (a : Nat) : Nat → Nat → Nat → Nat
  | 0, i, _ => i
  | f + 1, i, j => if i < j then (if lt d[(i + j) / 2]! d[a]! = true then bs1 d a f ((i + j) / 2 + 1) j else bs1 d a f i ((i + j) / 2)) else i
def bs2 (d : Array α) (m : Nat) : Nat → Nat → Nat → Nat
  | 0, i, _ => i
  | f + 1, i, j => if i < j then (if lt d[m]! d[(i + j) / 2]! = true then bs2 d m f i ((i + j) / 2) else bs2 d m f ((i + j) / 2 + 1) j) else i
def bs3 (d : Array α) (p : Nat) : Nat → Nat → Nat → Nat
  | 0, i, _ => i
  | f + 1, i, j => if i < j then (if lt d[p - (i + j) / 2]! d[(i + j) / 2]! = true then bs3 d p f i ((i + j) / 2) else bs3 d p f ((i + j) / 2 + 1) j) else i
/-- data[k] goes up n places. -/
def upS : Nat → Nat → Array α → Array α
  | 0, _, d => d
  | n + 1, k, d => upS n (k + 1) (Sort.swp d k (k + 1))
/-- data[k] goes down n places. -/
def downS : Nat → Nat → Array α → Array α
  | 0, _, d => d
  | n + 1, k, d => downS n (k - 1) (Sort.swp d k (k - 1))
/-- symMerge. -/
def symM : Nat → Nat → Nat → Nat → Array α → Array α
  | 0, _, _, _, d => d
  | f + 1, a, m, b, d =>
    if m - a = 1 then upS (bs1 lt d a (b - m) m b - 1 - a) a d
    else if b - m = 1 then downS (m - bs2 lt d m (m - a) a m) m d
    else
      let mid := (a + b) / 2
      let n := mid + m
      let st := if mid < m then bs3 lt d (n - 1) (b - a) (n - b) mid else bs3 lt d (n - 1) (b - a) a m
      let en := n - st
      let d1 := if st < m ∧ m < en then rot m (en - st) (m - st) (en - m) d else d
      let d2 := if a < st ∧ st < mid then symM f a st mid d1 else d1
      if mid < en ∧ en < b then symM f mid en b d2 else d2
def insB (n : Nat) : Nat → Nat → Array α → Array α
  | 0, a, d => Sort.insertionSort lt d a n
  | f + 1, a, d => if a + 20 ≤ n then insB n f (a + 20) (Sort.insertionSort lt d a (a + 20)) else Sort.insertionSort lt d a n
def mrg (n bs : Nat) : Nat → Nat → Array α → Array α
  | 0, _, d => d
  | f + 1, a, d => if a + 2 * bs ≤ n then mrg n bs f (a + 2 * bs) (symM lt n a (a + bs) (a + 2 * bs) d) else if a + bs < n then symM lt n a (a + bs) n d else d
def pas (n : Nat) : Nat → Nat → Array α → Array α
  | 0, _, d => d
  | f + 1, bs, d => if bs < n then pas n f (2 * bs) (mrg lt n bs (n + 1) 0 d) else d
def stableA (n : Nat) (d : Array α) : Array α := pas lt n n 20 (insB lt n n 0 d)

/-! ### What is kept: the size, and which items there are. -/
theorem swp_perm (d : Array α) (i j : Nat) (hi : i < d.size) (hj : j < d.size) : (Sort.swp d i j).toList.Perm d.toList := by
  have h := Sort.swp_permIn (α := α)
  obtain ⟨h1, h2, h3⟩ := h d 0 d.size i j (Nat.zero_le _) hi (Nat.zero_le _) hj (Nat.le_refl _)
  have e1 : (Sort.swp d i j).extract 0 d.size = Sort.swp d i j := Array.extract_eq_self_of_le (by rw [Sort.size_swp]; exact Nat.le_refl _)
  have e2 : d.extract 0 d.size = d := Array.extract_eq_self_of_le (Nat.le_refl _)
  rw [e1, e2] at h3
  simpa using h3
end

end

/-! ### Stb -/
section
open Go.RowKit Go.Shelf

theorem swr_size {α : Type} [Inhabited α] (a b : Nat) : ∀ (n i : Nat) (d : Array α), (swr a b n i d).size = d.size
  | 0, _, _ => rfl
  | n + 1, i, d => by rw [swr, swr_size a b n]; exact Sort.size_swp ..
theorem rot_size {α : Type} [Inhabited α] (m : Nat) : ∀ (f i j : Nat) (d : Array α), (rot m f i j d).size = d.size
  | 0, _, _, _ => rfl
  | f + 1, i, j, d => by
    rw [rot]
    split
    · exact swr_size ..
    · split
      · rw [rot_size m f, swr_size]
      · rw [rot_size m f, swr_size]
section
variable {α : Type} [Inhabited α] {enc : α → List Value} {k : Nat} {w0 W W' : World} {blk off : Nat} {d d' : Array α}
theorem RowAt.here (h : RowAt enc k w0 blk off d W) : RowAt enc k W blk off d W := ⟨h.holds, h.frz, OffF.refl _ _⟩
theorem RowAt.on (h : RowAt enc k w0 blk off d W) (h' : RowAt enc k W blk off d' W') : RowAt enc k w0 blk off d' W' := ⟨h'.holds, h'.frz, h.off.trans h'.off⟩
theorem RowAt.lt (h : RowAt enc k w0 blk off d W) (hl : blk < w0.heap.size) : blk < W.heap.size := Nat.lt_of_lt_of_le hl h.off.size
theorem LessG.on {P : Program} {g : Nat} {lb : Array Value} {lt : α → α → Bool} {n : Nat} (hl : LessG P g lb enc k lt w0 blk off n) (h : RowAt enc k w0 blk off d W) : LessG P g lb enc k lt W blk off n :=
  fun W' d' h' hs i j hi hj => hl W' d' (h.on h') hs i j hi hj
theorem OffF.cellAt {b o : Nat} {v : Value} (h : OffF [blk] W W') (hb : b < W.heap.size) (hne : b ≠ blk) (hc : W.cell? ⟨b, o, none⟩ = some v) : W'.cell? ⟨b, o, none⟩ = some v :=
  (World.cell?_of_block (w := W) (a := ⟨b, o, none⟩) (h.block b hb (by simpa using hne))).trans hc
end
section
variable {α : Type} [Inhabited α]
set_option maxHeartbeats 4000000 in
set_option maxRecDepth 100000 in
theorem swr_any (enc : α → List Value) (k : Nat) (hk : ∀ x, (enc x).length = k) (g : Nat) (lb : Array Value) (sf : Nat) (sb : Array Value) (blk off a b n : Nat) (A B N : Int) (hA : A = (a : Int)) (hB : B = (b : Int)) (hN : N = (n : Int)) (d : Array α) (w : World)
    (hswap : SwapSwapsK Try.prog sf sb enc k blk off d.size) (hR : RowAt enc k w blk off d w) (hblk : blk < w.heap.size) (ha : a + n ≤ d.size) (hb : b + n ≤ d.size) (hsz : d.size < 2305843009213693952) :
    Calls Try.prog 126 #[.agg #[.func (.func g) #[] lb, .func (.func sf) #[] sb], .int .i64 A, .int .i64 B, .int .i64 N] w fun e w' => e = .returned (.tuple #[]) ∧ RowAt enc k w blk off (swr a b n 0 d) w' := by
  subst hA hB hN
  have HR := Lib.hid hR
  have HSW := Lib.hid hswap
  have HK := Lib.hid hk
  clear hR hswap hk
  go_enter Try.func126, Try.ntmps126
  go_wp2
  go_loopw [8] (fun s8 wr => ∃ (i : Nat) (dk : Array α), i ≤ n ∧ s8 = .int .i64 i ∧ dk.size = d.size ∧ Hid (RowAt enc k w blk off dk wr) ∧ wr.cell? ⟨w.heap.size, 0, none⟩ = some (.func (.func g) #[] lb) ∧ wr.cell? ⟨w.heap.size, 1, none⟩ = some (.func (.func sf) #[] sb) ∧ w.heap.size < wr.heap.size ∧ Hid (swr a b (n - i) i dk = swr a b n 0 d)) (fun s8 _ => n - (intOf s8).toNat)
  case atStart => exact ⟨0, d, Nat.zero_le _, rfl, rfl, Lib.hid (HR.out.below bwT hblk), by simp [go_sem], by simp [go_sem], by simp, Lib.hid rfl⟩
  case round =>
    clear HR
    obtain ⟨wb, hwb⟩ : ∃ wm : World, wm = wr := ⟨_, rfl⟩
    subst hwb
    obtain ⟨i, dk, hi, rfl, hsk, HRk, c0, c1, hlb, HO⟩ := hrel
    by_cases hlt : i < n
    · have hI : (i : Int) < (n : Int) := by omega
      have hs := HSW.out wb dk HRk.out.holds hsk (a + i) (b + i) (by omega) (by omega)
      have hsw := HRk.out.swp HK.out (i := a + i) (j := b + i) (by omega) (by omega)
      obtain ⟨we, hwe⟩ : ∃ W : World, W = (wb.setCells blk (off + (a + i) * k) (enc dk[b + i]!)).setCells blk (off + (b + i) * k) (enc dk[a + i]!) := ⟨_, rfl⟩
      rw [← hwe] at hsw hs
      have e0 := hsw.2.cellAt hlb (show w.heap.size ≠ blk by omega) c0
      have e1 := hsw.2.cellAt hlb (show w.heap.size ≠ blk by omega) c1
      have se := hsw.2.size
      have HRe := Lib.hid hsw.1
      have HO2 := Lib.hid (show swr a b (n - (i + 1)) (i + 1) (Sort.swp dk (a + i) (b + i)) = swr a b n 0 d by
        rw [← HO.out, show n - i = (n - (i + 1)) + 1 by omega, swr])
      have hsz2 : (Sort.swp dk (a + i) (b + i)).size = d.size := by rw [Sort.size_swp]; exact hsk
      rw [show (((a + i : Nat) : Int)) = (a : Int) + (i : Int) by omega, show (((b + i : Nat) : Int)) = (b : Int) + (i : Int) by omega] at hs
      have HS := Lib.hid hs
      clear hsw hwe hs
      go_wp2_with fail
      rw [HS.out, Oper.upon_value]
      go_wp2
      go_roundw
      case rel => exact ⟨i + 1, _, by omega, by go_num, hsz2, HRe, e0, e1, by omega, HO2⟩
      case measure => simp [intOf]; omega
    · have hI : ¬ (i : Int) < (n : Int) := by omega
      have HF := Lib.hid (show RowAt enc k w blk off (swr a b n 0 d) wb by
        rw [← HO.out, show n - i = 0 by omega]; exact HRk.out)
      clear HRk HO
      go_wp2
      go_end0
      exact ⟨rfl, HF.out⟩
end
section
variable {α : Type} [Inhabited α]
set_option maxHeartbeats 4000000 in
set_option maxRecDepth 100000 in
theorem rot_any (enc : α → List Value) (k : Nat) (hk : ∀ x, (enc x).length = k) (g : Nat) (lb : Array Value) (sf : Nat) (sb : Array Value) (blk off a m b : Nat) (A M B : Int) (hA : A = (a : Int)) (hM : M = (m : Int)) (hB : B = (b : Int)) (d : Array α) (w : World)
    (hswap : SwapSwapsK Try.prog sf sb enc k blk off d.size) (hR : RowAt enc k w blk off d w) (hblk : blk < w.heap.size) (ham : a < m) (hmb : m < b) (hb : b ≤ d.size) (hsz : d.size < 2305843009213693952) :
    Calls Try.prog 125 #[.agg #[.func (.func g) #[] lb, .func (.func sf) #[] sb], .int .i64 A, .int .i64 M, .int .i64 B] w fun e w' => e = .returned (.tuple #[]) ∧ RowAt enc k w blk off (rot m (b - a) (m - a) (b - m) d) w' := by
  subst hA hM hB
  have HR := Lib.hid hR
  have HSW := Lib.hid hswap
  have HK := Lib.hid hk
  clear hR hswap hk
  have q1 : (m : Int) - (a : Int) = ((m - a : Nat) : Int) := by omega
  have q2 : (b : Int) - (m : Int) = ((b - m : Nat) : Int) := by omega
  obtain ⟨i0, hi0⟩ : ∃ i, i = m - a := ⟨_, rfl⟩
  obtain ⟨j0, hj0⟩ : ∃ j, j = b - m := ⟨_, rfl⟩
  rw [← hi0] at q1 ⊢
  rw [← hj0] at q2 ⊢
  have hij : i0 ≤ m ∧ m + j0 ≤ d.size ∧ 1 ≤ i0 ∧ 1 ≤ j0 ∧ i0 + j0 = b - a := by omega
  obtain ⟨g1, g2, g3, g4, g5⟩ := hij
  have HF0 := Lib.hid g5
  clear hi0 hj0 g5
  go_enter Try.func125, Try.ntmps125
  go_wp2
  go_loopw [8, 9] (fun s8 s9 wr => ∃ (i j f : Nat) (dk : Array α), s8 = .int .i64 i ∧ s9 = .int .i64 j ∧ i ≤ m ∧ m + j ≤ d.size ∧ 1 ≤ i ∧ 1 ≤ j ∧ i + j ≤ f ∧ dk.size = d.size ∧ Hid (RowAt enc k w blk off dk wr) ∧ wr.cell? ⟨w.heap.size, 0, none⟩ = some (.func (.func g) #[] lb) ∧ wr.cell? ⟨w.heap.size, 1, none⟩ = some (.func (.func sf) #[] sb) ∧ w.heap.size < wr.heap.size ∧ Hid (rot m f i j dk = rot m (b - a) i0 j0 d)) (fun s8 s9 _ => (intOf s8).toNat + (intOf s9).toNat)
  case atStart => exact ⟨i0, j0, b - a, d, rfl, rfl, g1, g2, g3, g4, by have := HF0.out; omega, rfl, Lib.hid (HR.out.below bwT hblk), by simp [go_sem], by simp [go_sem], by simp, Lib.hid rfl⟩
  case round =>
    clear HR q1 q2 HF0
    obtain ⟨wb, hwb⟩ : ∃ wm : World, wm = wr := ⟨_, rfl⟩
    subst hwb
    obtain ⟨i, j, f, dk, rfl, rfl, h1, h2, h3, h4, hf, hsk, HRk, c0, c1, hlb, HO⟩ := hrel
    obtain ⟨f', hf'⟩ : ∃ f', f = f' + 1 := ⟨f - 1, by omega⟩
    have HSK : SwapSwapsK Try.prog sf sb enc k blk off dk.size := by rw [hsk]; exact HSW.out
    have HSK := Lib.hid HSK
    have hlk := HRk.out.lt hblk
    by_cases hij : i = j
    · subst hij
      have HF := Lib.hid (show rot m (b - a) i0 j0 d = swr (m - i) m i 0 dk by rw [← HO.out, hf', rot, if_pos rfl])
      clear HO hf hf'
      go_wp2_with fail
      refine (swr_any enc k HK.out g lb sf sb blk off (m - i) m i _ _ _ (by omega) rfl rfl dk _ HSK.out (HRk.out.here.below bwT hlk |>.here) hlk (by omega) (by omega) (by omega)).mono ?_
      rintro e w' ⟨rfl, hr⟩
      have HFF := Lib.hid (show RowAt enc k w blk off (rot m (b - a) i0 j0 d) w' by rw [HF.out]; exact HRk.out.on hr)
      clear hr HRk
      go_wp2
      go_end0
      exact ⟨rfl, HFF.out⟩
    · have hne : ((i : Int) == (j : Int)) = false := by simp; omega
      by_cases hji : j < i
      · have hJ : (j : Int) < (i : Int) := by omega
        have HO2 := Lib.hid (show rot m f' (i - j) j (swr (m - i) m j 0 dk) = rot m (b - a) i0 j0 d by rw [← HO.out, hf', rot, if_neg hij, if_pos hji])
        clear HO
        go_wp2_with fail
        refine (swr_any enc k HK.out g lb sf sb blk off (m - i) m j _ _ _ (by omega) rfl rfl dk _ HSK.out (HRk.out.here.below bwT hlk |>.here) hlk (by omega) (by omega) (by omega)).mono ?_
        rintro e w' ⟨rfl, hr⟩
        have e0 := hr.off.cellAt hlb (show w.heap.size ≠ blk by omega) c0
        have e1 := hr.off.cellAt hlb (show w.heap.size ≠ blk by omega) c1
        have se := hr.off.size
        have HRe := Lib.hid (HRk.out.on hr)
        have hq : (i : Int) - (j : Int) = ((i - j : Nat) : Int) := by omega
        clear hr HRk
        go_wp2
        go_roundw
        case rel => exact ⟨i - j, j, f', _, rfl, rfl, by omega, by omega, by omega, by omega, by omega, by rw [swr_size]; exact hsk, HRe, e0, e1, by omega, HO2⟩
        case measure => simp [intOf]; omega
      · have hJ : ¬ (j : Int) < (i : Int) := by omega
        have HO2 := Lib.hid (show rot m f' i (j - i) (swr (m - i) (m + j - i) i 0 dk) = rot m (b - a) i0 j0 d by rw [← HO.out, hf', rot, if_neg hij, if_neg hji])
        clear HO
        go_wp2_with fail
        refine (swr_any enc k HK.out g lb sf sb blk off (m - i) (m + j - i) i _ _ _ (by omega) (by omega) rfl dk _ HSK.out (HRk.out.here.below bwT hlk |>.here) hlk (by omega) (by omega) (by omega)).mono ?_
        rintro e w' ⟨rfl, hr⟩
        have e0 := hr.off.cellAt hlb (show w.heap.size ≠ blk by omega) c0
        have e1 := hr.off.cellAt hlb (show w.heap.size ≠ blk by omega) c1
        have se := hr.off.size
        have HRe := Lib.hid (HRk.out.on hr)
        have hq : (j : Int) - (i : Int) = ((j - i : Nat) : Int) := by omega
        clear hr HRk
        go_wp2
        go_roundw
        case rel => exact ⟨i, j - i, f', _, rfl, rfl, by omega, by omega, by omega, by omega, by omega, by rw [swr_size]; exact hsk, HRe, e0, e1, by omega, HO2⟩
        case measure => simp [intOf]; omega
end

end

/-! ### Sym -/
section
open Go.RowKit Go.Shelf

theorem up_size {α : Type} [Inhabited α] : ∀ (n k : Nat) (d : Array α), (upS n k d).size = d.size
  | 0, _, _ => rfl
  | n + 1, k, d => by rw [upS, up_size n]; exact Sort.size_swp ..
theorem down_size {α : Type} [Inhabited α] : ∀ (n k : Nat) (d : Array α), (downS n k d).size = d.size
  | 0, _, _ => rfl
  | n + 1, k, d => by rw [downS, down_size n]; exact Sort.size_swp ..
theorem ite_size {α : Type} {c : Prop} [Decidable c] {x y : Array α} {n : Nat} (h1 : x.size = n) (h2 : y.size = n) : (if c then x else y).size = n := by split <;> assumption
theorem sym_size {α : Type} [Inhabited α] (lt : α → α → Bool) : ∀ (f a m b : Nat) (d : Array α), (symM lt f a m b d).size = d.size
  | 0, _, _, _, _ => rfl
  | f + 1, a, m, b, d => by
    rw [symM]
    refine ite_size (up_size ..) (ite_size (down_size ..) ?_)
    simp only
    have h1 : ∀ (c : Prop) [Decidable c] (s e : Nat), (if c then rot m (e - s) (m - s) (e - m) d else d).size = d.size := fun c _ s e => ite_size (rot_size ..) rfl
    exact ite_size (by rw [sym_size lt f]; exact ite_size (by rw [sym_size lt f]; exact h1 ..) (h1 ..)) (ite_size (by rw [sym_size lt f]; exact h1 ..) (h1 ..))
section
variable {α : Type} [Inhabited α]
set_option maxHeartbeats 8000000 in
set_option maxRecDepth 100000 in
theorem sym_any (enc : α → List Value) (k : Nat) (hk : ∀ x, (enc x).length = k) (lt : α → α → Bool) (g : Nat) (lb : Array Value) (sf : Nat) (sb : Array Value) (blk off : Nat) (eg : ∀ args w, (callFunc g args).run Try.prog w = .ok (.enter g args) w) (sz : Nat) (hsz : sz < 2305843009213693952) (hswap : SwapSwapsK Try.prog sf sb enc k blk off sz) (f : Nat) :
    ∀ (a m b : Nat) (A M B : Int) (hA : A = (a : Int)) (hM : M = (m : Int)) (hB : B = (b : Int)) (d : Array α) (w : World) (hds : d.size = sz) (hless : LessG Try.prog g lb enc k lt w blk off sz) (hR : RowAt enc k w blk off d w) (hblk : blk < w.heap.size) (ham : a < m) (hmb : m < b) (hb : b ≤ sz) (hf : b - a ≤ f),
    Calls Try.prog 119 #[.agg #[.func (.func g) #[] lb, .func (.func sf) #[] sb], .int .i64 A, .int .i64 M, .int .i64 B] w fun e w' => e = .returned (.tuple #[]) ∧ RowAt enc k w blk off (symM lt f a m b d) w' := by
  induction f with
  | zero => intro a m b A M B hA hM hB d w hds hless hR hblk ham hmb hb hf; omega
  | succ f ih =>
    intro a m b A M B hA hM hB d w hds hless hR hblk ham hmb hb hf
    subst hA hM hB
    have HR := Lib.hid hR
    have HSW := Lib.hid hswap
    have HLESS := Lib.hid hless
    have HK := Lib.hid hk
    have IH := Lib.hid ih
    clear hR hswap hk hless ih
    by_cases h1 : m - a = 1
    · have h1I : (m : Int) - (a : Int) = 1 := by omega
      have HRES := Lib.hid (show symM lt (f + 1) a m b d = upS (bs1 lt d a (b - m) m b - 1 - a) a d by rw [symM, if_pos h1])
      clear IH
      go_enter Try.func119, Try.ntmps119
      go_wp2
      go_loopw [8, 9, 10] (fun s1 s2 _ wr => ∃ (i j c : Nat), s1 = .int .i64 i ∧ s2 = .int .i64 j ∧ m ≤ i ∧ i ≤ j ∧ j ≤ b ∧ j - i ≤ c ∧ Hid (RowAt enc k w blk off d wr) ∧ wr.cell? ⟨w.heap.size, 0, none⟩ = some (.func (.func g) #[] lb) ∧ wr.cell? ⟨w.heap.size, 1, none⟩ = some (.func (.func sf) #[] sb) ∧ w.heap.size < wr.heap.size ∧ Hid (bs1 lt d a c i j = bs1 lt d a (b - m) m b)) (fun s1 s2 _ _ => (intOf s2).toNat - (intOf s1).toNat)
      case atStart => exact ⟨m, b, b - m, rfl, rfl, Nat.le_refl _, by omega, Nat.le_refl _, Nat.le_refl _, Lib.hid (HR.out.below bwT hblk), by simp [go_sem], by simp [go_sem], by simp, Lib.hid rfl⟩
      case round =>
        obtain ⟨wb, hwb⟩ : ∃ wm : World, wm = wr := ⟨_, rfl⟩
        subst hwb
        obtain ⟨i, j, c, rfl, rfl, hi, hij, hj, hc, HRk, c0, c1, hlb, HO⟩ := hrel
        by_cases hlt : i < j
        · have hI : (i : Int) < (j : Int) := by omega
          obtain ⟨h, hh⟩ : ∃ h, h = (i + j) / 2 := ⟨_, rfl⟩
          have qh : ((i : Int) + (j : Int)) / 2 = (h : Int) := by omega
          have hih : i ≤ h ∧ h < j := by omega
          obtain ⟨hih1, hih2⟩ := hih
          obtain ⟨c', hc'⟩ : ∃ c', c = c' + 1 := ⟨c - 1, by omega⟩
          have hcu : j - (h + 1) ≤ c' ∧ h - i ≤ c' := by omega
          obtain ⟨hcu1, hcu2⟩ := hcu

          have hl := HLESS.out wb d HRk.out hds (h) (a) (by omega) (by omega)

          cases hlv : lt d[h]! d[a]! with
          | true =>
            rw [hlv] at hl
            have HO2 := Lib.hid (show bs1 lt d a c' (h + 1) j = bs1 lt d a (b - m) m b by rw [← HO.out, hc', bs1, if_pos hlt, ← hh, hlv]; rfl)
            clear hlv hh hc' HO
            go_wp2_with (go_at_fn g; refine hl.mono ?_; rintro e w' ⟨rfl, hb'⟩; have d0 := oldc hb' hlb c0; have d1 := oldc hb' hlb c1)
            have HRn := Lib.hid (HRk.out.below hb' hblk)
            have sb' := hb'.size
            go_roundw
            case rel => exact ⟨h + 1, j, c', by go_num, rfl, by omega, by omega, hj, by omega, HRn, d0, d1, by omega, HO2⟩
            case measure => simp [intOf]; omega
          | false =>
            rw [hlv] at hl
            have HO2 := Lib.hid (show bs1 lt d a c' i h = bs1 lt d a (b - m) m b by rw [← HO.out, hc', bs1, if_pos hlt, ← hh, hlv]; rfl)
            clear hlv hh hc' HO
            go_wp2_with (go_at_fn g; refine hl.mono ?_; rintro e w' ⟨rfl, hb'⟩; have d0 := oldc hb' hlb c0; have d1 := oldc hb' hlb c1)
            have HRn := Lib.hid (HRk.out.below hb' hblk)
            have sb' := hb'.size
            go_roundw
            case rel => exact ⟨i, h, c', rfl, rfl, hi, by omega, by omega, by omega, HRn, d0, d1, by omega, HO2⟩
            case measure => simp [intOf]; omega
        · have hI : ¬ (i : Int) < (j : Int) := by omega
          obtain rfl : i = j := by omega
          have HB := Lib.hid (show bs1 lt d a (b - m) m b = i by
            rw [← HO.out]
            cases c with
            | zero => rfl
            | succ c => rw [bs1, if_neg (by omega)])
          clear HO hc
          have HRES2 := Lib.hid (show symM lt (f + 1) a m b d = upS (i - 1 - a) a d by rw [HRES.out, HB.out])
          have qi : (i : Int) - 1 = ((i - 1 : Nat) : Int) := by omega
          obtain ⟨i1, hi1⟩ : ∃ i1, i1 = i - 1 := ⟨_, rfl⟩
          rw [← hi1] at qi HRES2
          have hi1a : a ≤ i1 ∧ i1 + 1 ≤ b := by omega
          obtain ⟨hi1b, hi1c⟩ := hi1a
          clear HB HRES hi1
          go_wp2
          go_loopw [11] (fun s1 wr => ∃ (q : Nat) (dk : Array α), s1 = .int .i64 q ∧ a ≤ q ∧ q ≤ i1 ∧ dk.size = sz ∧ Hid (RowAt enc k w blk off dk wr) ∧ wr.cell? ⟨w.heap.size, 0, none⟩ = some (.func (.func g) #[] lb) ∧ wr.cell? ⟨w.heap.size, 1, none⟩ = some (.func (.func sf) #[] sb) ∧ w.heap.size < wr.heap.size ∧ Hid (upS (i1 - q) q dk = upS (i1 - a) a d)) (fun s1 _ => i1 - (intOf s1).toNat)
          case atStart => exact ⟨a, d, rfl, Nat.le_refl _, hi1b, hds, HRk, c0, c1, hlb, Lib.hid rfl⟩
          case round =>
            clear HRk c0 c1 hlb
            obtain ⟨wd, hwd⟩ : ∃ wm : World, wm = wr := ⟨_, rfl⟩
            subst hwd
            obtain ⟨q, dk, rfl, hq1, hq2, hsk, HRk, c0, c1, hlb, HO⟩ := hrel
            by_cases hlt2 : q < i1
            · have hI2 : (q : Int) < (i1 : Int) := by omega
              have hs := HSW.out wd dk HRk.out.holds hsk (q) (q + 1) (by omega) (by omega)
              have hsw := HRk.out.swp HK.out (i := q) (j := q + 1) (by omega) (by omega)
              obtain ⟨we, hwe⟩ : ∃ W : World, W = (wd.setCells blk (off + (q) * k) (enc dk[q + 1]!)).setCells blk (off + (q + 1) * k) (enc dk[q]!) := ⟨_, rfl⟩
              rw [← hwe] at hsw hs
              have e0 := hsw.2.cellAt hlb (show w.heap.size ≠ blk by omega) c0
              have e1 := hsw.2.cellAt hlb (show w.heap.size ≠ blk by omega) c1
              have se := hsw.2.size
              have HRe := Lib.hid hsw.1
              have HO2 := Lib.hid (show upS (i1 - (q + 1)) (q + 1) (Sort.swp dk (q) (q + 1)) = upS (i1 - a) a d by
                rw [← HO.out, show i1 - q = (i1 - (q + 1)) + 1 by omega, upS])
              have hsz2 : (Sort.swp dk (q) (q + 1)).size = sz := by rw [Sort.size_swp]; exact hsk
              rw [show (((q + 1 : Nat) : Int)) = (q : Int) + 1 by omega] at hs
              have HS := Lib.hid hs
              clear hsw hwe hs HO
              go_wp2_with fail
              rw [HS.out, Oper.upon_value]
              go_wp2
              go_roundw
              case rel => exact ⟨q + 1, _, by go_num, by omega, by omega, hsz2, HRe, e0, e1, by omega, HO2⟩
              case measure => simp [intOf]; omega
            · have hI2 : ¬ (q : Int) < (i1 : Int) := by omega
              have HF := Lib.hid (show RowAt enc k w blk off (symM lt (f + 1) a m b d) wd by
                rw [HRES2.out, ← HO.out, show i1 - q = 0 by omega]; exact HRk.out)
              clear HRk HO HRES2
              go_wp2
              first | (go_end0; exact ⟨rfl, HF.out⟩) | ((try simp only [Exit.inBlock, Exit.then]); refine bodyPost_ret (results_none rfl _ _ _) rfl ?_; exact ⟨rfl, HF.out⟩)
    · have h1I : ((m : Int) - (a : Int) == 1) = false := by simp; omega
      by_cases h2 : b - m = 1
      · have h2I : (b : Int) - (m : Int) = 1 := by omega
        have HRES := Lib.hid (show symM lt (f + 1) a m b d = downS (m - bs2 lt d m (m - a) a m) m d by rw [symM, if_neg h1, if_pos h2])
        clear IH
        go_enter Try.func119, Try.ntmps119
        go_wp2
        go_loopw [12, 13, 14] (fun s1 s2 _ wr => ∃ (i j c : Nat), s1 = .int .i64 i ∧ s2 = .int .i64 j ∧ a ≤ i ∧ i ≤ j ∧ j ≤ m ∧ j - i ≤ c ∧ Hid (RowAt enc k w blk off d wr) ∧ wr.cell? ⟨w.heap.size, 0, none⟩ = some (.func (.func g) #[] lb) ∧ wr.cell? ⟨w.heap.size, 1, none⟩ = some (.func (.func sf) #[] sb) ∧ w.heap.size < wr.heap.size ∧ Hid (bs2 lt d m c i j = bs2 lt d m (m - a) a m)) (fun s1 s2 _ _ => (intOf s2).toNat - (intOf s1).toNat)
        case atStart => exact ⟨a, m, m - a, rfl, rfl, Nat.le_refl _, by omega, Nat.le_refl _, Nat.le_refl _, Lib.hid (HR.out.below bwT hblk), by simp [go_sem], by simp [go_sem], by simp, Lib.hid rfl⟩
        case round =>
          obtain ⟨wb, hwb⟩ : ∃ wm : World, wm = wr := ⟨_, rfl⟩
          subst hwb
          obtain ⟨i, j, c, rfl, rfl, hi, hij, hj, hc, HRk, c0, c1, hlb, HO⟩ := hrel
          by_cases hlt : i < j
          · have hI : (i : Int) < (j : Int) := by omega
            obtain ⟨h, hh⟩ : ∃ h, h = (i + j) / 2 := ⟨_, rfl⟩
            have qh : ((i : Int) + (j : Int)) / 2 = (h : Int) := by omega
            have hih : i ≤ h ∧ h < j := by omega
            obtain ⟨hih1, hih2⟩ := hih
            obtain ⟨c', hc'⟩ : ∃ c', c = c' + 1 := ⟨c - 1, by omega⟩
            have hcu : j - (h + 1) ≤ c' ∧ h - i ≤ c' := by omega
            obtain ⟨hcu1, hcu2⟩ := hcu

            have hl := HLESS.out wb d HRk.out hds (m) (h) (by omega) (by omega)

            cases hlv : lt d[m]! d[h]! with
            | true =>
              rw [hlv] at hl
              have HO2 := Lib.hid (show bs2 lt d m c' i h = bs2 lt d m (m - a) a m by rw [← HO.out, hc', bs2, if_pos hlt, ← hh, hlv]; rfl)
              clear hlv hh hc' HO
              go_wp2_with (go_at_fn g; refine hl.mono ?_; rintro e w' ⟨rfl, hb'⟩; have d0 := oldc hb' hlb c0; have d1 := oldc hb' hlb c1)
              have HRn := Lib.hid (HRk.out.below hb' hblk)
              have sb' := hb'.size
              go_roundw
              case rel => exact ⟨i, h, c', rfl, rfl, hi, by omega, by omega, by omega, HRn, d0, d1, by omega, HO2⟩
              case measure => simp [intOf]; omega
            | false =>
              rw [hlv] at hl
              have HO2 := Lib.hid (show bs2 lt d m c' (h + 1) j = bs2 lt d m (m - a) a m by rw [← HO.out, hc', bs2, if_pos hlt, ← hh, hlv]; rfl)
              clear hlv hh hc' HO
              go_wp2_with (go_at_fn g; refine hl.mono ?_; rintro e w' ⟨rfl, hb'⟩; have d0 := oldc hb' hlb c0; have d1 := oldc hb' hlb c1)
              have HRn := Lib.hid (HRk.out.below hb' hblk)
              have sb' := hb'.size
              go_roundw
              case rel => exact ⟨h + 1, j, c', by go_num, rfl, by omega, by omega, hj, by omega, HRn, d0, d1, by omega, HO2⟩
              case measure => simp [intOf]; omega
          · have hI : ¬ (i : Int) < (j : Int) := by omega
            obtain rfl : i = j := by omega
            have HB := Lib.hid (show bs2 lt d m (m - a) a m = i by
              rw [← HO.out]
              cases c with
              | zero => rfl
              | succ c => rw [bs2, if_neg (by omega)])
            clear HO hc
            have HRES2 := Lib.hid (show symM lt (f + 1) a m b d = downS (m - i) m d by rw [HRES.out, HB.out])
            clear HB HRES
            go_wp2
            go_loopw [15] (fun s1 wr => ∃ (q : Nat) (dk : Array α), s1 = .int .i64 q ∧ i ≤ q ∧ q ≤ m ∧ dk.size = sz ∧ Hid (RowAt enc k w blk off dk wr) ∧ wr.cell? ⟨w.heap.size, 0, none⟩ = some (.func (.func g) #[] lb) ∧ wr.cell? ⟨w.heap.size, 1, none⟩ = some (.func (.func sf) #[] sb) ∧ w.heap.size < wr.heap.size ∧ Hid (downS (q - i) q dk = downS (m - i) m d)) (fun s1 _ => (intOf s1).toNat)
            case atStart => exact ⟨m, d, rfl, by omega, Nat.le_refl _, hds, HRk, c0, c1, hlb, Lib.hid rfl⟩
            case round =>
              clear HRk c0 c1 hlb
              obtain ⟨wd, hwd⟩ : ∃ wm : World, wm = wr := ⟨_, rfl⟩
              subst hwd
              obtain ⟨q, dk, rfl, hq1, hq2, hsk, HRk, c0, c1, hlb, HO⟩ := hrel
              by_cases hlt2 : i < q
              · have hI2 : (i : Int) < (q : Int) := by omega
                have hs := HSW.out wd dk HRk.out.holds hsk (q) (q - 1) (by omega) (by omega)
                have hsw := HRk.out.swp HK.out (i := q) (j := q - 1) (by omega) (by omega)
                obtain ⟨we, hwe⟩ : ∃ W : World, W = (wd.setCells blk (off + (q) * k) (enc dk[q - 1]!)).setCells blk (off + (q - 1) * k) (enc dk[q]!) := ⟨_, rfl⟩
                rw [← hwe] at hsw hs
                have e0 := hsw.2.cellAt hlb (show w.heap.size ≠ blk by omega) c0
                have e1 := hsw.2.cellAt hlb (show w.heap.size ≠ blk by omega) c1
                have se := hsw.2.size
                have HRe := Lib.hid hsw.1
                have HO2 := Lib.hid (show downS ((q - 1) - i) (q - 1) (Sort.swp dk (q) (q - 1)) = downS (m - i) m d by
                  rw [← HO.out, show q - i = ((q - 1) - i) + 1 by omega, downS])
                have hsz2 : (Sort.swp dk (q) (q - 1)).size = sz := by rw [Sort.size_swp]; exact hsk
                rw [show (((q - 1 : Nat) : Int)) = (q : Int) - 1 by omega] at hs
                have qq : (q : Int) - 1 = ((q - 1 : Nat) : Int) := by omega
                have HS := Lib.hid hs
                have QQ := Lib.hid qq
                clear hsw hwe hs HO qq
                go_wp2_with fail
                rw [HS.out, Oper.upon_value]
                go_wp2
                go_roundw
                case rel => exact ⟨q - 1, _, by rw [← QQ.out], by omega, by omega, hsz2, HRe, e0, e1, by omega, HO2⟩
                case measure => simp [intOf]; omega
              · have hI2 : ¬ (i : Int) < (q : Int) := by omega
                have HF := Lib.hid (show RowAt enc k w blk off (symM lt (f + 1) a m b d) wd by
                  rw [HRES2.out, ← HO.out, show q - i = 0 by omega]; exact HRk.out)
                clear HRk HO HRES2
                go_wp2
                first | (go_end0; exact ⟨rfl, HF.out⟩) | ((try simp only [Exit.inBlock, Exit.then]); refine bodyPost_ret (results_none rfl _ _ _) rfl ?_; exact ⟨rfl, HF.out⟩)
      · have h2I : ((b : Int) - (m : Int) == 1) = false := by simp; omega
        obtain ⟨mid, hmid⟩ : ∃ mid, mid = (a + b) / 2 := ⟨_, rfl⟩
        have qmid : ((a : Int) + (b : Int)) / 2 = (mid : Int) := by omega
        have hmb2 : a < mid ∧ mid < b := by omega
        obtain ⟨hma, hmbb⟩ := hmb2
        obtain ⟨n, hn⟩ : ∃ n, n = mid + m := ⟨_, rfl⟩
        obtain ⟨st0, hst0⟩ : ∃ s, s = if mid < m then n - b else a := ⟨_, rfl⟩
        obtain ⟨r0, hr0⟩ : ∃ r, r = if mid < m then mid else m := ⟨_, rfl⟩
        have hgeo : st0 ≤ r0 ∧ r0 - st0 ≤ b - a ∧ r0 ≤ n ∧ n - st0 ≤ b ∧ a ≤ st0 ∧ 1 ≤ n ∧ r0 ≤ b ∧ (∀ h, st0 ≤ h → h < r0 → h ≤ n - 1 ∧ n - 1 - h < b) := by
          rw [hst0, hr0, hn]
          by_cases hc : mid < m
          · rw [if_pos hc, if_pos hc]; refine ⟨by omega, by omega, by omega, by omega, by omega, by omega, by omega, fun h x y => ⟨by omega, by omega⟩⟩
          · rw [if_neg hc, if_neg hc]; refine ⟨by omega, by omega, by omega, by omega, by omega, by omega, by omega, fun h x y => ⟨by omega, by omega⟩⟩
        obtain ⟨hg1, hg2, hg3, hg4, hg5, hg6, hg8, hg7⟩ := hgeo
        have HG7 := Lib.hid hg7
        obtain ⟨st, hst⟩ : ∃ s, s = bs3 lt d (n - 1) (b - a) st0 r0 := ⟨_, rfl⟩
        obtain ⟨en, hen⟩ : ∃ e, e = n - st := ⟨_, rfl⟩
        obtain ⟨D1, hD1⟩ : ∃ D, D = if st < m ∧ m < en then rot m (en - st) (m - st) (en - m) d else d := ⟨_, rfl⟩
        obtain ⟨D2, hD2⟩ : ∃ D, D = if a < st ∧ st < mid then symM lt f a st mid D1 else D1 := ⟨_, rfl⟩
        obtain ⟨D3, hD3⟩ : ∃ D, D = if mid < en ∧ en < b then symM lt f mid en b D2 else D2 := ⟨_, rfl⟩
        have HRES := Lib.hid (show symM lt (f + 1) a m b d = D3 by
          have e : (if mid < m then bs3 lt d (n - 1) (b - a) (n - b) mid else bs3 lt d (n - 1) (b - a) a m) = st := by
            rw [hst, hst0, hr0]
            split <;> rfl
          rw [symM, if_neg h1, if_neg h2]
          simp only
          rw [← hmid, ← hn, e, ← hen, ← hD1, ← hD2, ← hD3])
        have HD1 := Lib.hid hD1
        have HD2 := Lib.hid hD2
        have HD3 := Lib.hid hD3
        have HST := Lib.hid hst
        have HEN := Lib.hid hen
        have HST0 := Lib.hid hst0
        have HR0 := Lib.hid hr0
        have HN := Lib.hid hn
        have hnI : (mid : Int) + (m : Int) = (n : Int) := by omega
        have hp : (n : Int) - 1 = ((n - 1 : Nat) : Int) := by omega
        have hnb : n < 4611686018427387904 := by omega
        have hds1 : D1.size = sz := by
          rw [hD1]; split
          · rw [rot_size]; exact hds
          · exact hds
        have hds2 : D2.size = sz := by
          rw [hD2]; split
          · rw [sym_size]; exact hds1
          · exact hds1
        clear hst0 hr0 hst hen hD1 hD2 hD3 hg7 hmid hn
        rw [HRES.out]
        clear HRES
        go_enter Try.func119, Try.ntmps119
        go_upto_if 106 with fail
        go_cut [18, 19] (fun s18 s19 wx => s18 = .int .i64 st0 ∧ s19 = .int .i64 r0 ∧ Hid (RowAt enc k w blk off d wx) ∧ wx.cell? ⟨w.heap.size, 0, none⟩ = some (.func (.func g) #[] lb) ∧ wx.cell? ⟨w.heap.size, 1, none⟩ = some (.func (.func sf) #[] sb) ∧ w.heap.size < wx.heap.size)
        case first =>
          have HRA := Lib.hid (HR.out.below (W' := w.alloc (.cells #[.func (.func g) #[] lb, .func (.func sf) #[] sb] 119)) bwT hblk)
          by_cases hc : mid < m
          · have hcI : (mid : Int) < (m : Int) := by omega
            have e1 := HST0.out
            have e2 := HR0.out
            have e3 := HN.out
            rw [if_pos hc] at e1 e2
            have hs : (n : Int) - (b : Int) = (st0 : Int) := by omega
            have E2 := Lib.hid e2
            clear e1 e2 e3 hc
            go_wp2_with fail
            go_meet
            exact ⟨rfl, by rw [E2.out], HRA, by simp [go_sem], by simp [go_sem], by simp⟩
          · have hcI : ¬ (mid : Int) < (m : Int) := by omega
            have e1 := HST0.out
            have e2 := HR0.out
            rw [if_neg hc] at e1 e2
            have E1 := Lib.hid e1
            have E2 := Lib.hid e2
            clear e1 e2 hc
            go_wp2_with fail
            go_meet
            exact ⟨by rw [E1.out], by rw [E2.out], HRA, by simp [go_sem], by simp [go_sem], by simp⟩
        case rest =>
          obtain ⟨rfl, rfl, HRk, c0, c1, hlb⟩ := hcut
          obtain ⟨wy, hwy⟩ : ∃ W : World, W = wc := ⟨_, rfl⟩
          subst hwy
          clear HST0 HR0
          go_wp2
          go_loopw [18, 19, 21] (fun s1 s2 _ wr => ∃ (i j c : Nat), s1 = .int .i64 i ∧ s2 = .int .i64 j ∧ st0 ≤ i ∧ i ≤ j ∧ j ≤ r0 ∧ j - i ≤ c ∧ Hid (RowAt enc k w blk off d wr) ∧ wr.cell? ⟨w.heap.size, 0, none⟩ = some (.func (.func g) #[] lb) ∧ wr.cell? ⟨w.heap.size, 1, none⟩ = some (.func (.func sf) #[] sb) ∧ w.heap.size < wr.heap.size ∧ Hid (bs3 lt d (n - 1) c i j = bs3 lt d (n - 1) (b - a) st0 r0)) (fun s1 s2 _ _ => (intOf s2).toNat - (intOf s1).toNat)
          case atStart => exact ⟨st0, r0, b - a, rfl, rfl, Nat.le_refl _, hg1, Nat.le_refl _, hg2, HRk, c0, c1, hlb, Lib.hid rfl⟩
          case round =>
            obtain ⟨wb, hwb⟩ : ∃ wm : World, wm = wr := ⟨_, rfl⟩
            subst hwb
            obtain ⟨i, j, c, rfl, rfl, hi, hij, hj, hc, HRk, c0, c1, hlb, HO⟩ := hrel
            by_cases hlt : i < j
            · have hI : (i : Int) < (j : Int) := by omega
              obtain ⟨h, hh⟩ : ∃ h, h = (i + j) / 2 := ⟨_, rfl⟩
              have qh : ((i : Int) + (j : Int)) / 2 = (h : Int) := by omega
              have hih : i ≤ h ∧ h < j := by omega
              obtain ⟨hih1, hih2⟩ := hih
              obtain ⟨c', hc'⟩ : ∃ c', c = c' + 1 := ⟨c - 1, by omega⟩
              have hcu : j - (h + 1) ≤ c' ∧ h - i ≤ c' := by omega
              obtain ⟨hcu1, hcu2⟩ := hcu
              have hph := HG7.out h (by omega) (by omega)
              obtain ⟨hph1, hph2⟩ := hph
              have hl := HLESS.out wb d HRk.out hds (n - 1 - h) (h) (by omega) (by omega)
              rw [show (((n - 1 - h : Nat) : Int)) = ((n - 1 : Nat) : Int) - (h : Int) by omega] at hl
              cases hlv : lt d[n - 1 - h]! d[h]! with
              | true =>
                rw [hlv] at hl
                have HO2 := Lib.hid (show bs3 lt d (n - 1) c' i h = bs3 lt d (n - 1) (b - a) st0 r0 by rw [← HO.out, hc', bs3, if_pos hlt, ← hh, hlv]; rfl)
                clear hlv hh hc' HO
                go_wp2_with (go_at_fn g; refine hl.mono ?_; rintro e w' ⟨rfl, hb'⟩; have d0 := oldc hb' hlb c0; have d1 := oldc hb' hlb c1)
                have HRn := Lib.hid (HRk.out.below hb' hblk)
                have sb' := hb'.size
                go_roundw
                case rel => exact ⟨i, h, c', rfl, rfl, hi, by omega, by omega, by omega, HRn, d0, d1, by omega, HO2⟩
                case measure => simp [intOf]; omega
              | false =>
                rw [hlv] at hl
                have HO2 := Lib.hid (show bs3 lt d (n - 1) c' (h + 1) j = bs3 lt d (n - 1) (b - a) st0 r0 by rw [← HO.out, hc', bs3, if_pos hlt, ← hh, hlv]; rfl)
                clear hlv hh hc' HO
                go_wp2_with (go_at_fn g; refine hl.mono ?_; rintro e w' ⟨rfl, hb'⟩; have d0 := oldc hb' hlb c0; have d1 := oldc hb' hlb c1)
                have HRn := Lib.hid (HRk.out.below hb' hblk)
                have sb' := hb'.size
                go_roundw
                case rel => exact ⟨h + 1, j, c', by go_num, rfl, by omega, by omega, hj, by omega, HRn, d0, d1, by omega, HO2⟩
                case measure => simp [intOf]; omega
            · have hI : ¬ (i : Int) < (j : Int) := by omega
              obtain rfl : i = j := by omega
              have HB := Lib.hid (show bs3 lt d (n - 1) (b - a) st0 r0 = i by
                rw [← HO.out]
                cases c with
                | zero => rfl
                | succ c => rw [bs3, if_neg (by omega)])
              clear HO hc
              have HSTE := Lib.hid (show st = i from HST.out.trans HB.out)
              obtain rfl : st = i := HSTE.out
              clear HST HB HSTE HG7
              have hen2 : (n : Int) - (st : Int) = (en : Int) := by have := HEN.out; omega
              have hen3 : en ≤ b := by have := HEN.out; omega
              clear HEN
              obtain ⟨x1, hx1⟩ : ∃ x, x = decide (st < m ∧ m < en) := ⟨_, rfl⟩
              have Hx1 := Lib.hid hx1
              clear hx1
              go_upto_region 40 with fail
              go_cut [145] (fun s wx => s = .bool x1 ∧ wb = wx)
              case first =>
                by_cases e1 : st < m
                · have f1 : (st : Int) < (m : Int) := by omega
                  by_cases e2 : m < en
                  · have f2 : (m : Int) < (en : Int) := by omega
                    have HV := Lib.hid (show x1 = true by rw [Hx1.out]; exact decide_eq_true ⟨e1, e2⟩)
                    clear e1 e2
                    go_wp2_with fail
                    go_meet
                    exact ⟨by rw [HV.out], rfl⟩
                  · have f2 : ¬ (m : Int) < (en : Int) := by omega
                    have HV := Lib.hid (show x1 = false by rw [Hx1.out]; exact decide_eq_false (fun h => e2 h.2))
                    clear e1 e2
                    go_wp2_with fail
                    go_meet
                    exact ⟨by rw [HV.out], rfl⟩
                · have f1 : ¬ (st : Int) < (m : Int) := by omega
                  have HV := Lib.hid (show x1 = false by rw [Hx1.out]; exact decide_eq_false (fun h => e1 h.1))
                  clear e1
                  go_wp2_with fail
                  go_meet
                  exact ⟨by rw [HV.out], rfl⟩
              case rest =>
                obtain ⟨rfl, hwx⟩ := hcut
                subst hwx
                go_upto_if 145 with fail
                go_cut [22] (fun s wx => s = .int .i64 en ∧ Hid (RowAt enc k w blk off D1 wx) ∧ wx.cell? ⟨w.heap.size, 0, none⟩ = some (.func (.func g) #[] lb) ∧ wx.cell? ⟨w.heap.size, 1, none⟩ = some (.func (.func sf) #[] sb) ∧ w.heap.size < wx.heap.size)
                case first =>
                  cases x1
                  · have HDE := Lib.hid (show D1 = d by rw [HD1.out, if_neg (of_decide_eq_false Hx1.out.symm)])
                    have HRn := Lib.hid (show RowAt enc k w blk off D1 wb by rw [HDE.out]; exact HRk.out)
                    clear HRk
                    go_wp2_with fail
                    go_meet
                    exact ⟨rfl, HRn, c0, c1, hlb⟩
                  · have hx := of_decide_eq_true Hx1.out.symm
                    have HDE := Lib.hid (show D1 = _ by rw [HD1.out, if_pos hx])
                    obtain ⟨hx1, hx2⟩ := hx
                    have hlk := HRk.out.lt hblk
                    go_wp2_with fail
                    refine (rot_any enc k HK.out g lb sf sb blk off st m en _ _ _ rfl rfl rfl d _ (by rw [hds]; exact HSW.out) HRk.out.here hlk hx1 hx2 (by rw [hds]; omega) (by rw [hds]; omega)).mono ?_
                    rintro e w' ⟨rfl, hr⟩
                    have HRn := Lib.hid (show RowAt enc k w blk off D1 w' by rw [HDE.out]; exact HRk.out.on hr)
                    have d0 := hr.off.cellAt hlb (show w.heap.size ≠ blk by omega) c0
                    have d1 := hr.off.cellAt hlb (show w.heap.size ≠ blk by omega) c1
                    have se := hr.off.size
                    clear hr HRk c0 c1 HDE
                    go_wp2_with fail
                    go_meet
                    exact ⟨rfl, HRn, d0, d1, by omega⟩
                case rest =>
                  clear HRk c0 c1 hlb Hx1
                  obtain ⟨rfl, HRk, c0, c1, hlb⟩ := hcut
                  obtain ⟨wbb, hwbb⟩ : ∃ W : World, W = wc := ⟨_, rfl⟩
                  subst hwbb
                  obtain ⟨x2, hx2⟩ : ∃ x, x = decide (a < st ∧ st < mid) := ⟨_, rfl⟩
                  have Hx2 := Lib.hid hx2
                  clear hx2
                  go_upto_region 42 with fail
                  go_cut [158] (fun s wx => s = .bool x2 ∧ wbb = wx)
                  case first =>
                    by_cases e1 : a < st
                    · have f1 : (a : Int) < (st : Int) := by omega
                      by_cases e2 : st < mid
                      · have f2 : (st : Int) < (mid : Int) := by omega
                        have HV := Lib.hid (show x2 = true by rw [Hx2.out]; exact decide_eq_true ⟨e1, e2⟩)
                        clear e1 e2
                        go_wp2_with fail
                        go_meet
                        exact ⟨by rw [HV.out], rfl⟩
                      · have f2 : ¬ (st : Int) < (mid : Int) := by omega
                        have HV := Lib.hid (show x2 = false by rw [Hx2.out]; exact decide_eq_false (fun h => e2 h.2))
                        clear e1 e2
                        go_wp2_with fail
                        go_meet
                        exact ⟨by rw [HV.out], rfl⟩
                    · have f1 : ¬ (a : Int) < (st : Int) := by omega
                      have HV := Lib.hid (show x2 = false by rw [Hx2.out]; exact decide_eq_false (fun h => e1 h.1))
                      clear e1
                      go_wp2_with fail
                      go_meet
                      exact ⟨by rw [HV.out], rfl⟩
                  case rest =>
                    obtain ⟨rfl, hwx⟩ := hcut
                    subst hwx
                    go_upto_if 158 with fail
                    go_cut [22] (fun s wx => s = .int .i64 en ∧ Hid (RowAt enc k w blk off D2 wx) ∧ wx.cell? ⟨w.heap.size, 0, none⟩ = some (.func (.func g) #[] lb) ∧ wx.cell? ⟨w.heap.size, 1, none⟩ = some (.func (.func sf) #[] sb) ∧ w.heap.size < wx.heap.size)
                    case first =>
                      cases x2
                      · have HDE := Lib.hid (show D2 = D1 by rw [HD2.out, if_neg (of_decide_eq_false Hx2.out.symm)])
                        have HRn := Lib.hid (show RowAt enc k w blk off D2 wbb by rw [HDE.out]; exact HRk.out)
                        clear HRk
                        go_wp2_with fail
                        go_meet
                        exact ⟨rfl, HRn, c0, c1, hlb⟩
                      · have hx := of_decide_eq_true Hx2.out.symm
                        have HDE := Lib.hid (show D2 = _ by rw [HD2.out, if_pos hx])
                        obtain ⟨hx1, hx2⟩ := hx
                        have hlk := HRk.out.lt hblk
                        go_wp2_with fail
                        refine (IH.out a st mid _ _ _ rfl rfl rfl D1 _ hds1 (HLESS.out.on HRk.out) HRk.out.here hlk hx1 hx2 (by omega) (by omega)).mono ?_
                        rintro e w' ⟨rfl, hr⟩
                        have HRn := Lib.hid (show RowAt enc k w blk off D2 w' by rw [HDE.out]; exact HRk.out.on hr)
                        have d0 := hr.off.cellAt hlb (show w.heap.size ≠ blk by omega) c0
                        have d1 := hr.off.cellAt hlb (show w.heap.size ≠ blk by omega) c1
                        have se := hr.off.size
                        clear hr HRk c0 c1 HDE
                        go_wp2_with fail
                        go_meet
                        exact ⟨rfl, HRn, d0, d1, by omega⟩
                    case rest =>
                      clear HRk c0 c1 hlb Hx2
                      obtain ⟨rfl, HRk, c0, c1, hlb⟩ := hcut
                      obtain ⟨wbbb, hwbbb⟩ : ∃ W : World, W = wc := ⟨_, rfl⟩
                      subst hwbbb
                      obtain ⟨x3, hx3⟩ : ∃ x, x = decide (mid < en ∧ en < b) := ⟨_, rfl⟩
                      have Hx3 := Lib.hid hx3
                      clear hx3
                      go_upto_region 44 with fail
                      go_cut [171] (fun s wx => s = .bool x3 ∧ wbbb = wx)
                      case first =>
                        by_cases e1 : mid < en
                        · have f1 : (mid : Int) < (en : Int) := by omega
                          by_cases e2 : en < b
                          · have f2 : (en : Int) < (b : Int) := by omega
                            have HV := Lib.hid (show x3 = true by rw [Hx3.out]; exact decide_eq_true ⟨e1, e2⟩)
                            clear e1 e2
                            go_wp2_with fail
                            go_meet
                            exact ⟨by rw [HV.out], rfl⟩
                          · have f2 : ¬ (en : Int) < (b : Int) := by omega
                            have HV := Lib.hid (show x3 = false by rw [Hx3.out]; exact decide_eq_false (fun h => e2 h.2))
                            clear e1 e2
                            go_wp2_with fail
                            go_meet
                            exact ⟨by rw [HV.out], rfl⟩
                        · have f1 : ¬ (mid : Int) < (en : Int) := by omega
                          have HV := Lib.hid (show x3 = false by rw [Hx3.out]; exact decide_eq_false (fun h => e1 h.1))
                          clear e1
                          go_wp2_with fail
                          go_meet
                          exact ⟨by rw [HV.out], rfl⟩
                      case rest =>
                        obtain ⟨rfl, hwx⟩ := hcut
                        subst hwx
                        cases x3
                        · have HDE := Lib.hid (show D3 = D2 by rw [HD3.out, if_neg (of_decide_eq_false Hx3.out.symm)])
                          have HF := Lib.hid (show RowAt enc k w blk off D3 wbbb by rw [HDE.out]; exact HRk.out)
                          clear HRk
                          go_wp2
                          go_end0
                          exact ⟨rfl, HF.out⟩
                        · have hx := of_decide_eq_true Hx3.out.symm
                          have HDE := Lib.hid (show D3 = _ by rw [HD3.out, if_pos hx])
                          obtain ⟨hx1, hx2⟩ := hx
                          have hlk := HRk.out.lt hblk
                          go_wp2_with fail
                          refine (IH.out mid en b _ _ _ rfl rfl rfl D2 _ hds2 (HLESS.out.on HRk.out) HRk.out.here hlk hx1 hx2 (by omega) (by omega)).mono ?_
                          rintro e w' ⟨rfl, hr⟩
                          have HF := Lib.hid (show RowAt enc k w blk off D3 w' by rw [HDE.out]; exact HRk.out.on hr)
                          clear hr HRk c0 c1 HDE
                          go_wp2
                          go_end0
                          exact ⟨rfl, HF.out⟩
end

end

/-! ### Stf -/
section
open Go.RowKit Go.Shelf

section
variable {α : Type} [Inhabited α] (lt : α → α → Bool)
theorem insInner_size (a : Nat) : ∀ (j : Nat) (d : Array α), (Sort.insInner lt a j d).size = d.size
  | 0, d => by rw [Sort.insInner]
  | j + 1, d => by
    rw [Sort.insInner]
    split
    · rw [insInner_size a j, Sort.size_swp]
    · rfl
theorem insOuter_size (a b : Nat) : ∀ (c i : Nat) (d : Array α), b - i ≤ c → (Sort.insOuter lt a b i d).size = d.size
  | 0, i, d, h => by rw [Sort.insOuter, if_neg (by omega)]
  | c + 1, i, d, h => by
    rw [Sort.insOuter]
    split
    · rw [insOuter_size a b c (i + 1) _ (by omega), insInner_size]
    · rfl
theorem ins_size (d : Array α) (a b : Nat) : (Sort.insertionSort lt d a b).size = d.size := insOuter_size lt a b _ _ d (Nat.le_refl _)
theorem insB_size (n : Nat) : ∀ (f a : Nat) (d : Array α), (insB lt n f a d).size = d.size
  | 0, a, d => ins_size lt d a n
  | f + 1, a, d => by
    rw [insB]
    split
    · rw [insB_size n f, ins_size]
    · exact ins_size lt d a n
theorem mrg_size (n bs : Nat) : ∀ (f a : Nat) (d : Array α), (mrg lt n bs f a d).size = d.size
  | 0, _, _ => rfl
  | f + 1, a, d => by
    rw [mrg]
    split
    · rw [mrg_size n bs f, sym_size]
    · split
      · exact sym_size ..
      · rfl
end
section
variable {α : Type} [Inhabited α]
set_option maxHeartbeats 8000000 in
set_option maxRecDepth 100000 in
theorem stb_any (enc : α → List Value) (k : Nat) (hk : ∀ x, (enc x).length = k) (lt : α → α → Bool) (g : Nat) (lb : Array Value) (sf : Nat) (sb : Array Value) (blk off : Nat) (eg : ∀ args w, (callFunc g args).run Try.prog w = .ok (.enter g args) w) (n : Nat) (hsz : n ≤ 1000000) (hswap : SwapSwapsK Try.prog sf sb enc k blk off n) (d : Array α) (w : World) (hds : d.size = n) (hless : LessG Try.prog g lb enc k lt w blk off n) (hR : RowAt enc k w blk off d w) (hblk : blk < w.heap.size) :
    Calls Try.prog 101 #[.agg #[.func (.func g) #[] lb, .func (.func sf) #[] sb], .int .i64 n] w fun e w' => e = .returned (.tuple #[]) ∧ RowAt enc k w blk off (stableA lt n d) w' := by
  have HR := Lib.hid hR
  have HSW := Lib.hid hswap
  have HLESS := Lib.hid hless
  have HK := Lib.hid hk
  obtain ⟨R1, hR1⟩ : ∃ R, R = insB lt n n 0 d := ⟨_, rfl⟩
  obtain ⟨R2, hR2⟩ : ∃ R, R = pas lt n n 20 R1 := ⟨_, rfl⟩
  have hRES : stableA lt n d = R2 := by rw [hR2, hR1]; rfl
  have hR1s : R1.size = n := by rw [hR1, insB_size]; exact hds
  have HR1 := Lib.hid hR1
  have HR2 := Lib.hid hR2
  rw [hRES]
  clear hR hswap hk hless hR1 hR2 hRES
  go_enter Try.func101, Try.ntmps101
  go_wp2
  go_loopw [5, 6] (fun s5 s6 wr => ∃ (a b f : Nat) (dk : Array α), s5 = .int .i64 a ∧ s6 = .int .i64 b ∧ Hid (b = a + 20) ∧ a ≤ n ∧ n ≤ a + f ∧ dk.size = n ∧ Hid (RowAt enc k w blk off dk wr) ∧ wr.cell? ⟨w.heap.size, 0, none⟩ = some (.func (.func g) #[] lb) ∧ wr.cell? ⟨w.heap.size, 1, none⟩ = some (.func (.func sf) #[] sb) ∧ w.heap.size < wr.heap.size ∧ Hid (insB lt n f a dk = R1)) (fun _ s6 _ => n + 20 - (intOf s6).toNat)
  case atStart => exact ⟨0, 20, n, d, rfl, rfl, Lib.hid rfl, Nat.zero_le _, by omega, hds, Lib.hid (HR.out.below bwT hblk), by simp [go_sem], by simp [go_sem], by simp, Lib.hid HR1.out.symm⟩
  case round =>
    clear HR
    obtain ⟨wb, hwb⟩ : ∃ wm : World, wm = wr := ⟨_, rfl⟩
    subst hwb
    obtain ⟨a, b, f, dk, rfl, rfl, HB, han, haf, hsk, HRk, c0, c1, hlb, HO⟩ := hrel
    have hb1 : b = a + 20 := HB.out
    have hb2 : b ≤ n + 20 := by omega
    have hab : a ≤ b := by omega
    have hlk := HRk.out.lt hblk
    by_cases hlt : b ≤ n
    · have hI : (b : Int) ≤ (n : Int) := by omega
      obtain ⟨f', hf'⟩ : ∃ f', f = f' + 1 := ⟨f - 1, by omega⟩
      have HO2 := Lib.hid (show insB lt n f' b (Sort.insertionSort lt dk a b) = R1 by rw [← HO.out, hf', insB, ← hb1, if_pos hlt])
      have hfb : n ≤ b + f' := by omega
      clear HO hf' hb1
      go_wp2_with fail
      refine (insG_any enc k HK.out lt g lb sf sb blk off a b dk _ _ eg (by rw [hsk]; exact HLESS.out.on HRk.out) (by rw [hsk]; exact HSW.out) HRk.out.here hlk hab (by omega) (by omega)).mono ?_
      rintro e w' ⟨rfl, hr⟩
      have e0 := hr.off.cellAt hlb (show w.heap.size ≠ blk by omega) c0
      have e1 := hr.off.cellAt hlb (show w.heap.size ≠ blk by omega) c1
      have se := hr.off.size
      have HRe := Lib.hid (HRk.out.on hr)
      clear hr HRk HB
      go_wp2
      go_roundw
      case rel => exact ⟨b, b + 20, f', _, rfl, by go_num, Lib.hid rfl, hlt, hfb, by rw [ins_size]; exact hsk, HRe, e0, e1, by omega, HO2⟩
      case measure => simp [intOf]; omega
    · have hI : ¬ (b : Int) ≤ (n : Int) := by omega
      have HO2 := Lib.hid (show Sort.insertionSort lt dk a n = R1 by
        rw [← HO.out]
        cases f with
        | zero => rfl
        | succ f => rw [insB, ← hb1, if_neg hlt])
      clear HO hb1 haf
      go_wp2_with fail
      refine (insG_any enc k HK.out lt g lb sf sb blk off a n dk _ _ eg (by rw [hsk]; exact HLESS.out.on HRk.out) (by rw [hsk]; exact HSW.out) HRk.out.here hlk han (by omega) (by omega)).mono ?_
      rw [HO2.out]
      rintro e w' ⟨rfl, hr⟩
      have e0 := hr.off.cellAt hlb (show w.heap.size ≠ blk by omega) c0
      have e1 := hr.off.cellAt hlb (show w.heap.size ≠ blk by omega) c1
      have se := hr.off.size
      have HRe := Lib.hid (HRk.out.on hr)
      have hle : w.heap.size < w'.heap.size := by omega
      clear hr HRk HB c0 c1 hlb HO2 HR1 hsk
      go_wp2
      go_loopw [4, 5, 6, 7] (fun s4 _ _ _ wr => ∃ (bs f : Nat) (dk : Array α), s4 = .int .i64 bs ∧ 20 ≤ bs ∧ bs ≤ 2 * n + 20 ∧ n ≤ bs + f ∧ dk.size = n ∧ Hid (RowAt enc k w blk off dk wr) ∧ wr.cell? ⟨w.heap.size, 0, none⟩ = some (.func (.func g) #[] lb) ∧ wr.cell? ⟨w.heap.size, 1, none⟩ = some (.func (.func sf) #[] sb) ∧ w.heap.size < wr.heap.size ∧ Hid (pas lt n f bs dk = R2)) (fun s4 _ _ _ _ => 2 * n + 20 - (intOf s4).toNat)
      case atStart => exact ⟨20, n, R1, rfl, Nat.le_refl _, by omega, by omega, hR1s, HRe, e0, e1, hle, Lib.hid HR2.out.symm⟩
      case round =>
        clear HRe e0 e1 hle HR2
        obtain ⟨wd, hwd⟩ : ∃ wm : World, wm = wr := ⟨_, rfl⟩
        subst hwd
        obtain ⟨bs, f, dk, rfl, hbs, hbs2, hbf, hsk, HRk, c0, c1, hlb, HO⟩ := hrel
        by_cases hlt2 : bs < n
        · have hI2 : (bs : Int) < (n : Int) := by omega
          obtain ⟨f', hf'⟩ : ∃ f', f = f' + 1 := ⟨f - 1, by omega⟩
          obtain ⟨M, hM⟩ : ∃ M, M = mrg lt n bs (n + 1) 0 dk := ⟨_, rfl⟩
          have hMs : M.size = n := by rw [hM, mrg_size]; exact hsk
          have HM := Lib.hid hM
          have HO2 := Lib.hid (show pas lt n f' (2 * bs) M = R2 by rw [← HO.out, hf', pas, if_pos hlt2, hM])
          have hfb : n ≤ 2 * bs + f' := by omega
          clear HO hf' hM
          go_wp2
          go_loopw [5, 6] (fun s5 s6 wr => ∃ (a b c : Nat) (dk : Array α), s5 = .int .i64 a ∧ s6 = .int .i64 b ∧ Hid (b = a + 2 * bs) ∧ a ≤ n ∧ n + 1 ≤ a + c ∧ dk.size = n ∧ Hid (RowAt enc k w blk off dk wr) ∧ wr.cell? ⟨w.heap.size, 0, none⟩ = some (.func (.func g) #[] lb) ∧ wr.cell? ⟨w.heap.size, 1, none⟩ = some (.func (.func sf) #[] sb) ∧ w.heap.size < wr.heap.size ∧ Hid (mrg lt n bs c a dk = M)) (fun _ s6 _ => 3 * n - (intOf s6).toNat)
          case atStart => exact ⟨0, 2 * bs, n + 1, dk, rfl, by go_num, Lib.hid (by omega), Nat.zero_le _, by omega, hsk, HRk, c0, c1, hlb, Lib.hid HM.out.symm⟩
          case round =>
            clear HRk c0 c1 hlb HM hsk
            obtain ⟨we, hwe⟩ : ∃ wm : World, wm = wr := ⟨_, rfl⟩
            subst hwe
            obtain ⟨a, b, c, dk, rfl, rfl, HB, han, hac, hsk, HRk, c0, c1, hlb, HO⟩ := hrel
            have hb1 : b = a + 2 * bs := HB.out
            obtain ⟨c', hc'⟩ : ∃ c', c = c' + 1 := ⟨c - 1, by omega⟩
            have hlk := HRk.out.lt hblk
            have hb3 : b ≤ 3 * n := by omega
            by_cases hlt3 : b ≤ n
            · have hI3 : (b : Int) ≤ (n : Int) := by omega
              have HO3 := Lib.hid (show mrg lt n bs c' b (symM lt n a (a + bs) b dk) = M by rw [← HO.out, hc', mrg, ← hb1, if_pos hlt3])
              have hfc : n + 1 ≤ b + c' := by omega
              have ham : a + bs < b := by omega
              clear HO hc' hb1
              go_wp2_with fail
              refine (sym_any enc k HK.out lt g lb sf sb blk off eg n (by omega) HSW.out n a (a + bs) b _ _ _ rfl (by omega) rfl dk _ hsk (HLESS.out.on HRk.out) HRk.out.here hlk (by omega) ham hlt3 (by omega)).mono ?_
              rintro e w' ⟨rfl, hr⟩
              have e0 := hr.off.cellAt hlb (show w.heap.size ≠ blk by omega) c0
              have e1 := hr.off.cellAt hlb (show w.heap.size ≠ blk by omega) c1
              have se := hr.off.size
              have HRe := Lib.hid (HRk.out.on hr)
              clear hr HRk HB
              go_wp2
              go_roundw
              case rel => exact ⟨b, b + 2 * bs, c', _, rfl, by go_num, Lib.hid rfl, hlt3, hfc, by rw [sym_size]; exact hsk, HRe, e0, e1, by omega, HO3⟩
              case measure => simp [intOf]; omega
            · have hI3 : ¬ (b : Int) ≤ (n : Int) := by omega
              have HO3 := Lib.hid (show (if a + bs < n then symM lt n a (a + bs) n dk else dk) = M by rw [← HO.out, hc', mrg, ← hb1, if_neg hlt3])
              clear HO hc' hb1
              by_cases hmn : a + bs < n
              · have hmI : (a : Int) + (bs : Int) < (n : Int) := by omega
                rw [if_pos hmn] at HO3
                go_wp2_with fail
                refine (sym_any enc k HK.out lt g lb sf sb blk off eg n (by omega) HSW.out n a (a + bs) n _ _ _ rfl (by omega) rfl dk _ hsk (HLESS.out.on HRk.out) HRk.out.here hlk (by omega) hmn (Nat.le_refl _) (by omega)).mono ?_
                rw [HO3.out]
                rintro e w' ⟨rfl, hr⟩
                have e0 := hr.off.cellAt hlb (show w.heap.size ≠ blk by omega) c0
                have e1 := hr.off.cellAt hlb (show w.heap.size ≠ blk by omega) c1
                have se := hr.off.size
                have HRe := Lib.hid (HRk.out.on hr)
                clear hr HRk HB
                go_wp2
                go_roundw
                case rel => exact ⟨2 * bs, f', _, by go_num, by omega, by omega, hfb, hMs, HRe, e0, e1, by omega, HO2⟩
                case measure => simp [intOf]; omega
              · have hmI : ¬ (a : Int) + (bs : Int) < (n : Int) := by omega
                rw [if_neg hmn] at HO3
                have HRe := Lib.hid (show RowAt enc k w blk off M we by rw [← HO3.out]; exact HRk.out)
                clear HRk HB
                go_wp2
                go_roundw
                case rel => exact ⟨2 * bs, f', _, by go_num, by omega, by omega, hfb, hMs, HRe, c0, c1, hlb, HO2⟩
                case measure => simp [intOf]; omega
        · have hI2 : ¬ (bs : Int) < (n : Int) := by omega
          have HF := Lib.hid (show RowAt enc k w blk off R2 wd by
            have e : pas lt n f bs dk = dk := by
              cases f with
              | zero => rfl
              | succ f => rw [pas, if_neg hlt2]
            rw [← HO.out, e]; exact HRk.out)
          clear HRk HO
          go_wp2
          go_end0
          exact ⟨rfl, HF.out⟩
end

end

/-! ### StbL -/
section

theorem perm_ite {α : Type} {c : Prop} [Decidable c] {x y d : Array α} (h1 : c → x.toList.Perm d.toList) (h2 : ¬ c → y.toList.Perm d.toList) : (if c then x else y).toList.Perm d.toList := by
  split
  · exact h1 ‹_›
  · exact h2 ‹_›
section
variable {α : Type} [Inhabited α]
theorem swr_perm (a b : Nat) : ∀ (n i : Nat) (d : Array α), a + i + n ≤ d.size → b + i + n ≤ d.size → (swr a b n i d).toList.Perm d.toList
  | 0, _, _, _, _ => List.Perm.refl _
  | n + 1, i, d, h1, h2 => by
    rw [swr]
    exact (swr_perm a b n (i + 1) _ (by rw [Sort.size_swp]; omega) (by rw [Sort.size_swp]; omega)).trans (swp_perm d _ _ (by omega) (by omega))
theorem rot_perm (m : Nat) : ∀ (f i j : Nat) (d : Array α), i ≤ m → m + j ≤ d.size → (rot m f i j d).toList.Perm d.toList
  | 0, _, _, _, _, _ => List.Perm.refl _
  | f + 1, i, j, d, h1, h2 => by
    rw [rot]
    split
    · exact swr_perm _ _ _ _ _ (by omega) (by omega)
    · split
      · exact (rot_perm m f _ _ _ (by omega) (by rw [swr_size]; omega)).trans (swr_perm _ _ _ _ _ (by omega) (by omega))
      · exact (rot_perm m f _ _ _ (by omega) (by rw [swr_size]; omega)).trans (swr_perm _ _ _ _ _ (by omega) (by omega))
theorem up_perm : ∀ (n k : Nat) (d : Array α), k + n < d.size → (upS n k d).toList.Perm d.toList
  | 0, _, _, _ => List.Perm.refl _
  | n + 1, k, d, h => by
    rw [upS]
    exact (up_perm n (k + 1) _ (by rw [Sort.size_swp]; omega)).trans (swp_perm d _ _ (by omega) (by omega))
theorem down_perm : ∀ (n k : Nat) (d : Array α), k < d.size → (downS n k d).toList.Perm d.toList
  | 0, _, _, _ => List.Perm.refl _
  | n + 1, k, d, h => by
    rw [downS]
    exact (down_perm n (k - 1) _ (by rw [Sort.size_swp]; omega)).trans (swp_perm d _ _ (by omega) (by omega))
variable (lt : α → α → Bool)
theorem bs1_in (d : Array α) (a : Nat) : ∀ (f i j : Nat), i ≤ j → i ≤ bs1 lt d a f i j ∧ bs1 lt d a f i j ≤ j
  | 0, i, j, h => ⟨Nat.le_refl _, h⟩
  | f + 1, i, j, h => by
    rw [bs1]
    split
    · split
      · have := bs1_in d a f ((i + j) / 2 + 1) j (by omega); omega
      · have := bs1_in d a f i ((i + j) / 2) (by omega); omega
    · omega
theorem bs3_in (d : Array α) (p : Nat) : ∀ (f i j : Nat), i ≤ j → i ≤ bs3 lt d p f i j ∧ bs3 lt d p f i j ≤ j
  | 0, i, j, h => ⟨Nat.le_refl _, h⟩
  | f + 1, i, j, h => by
    rw [bs3]
    split
    · split
      · have := bs3_in d p f i ((i + j) / 2) (by omega); omega
      · have := bs3_in d p f ((i + j) / 2 + 1) j (by omega); omega
    · omega
theorem sym_perm : ∀ (f a m b : Nat) (d : Array α), a < m → m < b → b ≤ d.size → (symM lt f a m b d).toList.Perm d.toList
  | 0, _, _, _, _, _, _, _ => List.Perm.refl _
  | f + 1, a, m, b, d, h1, h2, h3 => by
    rw [symM]
    refine perm_ite (fun e => ?_) fun e => perm_ite (fun e2 => down_perm _ _ _ (by omega)) fun e2 => ?_
    · have := bs1_in lt d a (b - m) m b (by omega)
      exact up_perm _ _ _ (by omega)
    · simp only
      generalize hs : (if (a + b) / 2 < m then bs3 lt d ((a + b) / 2 + m - 1) (b - a) ((a + b) / 2 + m - b) ((a + b) / 2) else bs3 lt d ((a + b) / 2 + m - 1) (b - a) a m) = st
      have hb : a ≤ st ∧ (a + b) / 2 + m - st ≤ b := by
        rw [← hs]
        split
        · have := bs3_in lt d ((a + b) / 2 + m - 1) (b - a) ((a + b) / 2 + m - b) ((a + b) / 2) (by omega); omega
        · have := bs3_in lt d ((a + b) / 2 + m - 1) (b - a) a m (by omega); omega
      have p1 : (if st < m ∧ m < (a + b) / 2 + m - st then rot m ((a + b) / 2 + m - st - st) (m - st) ((a + b) / 2 + m - st - m) d else d).toList.Perm d.toList :=
        perm_ite (fun _ => rot_perm _ _ _ _ _ (by omega) (by omega)) fun _ => List.Perm.refl _
      have s1 : (if st < m ∧ m < (a + b) / 2 + m - st then rot m ((a + b) / 2 + m - st - st) (m - st) ((a + b) / 2 + m - st - m) d else d).size = d.size := ite_size (rot_size ..) rfl
      generalize (if st < m ∧ m < (a + b) / 2 + m - st then rot m ((a + b) / 2 + m - st - st) (m - st) ((a + b) / 2 + m - st - m) d else d) = D1 at p1 s1 ⊢
      have p2 : (if a < st ∧ st < (a + b) / 2 then symM lt f a st ((a + b) / 2) D1 else D1).toList.Perm d.toList :=
        perm_ite (fun h => (sym_perm f _ _ _ _ h.1 h.2 (by omega)).trans p1) fun _ => p1
      have s2 : (if a < st ∧ st < (a + b) / 2 then symM lt f a st ((a + b) / 2) D1 else D1).size = d.size := ite_size (by rw [sym_size]; exact s1) s1
      generalize (if a < st ∧ st < (a + b) / 2 then symM lt f a st ((a + b) / 2) D1 else D1) = D2 at p2 s2 ⊢
      exact perm_ite (fun h => (sym_perm f _ _ _ _ h.1 h.2 (by omega)).trans p2) fun _ => p2
theorem insInner_perm (a : Nat) : ∀ (j : Nat) (d : Array α), j < d.size → (Sort.insInner lt a j d).toList.Perm d.toList
  | 0, d, _ => by rw [Sort.insInner]
  | j + 1, d, h => by
    rw [Sort.insInner]
    split
    · exact (insInner_perm a j _ (by rw [Sort.size_swp]; omega)).trans (swp_perm d _ _ (by omega) (by omega))
    · exact List.Perm.refl _
theorem insOuter_perm (a b : Nat) : ∀ (c i : Nat) (d : Array α), b - i ≤ c → b ≤ d.size → (Sort.insOuter lt a b i d).toList.Perm d.toList
  | 0, i, d, h, _ => by rw [Sort.insOuter, if_neg (by omega)]
  | c + 1, i, d, h, h2 => by
    rw [Sort.insOuter]
    split
    · exact (insOuter_perm a b c (i + 1) _ (by omega) (by rw [insInner_size]; exact h2)).trans (insInner_perm lt a i d (by omega))
    · exact List.Perm.refl _
theorem ins_perm (d : Array α) (a b : Nat) (h : b ≤ d.size) : (Sort.insertionSort lt d a b).toList.Perm d.toList := insOuter_perm lt a b _ _ d (Nat.le_refl _) h
theorem insB_perm (n : Nat) : ∀ (f a : Nat) (d : Array α), d.size = n → (insB lt n f a d).toList.Perm d.toList
  | 0, a, d, h => ins_perm lt d a n (by omega)
  | f + 1, a, d, h => by
    rw [insB]
    split
    · exact (insB_perm n f _ _ (by rw [ins_size]; exact h)).trans (ins_perm lt d _ _ (by omega))
    · exact ins_perm lt d a n (by omega)
theorem mrg_perm (n bs : Nat) (hbs : 1 ≤ bs) : ∀ (f a : Nat) (d : Array α), d.size = n → (mrg lt n bs f a d).toList.Perm d.toList
  | 0, _, _, _ => List.Perm.refl _
  | f + 1, a, d, h => by
    rw [mrg]
    refine perm_ite (fun e => ?_) fun e => perm_ite (fun e2 => sym_perm lt _ _ _ _ _ (by omega) e2 (by omega)) fun _ => List.Perm.refl _
    exact (mrg_perm n bs hbs f _ _ (by rw [sym_size]; exact h)).trans (sym_perm lt _ _ _ _ _ (by omega) (by omega) (by omega))
theorem pas_perm (n : Nat) : ∀ (f bs : Nat) (d : Array α), 1 ≤ bs → d.size = n → (pas lt n f bs d).toList.Perm d.toList
  | 0, _, _, _, _ => List.Perm.refl _
  | f + 1, bs, d, hb, h => by
    rw [pas]
    split
    · exact (pas_perm n f _ _ (by omega) (by rw [mrg_size]; exact h)).trans (mrg_perm lt n bs hb _ _ d h)
    · exact List.Perm.refl _
theorem stable_perm (n : Nat) (d : Array α) (h : d.size = n) : (stableA lt n d).toList.Perm d.toList :=
  (pas_perm lt n n 20 _ (by omega) (by rw [insB_size]; exact h)).trans (insB_perm lt n n 0 d h)
theorem pas_size (n : Nat) : ∀ (f bs : Nat) (d : Array α), (pas lt n f bs d).size = d.size
  | 0, _, _ => rfl
  | f + 1, bs, d => by
    rw [pas]
    split
    · rw [pas_size n f, mrg_size]
    · rfl
theorem stable_size (n : Nat) (d : Array α) : (stableA lt n d).size = d.size := by
  unfold stableA; rw [pas_size, insB_size]
end

end

/-! ### StbO -/
section
open Go.RowKit Go.Sort

section
variable {α : Type} [Inhabited α]
theorem swr_in {a b lo hi : Nat} : ∀ {n i : Nat} {d : Array α}, lo ≤ a + i → a + i + n ≤ hi → lo ≤ b + i → b + i + n ≤ hi → hi ≤ d.size → PermIn lo hi d (swr a b n i d)
  | 0, _, d, _, _, _, _, _ => permIn_refl d lo hi
  | n + 1, i, d, h1, h2, h3, h4, h5 => by
    rw [swr]
    exact permIn_trans _ _ _ _ _ (swp_permIn d lo hi (a + i) (b + i) h1 (by omega) h3 (by omega) h5) (swr_in (by omega) (by omega) (by omega) (by omega) (by rw [size_swp]; omega))
theorem swr_get {a b : Nat} : ∀ {n i : Nat} {d : Array α}, a + i + n ≤ d.size → b + i + n ≤ d.size → (a + i + n ≤ b + i) → ∀ k, (swr a b n i d)[k]! = if a + i ≤ k ∧ k < a + i + n then d[k - a + b]! else if b + i ≤ k ∧ k < b + i + n then d[k - b + a]! else d[k]!
  | 0, i, d, _, _, _, k => by rw [if_neg (by omega), if_neg (by omega), swr]
  | n + 1, i, d, h1, h2, h3, k => by
    rw [swr, swr_get (by rw [size_swp]; omega) (by rw [size_swp]; omega) (by omega) k]
    have g := swp_get d (show a + i < d.size by omega) (show b + i < d.size by omega)
    by_cases c1 : a + i ≤ k ∧ k < a + i + (n + 1)
    · rw [if_pos c1]
      by_cases c2 : k = a + i
      · rw [if_neg (by omega), if_neg (by omega), g, if_neg (by omega), if_pos c2]
        exact congrArg (fun x => d[x]!) (by omega)
      · rw [if_pos (by omega), g, if_neg (by omega), if_neg (by omega)]
    · rw [if_neg c1, if_neg (by omega)]
      by_cases c2 : b + i ≤ k ∧ k < b + i + (n + 1)
      · rw [if_pos c2]
        by_cases c3 : k = b + i
        · rw [if_neg (by omega), g, if_pos c3]
          exact congrArg (fun x => d[x]!) (by omega)
        · rw [if_pos (by omega), g, if_neg (by omega), if_neg (by omega)]
      · rw [if_neg c2, if_neg (by omega), g, if_neg (by omega), if_neg (by omega)]
theorem rot_in {m lo hi : Nat} : ∀ {f i j : Nat} {d : Array α}, i ≤ m → lo + i ≤ m → m + j ≤ hi → hi ≤ d.size → PermIn lo hi d (rot m f i j d)
  | 0, _, _, d, _, _, _, _ => permIn_refl d lo hi
  | f + 1, i, j, d, h1, h2, h3, h4 => by
    rw [rot]
    split
    · exact swr_in (by omega) (by omega) (by omega) (by omega) h4
    · split
      · exact permIn_trans _ _ _ _ _ (swr_in (by omega) (by omega) (by omega) (by omega) h4) (rot_in (by omega) (by omega) (by omega) (by rw [swr_size]; exact h4))
      · exact permIn_trans _ _ _ _ _ (swr_in (by omega) (by omega) (by omega) (by omega) h4) (rot_in (by omega) (by omega) (by omega) (by rw [swr_size]; exact h4))
theorem rot_get {m : Nat} : ∀ {f i j : Nat} {d : Array α}, i ≤ m → m + j ≤ d.size → 1 ≤ i → 1 ≤ j → i + j ≤ f + 1 → ∀ k, (rot m f i j d)[k]! = if m - i ≤ k ∧ k < m - i + j then d[k + i]! else if m - i + j ≤ k ∧ k < m + j then d[k - j]! else d[k]!
  | 0, i, j, d, _, _, _, _, _, _ => by omega
  | f + 1, i, j, d, h1, h2, h3, h4, h5, k => by
    rw [rot]
    by_cases e : i = j
    · rw [if_pos e, swr_get (by omega) (by omega) (by omega)]
      by_cases c1 : m - i ≤ k ∧ k < m - i + j
      · rw [if_pos (by omega), if_pos c1]; exact congrArg (fun x => d[x]!) (by omega)
      · rw [if_neg (by omega), if_neg c1]
        by_cases c2 : m - i + j ≤ k ∧ k < m + j
        · rw [if_pos (by omega), if_pos c2]; exact congrArg (fun x => d[x]!) (by omega)
        · rw [if_neg (by omega), if_neg c2]
    · rw [if_neg e]
      by_cases e2 : j < i
      · rw [if_pos e2, rot_get (by omega) (by rw [swr_size]; omega) (by omega) h4 (by omega)]
        have g := swr_get (a := m - i) (b := m) (n := j) (i := 0) (d := d) (by omega) (by omega) (by omega)
        by_cases c1 : m - i ≤ k ∧ k < m - i + j
        · rw [if_neg (by omega), if_neg (by omega), g, if_pos (by omega), if_pos c1]; exact congrArg (fun x => d[x]!) (by omega)
        · rw [if_neg c1]
          by_cases c2 : m - i + j ≤ k ∧ k < m + j
          · rw [if_pos c2]
            by_cases c3 : k < m - i + 2 * j
            · rw [if_pos (by omega), g]
              by_cases c4 : k + (i - j) < m
              · exact absurd c4 (by omega)
              · rw [if_neg (by omega), if_pos (by omega)]; exact congrArg (fun x => d[x]!) (by omega)
            · rw [if_neg (by omega), if_pos (by omega), g, if_neg (by omega), if_neg (by omega)]
          · rw [if_neg c2, if_neg (by omega), if_neg (by omega), g, if_neg (by omega), if_neg (by omega)]
      · rw [if_neg e2, rot_get h1 (by rw [swr_size]; omega) h3 (by omega) (by omega)]
        have g := swr_get (a := m - i) (b := m + j - i) (n := i) (i := 0) (d := d) (by omega) (by omega) (by omega)
        by_cases c1 : m - i ≤ k ∧ k < m - i + j
        · rw [if_pos c1]
          by_cases c3 : k < m - i + (j - i)
          · rw [if_pos (by omega), g]
            rw [if_neg (by omega), if_neg (by omega)]
          · rw [if_neg (by omega)]
            by_cases c4 : k < m + j - i
            · rw [if_pos (by omega), g, if_pos (by omega)]; exact congrArg (fun x => d[x]!) (by omega)
            · exact absurd c4 (by omega)
        · rw [if_neg c1]
          by_cases c2 : m - i + j ≤ k ∧ k < m + j
          · rw [if_pos c2, if_neg (by omega), if_neg (by omega), g, if_neg (by omega), if_pos (by omega)]; exact congrArg (fun x => d[x]!) (by omega)
          · rw [if_neg c2, if_neg (by omega), if_neg (by omega), g, if_neg (by omega), if_neg (by omega)]
theorem up_in {lo hi : Nat} : ∀ {n k : Nat} {d : Array α}, lo ≤ k → k + n < hi → hi ≤ d.size → PermIn lo hi d (upS n k d)
  | 0, _, d, _, _, _ => permIn_refl d lo hi
  | n + 1, k, d, h1, h2, h3 => by
    rw [upS]
    exact permIn_trans _ _ _ _ _ (swp_permIn d lo hi k (k + 1) h1 (by omega) (by omega) (by omega) h3) (up_in (by omega) (by omega) (by rw [size_swp]; exact h3))
theorem up_get : ∀ {n k : Nat} {d : Array α}, k + n < d.size → ∀ x, (upS n k d)[x]! = if k ≤ x ∧ x < k + n then d[x + 1]! else if x = k + n then d[k]! else d[x]!
  | 0, k, d, _, x => by
    rw [upS, if_neg (by omega)]
    split
    · exact congrArg (fun x => d[x]!) (by omega)
    · rfl
  | n + 1, k, d, h, x => by
    rw [upS, up_get (by rw [size_swp]; omega)]
    have g := swp_get d (show k < d.size by omega) (show k + 1 < d.size by omega)
    by_cases c1 : x = k
    · rw [if_neg (by omega), if_neg (by omega), if_pos (by omega), g, if_neg (by omega), if_pos c1]; exact congrArg (fun x => d[x]!) (by omega)
    · by_cases c2 : k + 1 ≤ x ∧ x < k + (n + 1)
      · rw [if_pos (by omega), if_pos (by omega), g, if_neg (by omega), if_neg (by omega)]
      · rw [if_neg (by omega)]
        by_cases c3 : x = k + (n + 1)
        · rw [if_pos (by omega), if_neg (by omega), if_pos c3, g, if_pos rfl]
        · rw [if_neg (by omega), if_neg (by omega), if_neg c3, g, if_neg (by omega), if_neg (by omega)]
theorem down_in {lo hi : Nat} : ∀ {n k : Nat} {d : Array α}, lo + n ≤ k → k < hi → hi ≤ d.size → PermIn lo hi d (downS n k d)
  | 0, _, d, _, _, _ => permIn_refl d lo hi
  | n + 1, k, d, h1, h2, h3 => by
    rw [downS]
    exact permIn_trans _ _ _ _ _ (swp_permIn d lo hi k (k - 1) (by omega) (by omega) (by omega) (by omega) h3) (down_in (by omega) (by omega) (by rw [size_swp]; exact h3))
theorem down_get : ∀ {n k : Nat} {d : Array α}, n ≤ k → k < d.size → ∀ x, (downS n k d)[x]! = if k - n < x ∧ x ≤ k then d[x - 1]! else if x = k - n then d[k]! else d[x]!
  | 0, k, d, _, _, x => by
    rw [downS, if_neg (by omega)]
    split
    · exact congrArg (fun x => d[x]!) (by omega)
    · rfl
  | n + 1, k, d, h1, h, x => by
    rw [downS, down_get (by omega) (by rw [size_swp]; omega)]
    have g := swp_get d (show k < d.size by omega) (show k - 1 < d.size by omega)
    by_cases c1 : x = k
    · rw [if_neg (by omega), if_neg (by omega), if_pos (by omega), g, if_neg (by omega), if_pos c1]; exact congrArg (fun x => d[x]!) (by omega)
    · by_cases c2 : k - (n + 1) < x ∧ x ≤ k
      · rw [if_pos (by omega), if_pos (by omega), g, if_neg (by omega), if_neg (by omega)]
      · rw [if_neg (by omega)]
        by_cases c3 : x = k - (n + 1)
        · rw [if_pos (by omega), if_neg (by omega), if_pos c3, g, if_pos rfl]
        · rw [if_neg (by omega), if_neg (by omega), if_neg c3, g, if_neg (by omega), if_neg (by omega)]
variable {lt : α → α → Bool}
theorem bs1_ok {d : Array α} {a m b : Nat} (hm : ∀ x y, m ≤ x → x < y → y < b → lt d[y]! d[a]! = true → lt d[x]! d[a]! = true) : ∀ (f i j : Nat), m ≤ i → i ≤ j → j ≤ b → j - i ≤ f → (∀ x, m ≤ x → x < i → lt d[x]! d[a]! = true) → (∀ x, j ≤ x → x < b → lt d[x]! d[a]! = false) →
    m ≤ bs1 lt d a f i j ∧ bs1 lt d a f i j ≤ b ∧ (∀ x, m ≤ x → x < bs1 lt d a f i j → lt d[x]! d[a]! = true) ∧ (∀ x, bs1 lt d a f i j ≤ x → x < b → lt d[x]! d[a]! = false)
  | 0, i, j, h1, h2, h3, h4, h5, h6 => by
    obtain rfl : i = j := by omega
    exact ⟨h1, h3, h5, h6⟩
  | f + 1, i, j, h1, h2, h3, h4, h5, h6 => by
    rw [bs1]
    split
    · split
      · rename_i hij hl
        refine bs1_ok hm f _ _ (by omega) (by omega) h3 (by omega) (fun x hx hx2 => ?_) h6
        by_cases e : x = (i + j) / 2
        · rw [e]; exact hl
        · exact hm x ((i + j) / 2) hx (by omega) (by omega) hl
      · rename_i hij hl
        refine bs1_ok hm f _ _ h1 (by omega) (by omega) (by omega) h5 (fun x hx hx2 => ?_)
        cases hl2 : lt d[x]! d[a]! with
        | false => rfl
        | true =>
          by_cases e : x = (i + j) / 2
          · rw [e] at hl2; exact absurd hl2 hl
          · exact absurd (hm ((i + j) / 2) x (by omega) (by omega) hx2 hl2) hl
    · obtain rfl : i = j := by omega
      exact ⟨h1, h3, h5, h6⟩
theorem bs2_ok {d : Array α} {a m : Nat} (hm : ∀ x y, a ≤ x → x < y → y < m → lt d[m]! d[x]! = true → lt d[m]! d[y]! = true) : ∀ (f i j : Nat), a ≤ i → i ≤ j → j ≤ m → j - i ≤ f → (∀ x, a ≤ x → x < i → lt d[m]! d[x]! = false) → (∀ x, j ≤ x → x < m → lt d[m]! d[x]! = true) →
    a ≤ bs2 lt d m f i j ∧ bs2 lt d m f i j ≤ m ∧ (∀ x, a ≤ x → x < bs2 lt d m f i j → lt d[m]! d[x]! = false) ∧ (∀ x, bs2 lt d m f i j ≤ x → x < m → lt d[m]! d[x]! = true)
  | 0, i, j, h1, h2, h3, h4, h5, h6 => by
    obtain rfl : i = j := by omega
    exact ⟨h1, h3, h5, h6⟩
  | f + 1, i, j, h1, h2, h3, h4, h5, h6 => by
    rw [bs2]
    split
    · split
      · rename_i hij hl
        refine bs2_ok hm f _ _ h1 (by omega) (by omega) (by omega) h5 (fun x hx hx2 => ?_)
        by_cases e : x = (i + j) / 2
        · rw [e]; exact hl
        · exact hm ((i + j) / 2) x (by omega) (by omega) hx2 hl
      · rename_i hij hl
        refine bs2_ok hm f _ _ (by omega) (by omega) h3 (by omega) (fun x hx hx2 => ?_) h6
        cases hl2 : lt d[m]! d[x]! with
        | false => rfl
        | true =>
          by_cases e : x = (i + j) / 2
          · rw [e] at hl2; exact absurd hl2 hl
          · exact absurd (hm x ((i + j) / 2) hx (by omega) (by omega) hl2) hl
    · obtain rfl : i = j := by omega
      exact ⟨h1, h3, h5, h6⟩
theorem bs3_ok {d : Array α} {p s r : Nat} (hm : ∀ x y, s ≤ x → x < y → y < r → lt d[p - x]! d[x]! = true → lt d[p - y]! d[y]! = true) : ∀ (f i j : Nat), s ≤ i → i ≤ j → j ≤ r → j - i ≤ f → (∀ x, s ≤ x → x < i → lt d[p - x]! d[x]! = false) → (∀ x, j ≤ x → x < r → lt d[p - x]! d[x]! = true) →
    s ≤ bs3 lt d p f i j ∧ bs3 lt d p f i j ≤ r ∧ (∀ x, s ≤ x → x < bs3 lt d p f i j → lt d[p - x]! d[x]! = false) ∧ (∀ x, bs3 lt d p f i j ≤ x → x < r → lt d[p - x]! d[x]! = true)
  | 0, i, j, h1, h2, h3, h4, h5, h6 => by
    obtain rfl : i = j := by omega
    exact ⟨h1, h3, h5, h6⟩
  | f + 1, i, j, h1, h2, h3, h4, h5, h6 => by
    rw [bs3]
    split
    · split
      · rename_i hij hl
        refine bs3_ok hm f _ _ h1 (by omega) (by omega) (by omega) h5 (fun x hx hx2 => ?_)
        by_cases e : x = (i + j) / 2
        · rw [e]; exact hl
        · exact hm ((i + j) / 2) x (by omega) (by omega) hx2 hl
      · rename_i hij hl
        refine bs3_ok hm f _ _ (by omega) (by omega) h3 (by omega) (fun x hx hx2 => ?_) h6
        cases hl2 : lt d[p - x]! d[x]! with
        | false => rfl
        | true =>
          by_cases e : x = (i + j) / 2
          · rw [e] at hl2; exact absurd hl2 hl
          · exact absurd (hm x ((i + j) / 2) hx (by omega) (by omega) hl2) hl
    · obtain rfl : i = j := by omega
      exact ⟨h1, h3, h5, h6⟩
theorem SortedIn.le {a b : Nat} {d : Array α} (hS : SWO lt) (h : SortedIn lt a b d) {i j : Nat} (h1 : a ≤ i) (h2 : i ≤ j) (h3 : j < b) : lt d[j]! d[i]! = false := by
  by_cases e : i = j
  · rw [e]; exact hS.irrefl _
  · exact h i j h1 (by omega) h3
omit [Inhabited α] in
theorem lt_le {x y z : α} (hS : SWO lt) (h1 : lt x y = true) (h2 : lt z y = false) : lt x z = true := by
  cases h : lt x z with
  | true => rfl
  | false => have := hS.ntrans x z y h h2; rw [h1] at this; cases this
omit [Inhabited α] in
theorem le_lt {x y z : α} (hS : SWO lt) (h1 : lt y x = false) (h2 : lt y z = true) : lt x z = true := by
  cases h : lt x z with
  | true => rfl
  | false => have := hS.ntrans y x z h1 h; rw [h2] at this; cases this
/-- The two halves, sorted and apart. -/
theorem sorted_join {a c b : Nat} {d : Array α} (h1 : SortedIn lt a c d) (h2 : SortedIn lt c b d) (h3 : ∀ x y, a ≤ x → x < c → c ≤ y → y < b → lt d[y]! d[x]! = false) : SortedIn lt a b d := by
  intro i j hi hij hj
  by_cases c1 : j < c
  · exact h1 i j hi hij c1
  · by_cases c2 : c ≤ i
    · exact h2 i j c2 hij hj
    · exact h3 i j hi (by omega) (by omega) hj
theorem sorted_same {a b : Nat} {d d' : Array α} (h : SortedIn lt a b d) (e : ∀ k, a ≤ k → k < b → d'[k]! = d[k]!) : SortedIn lt a b d' := by
  intro i j hi hij hj
  rw [e i hi (by omega), e j (by omega) hj]
  exact h i j hi hij hj
theorem sorted_shift {a b a' : Nat} {d d' : Array α} (h : SortedIn lt a b d) (b' : Nat) (hb : b' + a = b + a') (e : ∀ k, a' ≤ k → k < b' → d'[k]! = d[k + a - a']!) : SortedIn lt a' b' d' := by
  intro i j hi hij hj
  rw [e i hi (by omega), e j (by omega) hj]
  exact h (i + a - a') (j + a - a') (by omega) (by omega) (by omega)
theorem apart_keep {a c b : Nat} {d d1 d2 : Array α} (hc : a ≤ c) (hcb : c ≤ b) (hb : b ≤ d.size) (h1 : PermIn a c d d1) (h2 : PermIn c b d1 d2) (h3 : ∀ x y, a ≤ x → x < c → c ≤ y → y < b → lt d[y]! d[x]! = false) : ∀ x y, a ≤ x → x < c → c ≤ y → y < b → lt d2[y]! d2[x]! = false := by
  intro x y hx hxc hy hyb
  have g1 : ∀ x y, a ≤ x → x < c → c ≤ y → y < b → lt d1[y]! d1[x]! = false := by
    intro x y hx hxc hy hyb
    rw [h1.2.1 y (Or.inr hy)]
    exact permIn_all d d1 a c (fun v => lt d[y]! v = false) (by omega) h1 (fun i hi hi2 => h3 i y hi hi2 hy hyb) x hx hxc
  rw [h2.2.1 x (Or.inl hxc)]
  exact permIn_all d1 d2 c b (fun v => lt v d1[x]! = false) (by have := h1.1; omega) h2 (fun i hi hi2 => g1 x i hx hxc hi hi2) y hy hyb
/-- Behind the rotation: the halves are apart, and each made of two sorted parts. -/
structure Half (lt : α → α → Bool) (a st mid en b : Nat) (d : Array α) : Prop where
  l1 : SortedIn lt a st d
  l2 : SortedIn lt st mid d
  r1 : SortedIn lt mid en d
  r2 : SortedIn lt en b d
  ap : ∀ x y, a ≤ x → x < mid → mid ≤ y → y < b → lt d[y]! d[x]! = false
theorem half_of (hS : SWO lt) {a m b st mid en : Nat} {d d1 : Array α} (h1 : SortedIn lt a m d) (h2 : SortedIn lt m b d) (hst : a ≤ st) (hstm : st ≤ m) (hen : st + en = mid + m) (hme : m ≤ en) (heb : en ≤ b)
    (hlo : ∀ x y, a ≤ x → x < st → en ≤ y → y < b → lt d[y]! d[x]! = false) (hhi : ∀ x y, m ≤ x → x < en → st ≤ y → y < m → lt d[x]! d[y]! = true)
    (e : ∀ k, d1[k]! = if st ≤ k ∧ k < mid then d[k + (m - st)]! else if mid ≤ k ∧ k < en then d[k - (en - m)]! else d[k]!) : Half lt a st mid en b d1 := by
  have e1 : ∀ k, k < st → d1[k]! = d[k]! := fun k h => by rw [e k, if_neg (by omega), if_neg (by omega)]
  have e2 : ∀ k, st ≤ k → k < mid → d1[k]! = d[k + m - st]! := fun k h h' => by rw [e k, if_pos ⟨h, h'⟩]; exact congrArg (fun x => d[x]!) (by omega)
  have e3 : ∀ k, mid ≤ k → k < en → d1[k]! = d[k + st - mid]! := fun k h h' => by rw [e k, if_neg (by omega), if_pos ⟨h, h'⟩]; exact congrArg (fun x => d[x]!) (by omega)
  have e4 : ∀ k, en ≤ k → d1[k]! = d[k]! := fun k h => by rw [e k, if_neg (by omega), if_neg (by omega)]
  refine ⟨?_, ?_, ?_, ?_, ?_⟩
  · intro i j hi hij hj; rw [e1 i (by omega), e1 j hj]; exact h1 i j hi hij (by omega)
  · intro i j hi hij hj; rw [e2 i hi (by omega), e2 j (by omega) hj]; exact h2 _ _ (by omega) (by omega) (by omega)
  · intro i j hi hij hj; rw [e3 i hi (by omega), e3 j (by omega) hj]; exact h1 _ _ (by omega) (by omega) (by omega)
  · intro i j hi hij hj; rw [e4 i hi, e4 j (by omega)]; exact h2 _ _ (by omega) hij hj
  · intro x y hx hxm hy hyb
    by_cases c1 : x < st
    · rw [e1 x c1]
      by_cases c2 : y < en
      · rw [e3 y hy c2]; exact h1 _ _ hx (by omega) (by omega)
      · rw [e4 y (by omega)]; exact hlo x y hx c1 (by omega) hyb
    · rw [e2 x (by omega) hxm]
      by_cases c2 : y < en
      · rw [e3 y hy c2]; exact hS.asymmA (hhi _ _ (by omega) (by omega) (by omega) (by omega))
      · rw [e4 y (by omega)]; exact h2 _ _ (by omega) (by omega) hyb
theorem sym_ok (hS : SWO lt) : ∀ (f a m b : Nat) (d : Array α), a < m → m < b → b ≤ d.size → b - a ≤ f → SortedIn lt a m d → SortedIn lt m b d → PermIn a b d (symM lt f a m b d) ∧ SortedIn lt a b (symM lt f a m b d)
  | 0, _, _, _, _, _, _, _, _, _, _ => by omega
  | f + 1, a, m, b, d, ham, hmb, hb, hf, h1, h2 => by
    rw [symM]
    by_cases c1 : m - a = 1
    · rw [if_pos c1]
      obtain ⟨g1, g2, g3, g4⟩ := bs1_ok (lt := lt) (d := d) (a := a) (m := m) (b := b) (fun x y hx hxy hy hl => le_lt hS (h2 x y hx hxy hy) hl |> fun h => by
        exact h) (b - m) m b (Nat.le_refl _) (by omega) (Nat.le_refl _) (Nat.le_refl _) (fun x _ _ => by omega) (fun x _ _ => by omega)
      generalize bs1 lt d a (b - m) m b = i at g1 g2 g3 g4
      refine ⟨up_in (Nat.le_refl _) (by omega) hb, ?_⟩
      have e := up_get (n := i - 1 - a) (k := a) (d := d) (by omega)
      refine sorted_join (c := i) (sorted_join (c := i - 1) ?_ ?_ ?_) ?_ ?_
      · intro p q hp hpq hq
        rw [e p, e q, if_pos (by omega), if_pos (by omega)]; exact h2 _ _ (by omega) (by omega) (by omega)
      · intro p q hp hpq hq; omega
      · intro p q hp hpi hq hqi
        rw [e p, if_pos (by omega), e q, if_neg (by omega), if_pos (by omega)]; exact hS.asymmA (g3 _ (by omega) (by omega))
      · intro p q hp hpq hq
        rw [e p, if_neg (by omega), if_neg (by omega), e q, if_neg (by omega), if_neg (by omega)]; exact h2 _ _ (by omega) hpq hq
      · intro p q hp hpi hq hqb
        rw [e q, if_neg (by omega), if_neg (by omega), e p]
        by_cases c : p < i - 1
        · rw [if_pos (by omega)]; exact h2 _ _ (by omega) (by omega) hqb
        · rw [if_neg (by omega), if_pos (by omega)]; exact g4 q hq hqb
    · rw [if_neg c1]
      by_cases c2 : b - m = 1
      · rw [if_pos c2]
        obtain ⟨g1, g2, g3, g4⟩ := bs2_ok (lt := lt) (d := d) (a := a) (m := m) (fun x y hx hxy hy hl => lt_le hS hl (h1 x y hx hxy hy) ) (m - a) a m (Nat.le_refl _) (by omega) (Nat.le_refl _) (Nat.le_refl _) (fun x _ _ => by omega) (fun x _ _ => by omega)
        generalize bs2 lt d m (m - a) a m = i at g1 g2 g3 g4
        refine ⟨down_in (by omega) (by omega) hb, ?_⟩
        have e := down_get (n := m - i) (k := m) (d := d) (by omega) (by omega)
        refine sorted_join (c := i) ?_ (sorted_join (c := i + 1) ?_ ?_ ?_) ?_
        · intro p q hp hpq hq
          rw [e p, if_neg (by omega), if_neg (by omega), e q, if_neg (by omega), if_neg (by omega)]; exact h1 _ _ hp hpq (by omega)
        · intro p q hp hpq hq; omega
        · intro p q hp hpq hq
          rw [e p, e q, if_pos (by omega), if_pos (by omega)]; exact h1 _ _ (by omega) (by omega) (by omega)
        · intro p q hp hpi hq hqb
          rw [e p, if_neg (by omega), if_pos (by omega), e q, if_pos (by omega)]; exact hS.asymmA (g4 _ (by omega) (by omega))
        · intro p q hp hpi hq hqb
          rw [e p, if_neg (by omega), if_neg (by omega), e q]
          by_cases c : q = i
          · rw [if_neg (by omega), if_pos (by omega)]; exact g3 p hp hpi
          · rw [if_pos (by omega)]; exact h1 _ _ hp (by omega) (by omega)
      · rw [if_neg c2]
        dsimp only
        obtain ⟨mid, hmid⟩ : ∃ mid, mid = (a + b) / 2 := ⟨_, rfl⟩
        rw [← hmid]
        obtain ⟨s, r, hsr, hs1, hs2, hs3⟩ : ∃ s r, (if mid < m then bs3 lt d (mid + m - 1) (b - a) (mid + m - b) mid else bs3 lt d (mid + m - 1) (b - a) a m) = bs3 lt d (mid + m - 1) (b - a) s r ∧ (mid < m → s = mid + m - b ∧ r = mid) ∧ (¬ mid < m → s = a ∧ r = m) ∧ (a ≤ s ∧ s ≤ r ∧ r ≤ m ∧ r ≤ mid + m - m ∧ mid + m ≤ b + s ∧ r - s ≤ b - a) := by
          by_cases c : mid < m
          · exact ⟨_, _, if_pos c, fun _ => ⟨rfl, rfl⟩, fun h => absurd c h, by omega⟩
          · exact ⟨_, _, if_neg c, fun h => absurd h c, fun _ => ⟨rfl, rfl⟩, by omega⟩
        rw [hsr]
        obtain ⟨g1, g2, g3, g4⟩ := bs3_ok (lt := lt) (d := d) (p := mid + m - 1) (s := s) (r := r) (fun x y hx hxy hy hl => by
          refine lt_le hS (y := d[x]!) (le_lt hS (y := d[mid + m - 1 - x]!) (h2 _ _ (by omega) (by omega) (by omega)) hl) (h1 _ _ (by omega) hxy (by omega))) (b - a) s r (Nat.le_refl _) hs3.2.1 (Nat.le_refl _) hs3.2.2.2.2.2 (fun x _ _ => by omega) (fun x _ _ => by omega)
        generalize bs3 lt d (mid + m - 1) (b - a) s r = st at g1 g2 g3 g4
        obtain ⟨en, hen⟩ : ∃ en, en = mid + m - st := ⟨_, rfl⟩
        rw [← hen]
        obtain ⟨d1, hd1⟩ : ∃ d1, d1 = (if st < m ∧ m < en then rot m (en - st) (m - st) (en - m) d else d) := ⟨_, rfl⟩
        rw [← hd1]
        have e : ∀ k, d1[k]! = if st ≤ k ∧ k < mid then d[k + (m - st)]! else if mid ≤ k ∧ k < en then d[k - (en - m)]! else d[k]! := by
          intro k
          by_cases c : st < m ∧ m < en
          · rw [hd1, if_pos c, rot_get (by omega) (by omega) (by omega) (by omega) (by omega) k]
            by_cases k1 : st ≤ k ∧ k < mid
            · rw [if_pos (by omega), if_pos k1]
            · rw [if_neg (by omega), if_neg k1]
              by_cases k2 : mid ≤ k ∧ k < en
              · rw [if_pos (by omega), if_pos k2]
              · rw [if_neg (by omega), if_neg k2]
          · rw [hd1, if_neg c]
            by_cases k1 : st ≤ k ∧ k < mid
            · rw [if_pos k1]; exact congrArg (fun x => d[x]!) (by omega)
            · rw [if_neg k1]
              by_cases k2 : mid ≤ k ∧ k < en
              · rw [if_pos k2]; exact congrArg (fun x => d[x]!) (by omega)
              · rw [if_neg k2]
        have hp1 : PermIn a b d d1 := by
          rw [hd1]; split
          · exact rot_in (by omega) (by omega) (by omega) hb
          · exact permIn_refl _ _ _
        have H : Half lt a st mid en b d1 := half_of hS h1 h2 (by omega) (by omega) (by omega) (by omega) (by omega) (fun x y hx hxs hy hyb => by
            have hsx : s < st := by
              by_cases c : mid < m
              · have := hs1 c; omega
              · have := hs2 c; omega
            have k := g3 (st - 1) (by omega) (by omega)
            have k1 := SortedIn.le hS h1 hx (show x ≤ st - 1 by omega) (by omega)
            have k2 := SortedIn.le hS h2 (show m ≤ mid + m - 1 - (st - 1) by omega) (show mid + m - 1 - (st - 1) ≤ y by omega) hyb
            exact hS.ntrans _ _ _ (hS.ntrans _ _ _ k2 k) k1) (fun x y hx hxe hy hym => by
            have hsr : st < r := by
              by_cases c : mid < m
              · have := hs1 c; omega
              · have := hs2 c; omega
            have k := g4 st (Nat.le_refl _) hsr
            have k1 := SortedIn.le hS h1 (show a ≤ st by omega) hy hym
            have k2 := SortedIn.le hS h2 hx (show x ≤ mid + m - 1 - st by omega) (by omega)
            exact lt_le hS (le_lt hS k2 k) k1) e
        have z1 : d1.size = d.size := hp1.1
        clear hd1 e g3 g4 h1 h2 hsr
        obtain ⟨d2, hd2⟩ : ∃ d2, d2 = (if a < st ∧ st < mid then symM lt f a st mid d1 else d1) := ⟨_, rfl⟩
        rw [← hd2]
        have k1 : PermIn a mid d1 d2 ∧ SortedIn lt a mid d2 := by
          rw [hd2]; split
          · exact sym_ok hS f a st mid d1 (by omega) (by omega) (by omega) (by omega) H.l1 H.l2
          · refine ⟨permIn_refl _ _ _, ?_⟩
            by_cases c : a < st
            · obtain rfl : st = mid := by omega
              exact H.l1
            · obtain rfl : st = a := by omega
              exact H.l2
        have z2 : d2.size = d1.size := k1.1.1
        have r1 : SortedIn lt mid en d2 := sorted_same H.r1 fun k hk _ => k1.1.2.1 k (Or.inr hk)
        have r2 : SortedIn lt en b d2 := sorted_same H.r2 fun k hk _ => k1.1.2.1 k (Or.inr (by omega))
        obtain ⟨d3, hd3⟩ : ∃ d3, d3 = (if mid < en ∧ en < b then symM lt f mid en b d2 else d2) := ⟨_, rfl⟩
        rw [← hd3]
        have k2 : PermIn mid b d2 d3 ∧ SortedIn lt mid b d3 := by
          rw [hd3]; split
          · exact sym_ok hS f mid en b d2 (by omega) (by omega) (by omega) (by omega) r1 r2
          · refine ⟨permIn_refl _ _ _, ?_⟩
            by_cases c : mid < en
            · obtain rfl : en = b := by omega
              exact r1
            · obtain rfl : en = mid := by omega
              exact r2
        refine ⟨permIn_trans _ _ _ _ _ hp1 (permIn_trans _ _ _ _ _ (permIn_mono _ _ a mid a b (Nat.le_refl _) (by omega) (by omega) k1.1) (permIn_mono _ _ mid b a b (by omega) (Nat.le_refl _) (by omega) k2.1)), ?_⟩
        exact sorted_join (c := mid) (sorted_same k1.2 fun k _ hk => k2.1.2.1 k (Or.inl hk)) k2.2 (apart_keep (by omega) (by omega) (by omega) k1.1 k2.1 H.ap)
/-- Sorted in blocks of bs from a on. -/
def Blks (lt : α → α → Bool) (bs n a : Nat) (d : Array α) : Prop := ∀ k, SortedIn lt (a + k * bs) (min (a + k * bs + bs) n) d
theorem Blks.hd {bs n a : Nat} {d : Array α} (h : Blks lt bs n a d) : SortedIn lt a (min (a + bs) n) d := by simpa using h 0
theorem Blks.tl {bs n a : Nat} {d : Array α} (h : Blks lt bs n a d) : Blks lt bs n (a + bs) d := by
  intro k
  have := h (k + 1)
  rwa [Nat.succ_mul, show a + (k * bs + bs) = a + bs + k * bs by omega] at this
theorem Blks.cons {bs n a : Nat} {d : Array α} (h1 : SortedIn lt a (min (a + bs) n) d) (h2 : Blks lt bs n (a + bs) d) : Blks lt bs n a d
  | 0 => by simpa using h1
  | k + 1 => by
    have := h2 k
    rwa [Nat.succ_mul, show a + (k * bs + bs) = a + bs + k * bs by omega]
theorem Blks.none {bs n a : Nat} {d : Array α} (h : n ≤ a) : Blks lt bs n a d := by intro k i j hi hij hj; omega
theorem Blks.same {bs n a : Nat} {d d' : Array α} (h : Blks lt bs n a d) (e : ∀ k, a ≤ k → d'[k]! = d[k]!) : Blks lt bs n a d' := fun k => sorted_same (h k) fun x hx _ => e x (by omega)
theorem insB_ok (hS : SWO lt) {n : Nat} : ∀ (f a : Nat) (d : Array α), n ≤ d.size → a ≤ n → n ≤ a + 19 + f → PermIn a n d (insB lt n f a d) ∧ Blks lt 20 n a (insB lt n f a d)
  | 0, a, d, hd, ha, hf => by
    rw [insB]
    have h := insertionSort_holds (lt := lt) hS d a n ha hd
    refine ⟨h.1, .cons ?_ (.none (by omega))⟩
    rw [show min (a + 20) n = n by omega]; exact h.2
  | f + 1, a, d, hd, ha, hf => by
    rw [insB]
    split
    · have h := insertionSort_holds (lt := lt) hS d a (a + 20) (by omega) (by omega)
      have g := insB_ok hS (n := n) f (a + 20) (Sort.insertionSort lt d a (a + 20)) (by have := h.1.1; omega) (by omega) (by omega)
      refine ⟨permIn_trans _ _ _ _ _ (permIn_mono _ _ a (a + 20) a n (Nat.le_refl _) (by omega) hd h.1) (permIn_mono (Sort.insertionSort lt d a (a + 20)) _ (a + 20) n a n (by omega) (Nat.le_refl _) (by have := h.1.1; omega) g.1), .cons ?_ g.2⟩
      rw [show min (a + 20) n = a + 20 by omega]
      exact sorted_same h.2 fun k _ hk => g.1.2.1 k (Or.inl hk)
    · have h := insertionSort_holds (lt := lt) hS d a n ha hd
      refine ⟨h.1, .cons ?_ (.none (by omega))⟩
      rw [show min (a + 20) n = n by omega]; exact h.2
theorem mrg_ok (hS : SWO lt) {n bs : Nat} (hbs : 1 ≤ bs) : ∀ (f a : Nat) (d : Array α), n ≤ d.size → a ≤ n → n ≤ a + f → Blks lt bs n a d → PermIn a n d (mrg lt n bs f a d) ∧ Blks lt (2 * bs) n a (mrg lt n bs f a d)
  | 0, a, d, hd, ha, hf, hB => ⟨permIn_refl _ _ _, .none (by omega)⟩
  | f + 1, a, d, hd, ha, hf, hB => by
    rw [mrg]
    have b1 := hB.hd
    have b2 := hB.tl.hd
    split
    · rw [show min (a + bs) n = a + bs by omega] at b1
      rw [show min (a + bs + bs) n = a + 2 * bs by omega] at b2
      have h := sym_ok hS n a (a + bs) (a + 2 * bs) d (by omega) (by omega) (by omega) (by omega) b1 b2
      have b3 : Blks lt bs n (a + 2 * bs) (symM lt n a (a + bs) (a + 2 * bs) d) := Blks.same (d := d) (by have := hB.tl.tl; rwa [show a + bs + bs = a + 2 * bs by omega] at this) fun k hk => h.1.2.1 k (Or.inr hk)
      have g := mrg_ok hS hbs f (a + 2 * bs) _ (by have := h.1.1; omega) (by omega) (by omega) b3
      refine ⟨permIn_trans _ _ _ _ _ (permIn_mono _ _ a (a + 2 * bs) a n (Nat.le_refl _) (by omega) hd h.1) (permIn_mono _ _ (a + 2 * bs) n a n (by omega) (Nat.le_refl _) (by have := h.1.1; omega) g.1), .cons ?_ g.2⟩
      rw [show min (a + 2 * bs) n = a + 2 * bs by omega]
      exact sorted_same h.2 fun k _ hk => g.1.2.1 k (Or.inl hk)
    · split
      · rw [show min (a + bs) n = a + bs by omega] at b1
        rw [show min (a + bs + bs) n = n by omega] at b2
        have h := sym_ok hS n a (a + bs) n d (by omega) (by omega) (by omega) (by omega) b1 b2
        refine ⟨h.1, .cons ?_ (.none (by omega))⟩
        rw [show min (a + 2 * bs) n = n by omega]; exact h.2
      · refine ⟨permIn_refl _ _ _, .cons ?_ (.none (by omega))⟩
        rw [show min (a + 2 * bs) n = n by omega]
        rw [show min (a + bs) n = n by omega] at b1
        exact b1
theorem pas_ok (hS : SWO lt) {n : Nat} : ∀ (f bs : Nat) (d : Array α), d.size = n → 1 ≤ bs → n ≤ bs + f → Blks lt bs n 0 d → SortedIn lt 0 n (pas lt n f bs d)
  | 0, bs, d, hd, h1, hf, hB => by
    have := hB.hd
    rw [show min (0 + bs) n = n by omega] at this
    exact this
  | f + 1, bs, d, hd, h1, hf, hB => by
    rw [pas]
    split
    · have g := mrg_ok hS h1 (n + 1) 0 d (by omega) (by omega) (by omega) hB
      exact pas_ok hS f (2 * bs) _ (by have := g.1.1; omega) (by omega) (by omega) g.2
    · have := hB.hd
      rw [show min (0 + bs) n = n by omega] at this
      exact this
theorem stable_ok (hS : SWO lt) (n : Nat) (d : Array α) (h : d.size = n) : SortedIn lt 0 n (stableA lt n d) := by
  unfold stableA
  have g := insB_ok hS (n := n) n 0 d (by omega) (by omega) (by omega)
  exact pas_ok hS n 20 (insB lt n n 0 d) (by have := g.1.1; omega) (by omega) (by omega) g.2
end

end

/-! ### StbE -/
section
open Go.RowKit Go.Shelf

section
variable {α : Type} [Rep α]
/-- What the comparison must do, wherever the sort stands: compare two of what the row holds; of what lies it turns nothing. -/
def LessS (P : Program) (g : Nat) (lb : Array Value) (lt : α → α → Bool) (w : World) (blk : Nat) (v : Value) (xs : List α) : Prop :=
  ∀ (W : World) (ys : List α), ys.length = xs.length → (∀ y ∈ ys, y ∈ xs) → OffF [blk] w W → Rd false 0 W.heap.size W [v] ys →
    ∀ (i j : Nat) (hi : i < ys.length) (hj : j < ys.length), Calls P g (#[.int .i64 i, .int .i64 j] ++ lb) W (PostB W (lt ys[i] ys[j]))
/-- The items are as they were but for their order, which is the stable sort's; the row's block alone has turned. -/
def PostStb (lt : α → α → Bool) (lo hi : Nat) (w : World) (fp : List Nat) (v : Value) (xs : List α) (e : Ending) (w' : World) : Prop :=
  e = .returned (.tuple #[]) ∧ ∃ ys : List α, ys.Perm xs ∧ (∃ (n : Nat) (inh : Inhabited (Fin n)) (h : xs.length = n), ys = (@stableA (Fin n) inh (fun a b : Fin n => lt (xs[a.val]'(by omega)) (xs[b.val]'(by omega))) n (List.finRange n).toArray).toList.map fun k => xs[k.val]'(by omega)) ∧ Ow lo hi w' [v] ys ∧ OffF fp w w'
set_option maxHeartbeats 2000000 in
theorem stable_lays (t e : TypeId) (i ie : TypeInfo) (hi : Try.prog.info? t = some i) (hd : i.desc = .slice e) (hpk : Try.prog.packed t = false) (hie : Try.prog.info? e = some ie) (ke : Nat) (hke : ∀ w, (Extern.Rtype.kind e).run Try.prog w = .ok ke w)
    (hs1 : ie.size = Rep.sz α) (h0 : 0 < Rep.sz α) (hagg : ∀ w, (isAgg e).run Try.prog w = .ok true w) (lt : α → α → Bool) (g : Nat) (lb : Array Value)
    (eg : ∀ args w, (callFunc g args).run Try.prog w = .ok (.enter g args) w) (f : Nat) (n : Nat) (h2 : 2 ≤ n) (hbig : n ≤ 1000000) (hf : Try.prog.funcs.findIdx? (·.name == "internal/reflectlite" ++ ".Swapper$" ++ toString (Lib.swapperK n ie ke)) = some f)
    (gS : Bool) (hx : ∀ args W, (callFunc f args).run Try.prog W = ((Extern.ReflectliteSwapper.swap gS args).run Try.prog W).andThen fun v w' => .ok (.value v) w')
    {lo up : Nat} (w : World) (blk off cap : Nat) (xs : List α)
    (hown : Ow lo up w [.slice (some ⟨blk, off, none⟩) n cap] xs) (hless : LessS Try.prog g lb lt w blk (.slice (some ⟨blk, off, none⟩) n cap) xs) :
    Calls Try.prog 76 #[.iface t (.slice (some ⟨blk, off, none⟩) n cap), .func (.func g) #[] lb] w (PostStb lt lo up w [blk] (.slice (some ⟨blk, off, none⟩) n cap) xs) := by
  obtain ⟨fp, ⟨v1, hv1, ao, n', cap', rfl, e1, e2, e3, e4, hr⟩, hz, hnd⟩ := hown
  simp only [List.cons.injEq, and_true, Value.slice.injEq] at hv1
  obtain ⟨rfl, rfl, rfl⟩ := hv1
  rcases hr with ⟨hr0, _⟩ | ⟨b, off', css, fps, hb', hb, rfl, hzip, hc, hfr⟩
  · omega
  simp only [Option.some.injEq, Addr.mk.injEq, and_true] at hb'
  obtain ⟨rfl, rfl⟩ := hb'
  obtain ⟨hl1, hl2⟩ := hzip.lens
  have hvl : css.length = n := hl1.trans e1
  have hfl : fps.length = n := hl2.trans e1
  letI inh : Inhabited (Fin n) := ⟨⟨0, by omega⟩⟩
  let enc : Fin n → List Value := fun k => css[k.val]'(by omega)
  let K := Rep.sz α
  have hk : ∀ x, (enc x).length = K := fun x => hzip.sizes _ (List.getElem_mem _)
  let ltF : Fin n → Fin n → Bool := fun a b => lt (xs[a.val]'(by omega)) (xs[b.val]'(by omega))
  have hds : (List.finRange n).toArray.size = n := by simp
  have hall : (List.finRange n).toArray.toList.map enc = css := by
    show (List.finRange n).map enc = css
    exact pick_all css n hvl
  have hR0 : RowAt enc K w blk off (List.finRange n).toArray w := ⟨fun j hj => by
    rw [Sort.size_flatK] at hj
    have := flatK_at enc K hk h0 (List.finRange n).toArray j hj
    rw [hall] at this
    exact ⟨hc j _ this, hfr rfl _⟩, hfr rfl, OffF.refl _ _⟩
  have hone : ∀ k, ∀ v ∈ enc k, v.oneCell' = true := fun k v hv => hzip.one _ (List.mem_flatten.2 ⟨_, List.getElem_mem _, hv⟩)
  have hne : ∀ k ∈ fps.flatten, k ≠ blk := fun k hk e => (List.nodup_cons.1 hnd).1 (e ▸ hk)
  -- what a world holds whose row has been laid anew
  have hrow : ∀ (W : World) (dk : Array (Fin n)), RowAt enc K w blk off dk W → dk.size = n → Rep.rep true W [.slice (some ⟨blk, off, none⟩) n cap] (dk.toList.map fun k => xs[k.val]'(by omega)) (blk :: (dk.toList.map fun k => fps[k.val]'(by omega)).flatten) := by
    intro W dk hRA hdk
    have hZ := Zip.pick hzip n hvl e1 hfl dk.toList
    have hsub : ∀ k ∈ (dk.toList.map fun k => fps[k.val]'(by omega)).flatten, k ∈ fps.flatten := by
      intro k hk
      obtain ⟨l, hl, hkl⟩ := List.mem_flatten.1 hk
      obtain ⟨q, _, rfl⟩ := List.mem_map.1 hl
      exact List.mem_flatten.2 ⟨_, List.getElem_mem _, hkl⟩
    refine ⟨_, rfl, some ⟨blk, off, none⟩, n, cap, rfl, by simpa using hdk, e2, e3, (fun h => by cases h), .inr ⟨blk, off, _, _, rfl, Nat.lt_of_lt_of_le hb hRA.off.size, rfl, hZ.keep ?_, ?_, fun _ o => hRA.frz o⟩⟩
    · intro k hk
      have hk' := hsub k hk
      exact hRA.off.block k (hzip.lt k hk') (by simpa using hne k hk')
    · intro j c hj
      have hjl : j < dk.size * K := by
        have h1 := (List.getElem?_eq_some_iff.1 hj).1
        have h3 : ∀ l : List (Fin n), ((l.map enc).flatten).length = l.length * K := by
          intro l
          induction l with
          | nil => simp
          | cons x l ih => rw [List.map_cons, List.flatten_cons, List.length_append, ih, hk]; simp [Nat.add_mul]; omega
        have h4 := h3 dk.toList
        have h5 : (dk.toList.map enc).flatten.length = dk.size * K := by simpa using h4
        rw [← h5]; exact h1
      have h6 := flatK_at enc K hk h0 dk j hjl
      have h7 : some c = some (Sort.flatK enc K dk)[j]! := hj.symm.trans h6
      rw [Option.some.inj h7]
      exact (hRA.holds j (by rw [Sort.size_flatK]; exact hjl)).1
  have hLG : LessG Try.prog g lb enc K ltF w blk off n := by
    intro W dk hRA hs i j hi hj
    have hR := hrow W dk hRA hs
    have hl : (dk.toList.map fun k => xs[k.val]'(by omega)).length = n := by simpa using hs
    have := hless W _ (hl.trans e1.symm) (fun y hy => by
      obtain ⟨k, _, rfl⟩ := List.mem_map.1 hy
      exact List.getElem_mem _) hRA.off ⟨_, Rep.weak hR, fun b hb => ⟨Nat.zero_le _, Rep.lt hR b hb⟩⟩ i j (by omega) (by omega)
    refine this.mono fun e w' h => ?_
    obtain ⟨he, hw⟩ := h
    refine ⟨?_, hw⟩
    rw [he]
    simp only [List.getElem_map, ltF]
    rw [getElem!_pos dk i (by omega), getElem!_pos dk j (by omega)]
    simp
  have hbnd : sliceBound Try.prog e ie ke (some ⟨blk, off, none⟩) n cap = #[.slice (some ⟨blk, off, none⟩) n cap, typeHandle Try.prog e] := by
    unfold sliceBound; rw [if_neg (swapperK_gt _ _ _ h2)]
  have hS := Any.sort_SliceStable_of_stable ss8 t e i ie hi hd hpk hie ke hke (some ⟨blk, off, none⟩) n cap (by omega) f hf (.func g) #[] lb w (fun w' => RowAt enc K w blk off (stableA ltF n (List.finRange n).toArray) w') (by
    rw [hbnd]
    generalize hW : stableWorld _ _ _ _ _ _ _ = W
    have hbW : Below w.heap.size w W := by
      rw [← hW]
      unfold stableWorld
      first | exact ((Below.refl _ _).alloc (Nat.le_refl _) _).alloc (by simp) _ | exact (Below.refl _ _).alloc (Nat.le_refl _) _
    have hRW := hR0.below hbW hb
    refine Calls.mono (stb_any enc K hk ltF g lb f #[.slice (some ⟨blk, off, none⟩) n cap, typeHandle Try.prog e] blk off eg n hbig (swapSwapsK_of_literal gS f hx e ie hie enc K hk hs1 hagg hone blk off n cap) (List.finRange n).toArray W hds (hLG.on hRW) hRW.here (hRW.lt hb)) ?_
    rintro e w' ⟨rfl, hr⟩
    exact ⟨rfl, hRW.on hr⟩)
  refine hS.mono ?_
  rintro e w' ⟨rfl, hRA⟩
  have hp1 : (stableA ltF n (List.finRange n).toArray).size = n := by rw [stable_size]; exact hds
  have hpl : (stableA ltF n (List.finRange n).toArray).toList.Perm (List.finRange n) := stable_perm ltF n _ hds
  refine ⟨rfl, (stableA ltF n (List.finRange n).toArray).toList.map fun k => xs[k.val]'(by omega), ?_, ⟨n, inh, e1, rfl⟩, ⟨_, hrow w' _ hRA hp1, fun b hb => ?_, ?_⟩, hRA.off⟩
  · have := hpl.map fun k : Fin n => xs[k.val]'(by omega)
    rwa [pick_all xs n e1] at this
  all_goals
    have hpf : ((stableA ltF n (List.finRange n).toArray).toList.map fun k => fps[k.val]'(by omega)).Perm fps := by
      have := hpl.map fun k : Fin n => fps[k.val]'(by omega)
      rwa [pick_all fps n hfl] at this
  · rcases List.mem_cons.1 hb with rfl | hb
    · exact hz _ (by simp)
    · exact hz b (List.mem_cons_of_mem _ (hpf.flatten.mem_iff.1 hb))
  · rw [List.nodup_cons] at hnd ⊢
    exact ⟨fun h => hnd.1 (hpf.flatten.mem_iff.1 h), hpf.flatten.nodup_iff.2 hnd.2⟩
end

end

end Go.Proofs.Ytoipdgoejichbaa
