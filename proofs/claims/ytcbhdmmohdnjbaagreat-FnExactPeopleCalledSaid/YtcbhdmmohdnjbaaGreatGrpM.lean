/- Texts laid one behind the other (merge.py): Grp, Rds, All. -/
import Derived.Test.YtcbhdmmohdnjbaaGreatBase
namespace Go.Proofs.YtcbhdmmohdnjbaaGreat
set_option linter.unusedVariables false
set_option linter.unusedSimpArgs false
open Go.RowKit

/-! ### Grp -/
section

abbrev Pms := List (List Int)
def gAdd (o : Pms) (p : List Int) : Pms := if p ∈ o then o else o ++ [p]
def gRound (c : Cls) (o : Pms) (q : List Int) : Pms := gAdd (gAdd o (comp q c.1)) (comp q c.2)
/-- From the place i on: all that are met; none if they are more than so many. -/
def gLoop (c : Cls) (most : Nat) : Nat → Nat → Pms → Option Pms
  | 0, _, _ => none
  | f + 1, i, o => match o[i]? with
    | some q => if most < (gRound c o q).length then none else gLoop c most f (i + 1) (gRound c o q)
    | none => some o
/-- A list in its place. -/
def lins (p : List Int) : Pms → Pms
  | [] => [p]
  | q :: l => if lexB p q = true then p :: q :: l else q :: lins p l
def lsrt (o : Pms) : Pms := o.foldl (fun s p => lins p s) []
theorem gLoop_none {c : Cls} {most f i : Nat} {o : Pms} (h : o[i]? = none) : gLoop c most (f + 1) i o = some o := by rw [gLoop, h]
theorem gLoop_big {c : Cls} {most f i : Nat} {o : Pms} {q : List Int} (h : o[i]? = some q) (hb : most < (gRound c o q).length) : gLoop c most (f + 1) i o = none := by rw [gLoop, h]; exact if_pos hb
theorem gLoop_go {c : Cls} {most f i : Nat} {o : Pms} {q : List Int} (h : o[i]? = some q) (hb : ¬ most < (gRound c o q).length) : gLoop c most (f + 1) i o = gLoop c most f (i + 1) (gRound c o q) := by rw [gLoop, h]; exact if_neg hb
theorem lins_perm (p : List Int) : ∀ l : Pms, (lins p l).Perm (p :: l)
  | [] => List.Perm.refl _
  | q :: l => by
    rw [lins]
    split
    · exact List.Perm.refl _
    · exact ((lins_perm p l).cons q).trans (List.Perm.swap p q l)
theorem lsrt_snoc (o : Pms) (p : List Int) : lsrt (o ++ [p]) = lins p (lsrt o) := by unfold lsrt; rw [List.foldl_append]; rfl
theorem foldl_lins_perm : ∀ (o s : Pms), (o.foldl (fun s p => lins p s) s).Perm (o ++ s)
  | [], s => List.Perm.refl _
  | p :: o, s => by
    refine (foldl_lins_perm o (lins p s)).trans ?_
    refine ((List.Perm.append_left o (lins_perm p s))).trans ?_
    exact List.perm_middle
theorem lsrt_perm (o : Pms) : (lsrt o).Perm o := by
  have := foldl_lins_perm o []
  rw [List.append_nil] at this
  exact this
theorem lsrt_mem {o : Pms} {p : List Int} : p ∈ lsrt o ↔ p ∈ o := (lsrt_perm o).mem_iff
theorem lsrt_len (o : Pms) : (lsrt o).length = o.length := (lsrt_perm o).length_eq
/-- Ascending: nothing lies ahead of what is less. -/
def Asc (l : Pms) : Prop := l.Pairwise fun a b => lexB b a = false
theorem lexB_trans : ∀ {a b c : List Int}, lexB b a = false → lexB c b = false → lexB c a = false
  | a, [], c, h1, h2 => by
    cases a with
    | nil => cases c with | nil => rfl | cons z zs => simp [lexB]
    | cons x xs => simp [lexB] at h1
  | a, y :: ys, [], h1, h2 => by simp [lexB] at h2
  | [], y :: ys, z :: zs, h1, h2 => by simp [lexB]
  | x :: xs, y :: ys, z :: zs, h1, h2 => by
    rw [lexB] at h1 h2 ⊢
    by_cases e1 : y = x
    · subst e1
      rw [if_pos rfl] at h1
      by_cases e2 : z = y
      · subst e2
        rw [if_pos rfl] at h2 ⊢
        exact lexB_trans h1 h2
      · rw [if_neg e2] at h2 ⊢; exact h2
    · rw [if_neg e1] at h1
      by_cases e2 : z = y
      · subst e2
        rw [if_neg e1]; exact h1
      · rw [if_neg e2] at h2
        have h3 : ¬ y < x := by simpa using h1
        have h4 : ¬ z < y := by simpa using h2
        rw [if_neg (show ¬ z = x by omega)]
        simp; omega
theorem lexB_asym {a b : List Int} (h : lexB a b = true) : lexB b a = false := by
  cases h2 : lexB b a with
  | false => rfl
  | true =>
    have := lexB_self a
    cases h3 : lexB a b with
    | false => rw [h3] at h; cases h
    | true =>
      -- a < b < a
      exact absurd (lexB_cyc a b h h2) (by simp)
where
  lexB_cyc : ∀ a b : List Int, lexB a b = true → lexB b a = true → False
    | [], [], h, _ => by simp [lexB] at h
    | [], _ :: _, _, h => by simp [lexB] at h
    | _ :: _, [], h, _ => by simp [lexB] at h
    | x :: xs, y :: ys, h, h' => by
      rw [lexB] at h h'
      by_cases e : x = y
      · subst e
        rw [if_pos rfl] at h h'
        exact lexB_cyc xs ys h h'
      · rw [if_neg e] at h
        rw [if_neg (Ne.symm e)] at h'
        simp at h h'; omega
theorem lins_asc {p : List Int} : ∀ {l : Pms}, Asc l → Asc (lins p l)
  | [], _ => by simp [lins, Asc]
  | q :: l, h => by
    unfold Asc at h ⊢
    rw [List.pairwise_cons] at h
    rw [lins]
    split
    · rename_i hp
      rw [List.pairwise_cons]
      refine ⟨fun x hx => ?_, List.pairwise_cons.2 h⟩
      rcases List.mem_cons.1 hx with rfl | hx
      · exact lexB_asym hp
      · exact lexB_trans (lexB_asym hp) (h.1 x hx)
    · rename_i hp
      rw [List.pairwise_cons]
      refine ⟨fun x hx => ?_, lins_asc h.2⟩
      have := (lins_perm p l).mem_iff.1 hx
      rcases List.mem_cons.1 this with rfl | hx
      · simpa using hp
      · exact h.1 x hx
theorem foldl_lins_asc : ∀ (o s : Pms), Asc s → Asc (o.foldl (fun s p => lins p s) s)
  | [], _, h => h
  | p :: o, s, h => foldl_lins_asc o _ (lins_asc h)
theorem lsrt_asc (o : Pms) : Asc (lsrt o) := foldl_lins_asc o [] List.Pairwise.nil
/-- Two ascending lists of the same members are one. -/
theorem asc_eq : ∀ {a b : Pms}, a.Perm b → Asc a → Asc b → a = b
  | [], b, h, _, _ => (List.Perm.nil_eq h)
  | x :: a, [], h, _, _ => absurd h.symm (by simp)
  | x :: a, y :: b, h, ha, hb => by
    unfold Asc at ha hb
    rw [List.pairwise_cons] at ha hb
    have hxy : x = y := by
      by_cases e : x = y
      · exact e
      · have hx : x ∈ y :: b := h.mem_iff.1 (by simp)
        have hy : y ∈ x :: a := h.mem_iff.2 (by simp)
        have h1 : x ∈ b := by rcases List.mem_cons.1 hx with h | h; exact absurd h e; exact h
        have h2 : y ∈ a := by rcases List.mem_cons.1 hy with h | h; exact absurd h.symm e; exact h
        exact lexB_tri _ _ (hb.1 x h1) (ha.1 y h2)
    subst hxy
    rw [asc_eq (List.Perm.cons_inv h) ha.2 hb.2]
theorem gAdd_len (o : Pms) (p : List Int) : o.length ≤ (gAdd o p).length ∧ (gAdd o p).length ≤ o.length + 1 := by
  unfold gAdd
  split
  · omega
  · rw [List.length_append]; simp
theorem gRound_len (c : Cls) (o : Pms) (q : List Int) : o.length ≤ (gRound c o q).length ∧ (gRound c o q).length ≤ o.length + 2 := by
  have h1 := gAdd_len o (comp q c.1)
  have h2 := gAdd_len (gAdd o (comp q c.1)) (comp q c.2)
  unfold gRound
  omega

end

/-! ### Rds -/
section

def RdS {α : Type} [Rep α] (S : Nat → Prop) (w : World) (cs : List Value) (x : α) : Prop := ∃ fp, Rep.rep false w cs x fp ∧ ∀ b ∈ fp, b < w.heap.size ∧ S b
/-- The row is the call's own, from lo on; the items lie below lo, in blocks of S. -/
def GR {α : Type} [Rep α] (S : Nat → Prop) (lo : Nat) (w : World) (E : TypeId) (v : Value) (xs : List α) : Prop :=
  ∃ css fps, w.ownsRow lo E (Rep.sz α) v xs.length css.flatten ∧ Zip (Rep.rep false w) css xs fps ∧ ∀ b ∈ fps.flatten, b < lo ∧ S b
section
variable {α : Type} [Rep α] {S : Nat → Prop} {lo : Nat} {w w' : World} {E : TypeId} {v : Value} {xs : List α} {cs : List Value} {x : α}
theorem RdS.rd (h : RdS S w cs x) : Rd false 0 w.heap.size w cs x := by
  obtain ⟨fp, h1, h2⟩ := h
  exact ⟨fp, h1, fun b hb => ⟨Nat.zero_le _, (h2 b hb).1⟩⟩
theorem RdS.below (h : RdS S w cs x) (k : Below w.heap.size w w') : RdS S w' cs x := by
  obtain ⟨fp, h1, h2⟩ := h
  have h3 := Rep.keep h1 fun b hb => k.block b (h2 b hb).1
  exact ⟨fp, h3, fun b hb => ⟨Rep.lt h3 b hb, (h2 b hb).2⟩⟩
theorem RdS.mono {S' : Nat → Prop} (h : RdS S w cs x) (k : ∀ b, b < w.heap.size → S b → S' b) : RdS S' w cs x := by
  obtain ⟨fp, h1, h2⟩ := h
  exact ⟨fp, h1, fun b hb => ⟨(h2 b hb).1, k b (h2 b hb).1 (h2 b hb).2⟩⟩
theorem RdS.keep (h : RdS S w cs x) (k : ∀ b, b < w.heap.size → S b → w'.heap[b]? = w.heap[b]?) : RdS S w' cs x := by
  obtain ⟨fp, h1, h2⟩ := h
  have h3 := Rep.keep h1 fun b hb => k b (h2 b hb).1 (h2 b hb).2
  exact ⟨fp, h3, fun b hb => ⟨Rep.lt h3 b hb, (h2 b hb).2⟩⟩
theorem GR.lit0 (S : Nat → Prop) (lo : Nat) (w : World) (E : TypeId) (h : lo ≤ w.heap.size) : GR (α := α) S lo (w.alloc (.cells #[] E)) E (.slice (some ⟨w.heap.size, 0, none⟩) 0 0) [] :=
  ⟨[], [], by simpa using World.ownsRow_made (e := E) (size := Rep.sz α) w #[] 0 h (Nat.zero_le _) (by simp), trivial, by simp⟩
theorem GR.below (h : GR S lo w E v xs) (hb : Below w.heap.size w w') : GR S lo w' E v xs := by
  obtain ⟨css, fps, ho, hz, hl⟩ := h
  refine ⟨css, fps, ⟨ho.1, ?_⟩, hz.keep (fun b hb' => hb.block b (hz.lt b hb')), hl⟩
  rcases ho.2 with h | ⟨g, cap, cur, rfl, hbb, hh, r⟩
  · exact .inl h
  · exact .inr ⟨g, cap, cur, rfl, hbb, by rw [hb.block g (ho.lt g rfl).2]; exact hh, r⟩
theorem GR.alloc (h : GR S lo w E v xs) (o : Obj) : GR S lo (w.alloc o) E v xs := h.below ((Below.refl _ _).alloc (Nat.le_refl _) o)
theorem GR.rds (h : GR S lo w E v xs) : RdS (fun b => S b ∨ lo ≤ b) w [v] xs := by
  obtain ⟨css, fps, ho, hz, hl⟩ := h
  rcases ho.2 with ⟨rfl, h⟩ | ⟨g, cap, cur, rfl, hbb, hh, h3, h4, h5, h6⟩
  · exact ⟨[], ⟨_, rfl, none, 0, 0, rfl, h, Nat.le_refl _, by simp [maxLen], fun _ => rfl, .inl ⟨rfl, rfl⟩⟩, (fun _ h => by cases h)⟩
  · refine ⟨g :: fps.flatten, ⟨_, rfl, some ⟨g, 0, none⟩, xs.length, cap, rfl, rfl, h3, h4, (fun h => by cases h), .inr ⟨g, 0, css, fps, rfl, (ho.lt g rfl).2, rfl, hz, ?_, (fun h => by cases h)⟩⟩, ?_⟩
    · intro j c hj
      have := ho.cells (g := g) rfl j c hj
      by_cases hj0 : j = 0
      · subst hj0; simpa [Addr.add] using this
      · simpa [Addr.add, hj0] using this
    · intro b hb
      rcases List.mem_cons.1 hb with rfl | hb
      · exact ⟨(ho.lt b rfl).2, .inr hbb⟩
      · exact ⟨hz.lt b hb, .inl (hl b hb).2⟩
end
theorem RdS.list_at {S : Nat → Prop} {w : World} {xs : Pms} {ao : Option Addr} {n cap : Nat} (h : RdS S w [.slice ao n cap] xs) {i : Nat} (hi' : i < n) :
    ∃ b off p v, ao = some ⟨b, off, none⟩ ∧ Hid (xs[i]? = some p) ∧ w.cell? ⟨b, off + i, none⟩ = some v ∧ RdS S w [v] p ∧ b < w.heap.size := by
  obtain ⟨fp, ⟨v, e, ao', n', cap', e2, hn, h2, h3, h4, hh⟩, hz⟩ := h
  simp only [List.cons.injEq, and_true] at e
  subst e
  simp only [Value.slice.injEq] at e2
  obtain ⟨rfl, rfl, rfl⟩ := e2
  rcases hh with ⟨h0, _⟩ | ⟨b, off, css, fps, rfl, hb, rfl, hzip, hc, hf⟩
  · omega
  · obtain ⟨x, hx⟩ : ∃ x, xs[i]? = some x := ⟨_, List.getElem?_eq_getElem (by omega)⟩
    obtain ⟨c, f, k1, k2, k3⟩ := hzip.get hx
    obtain ⟨v, rfl⟩ : ∃ v, c = [v] := by
      have := Rep.len k3
      match c, this with
      | [v], _ => exact ⟨v, rfl⟩
    refine ⟨b, off, x, v, rfl, hx, ?_, ⟨f, k3, fun b hb => hz b (List.mem_cons_of_mem _ (List.mem_flatten.2 ⟨f, List.mem_of_getElem? k2, hb⟩))⟩, hb⟩
    have := cellsAt_flat hzip.sizes k1 0 (by show 0 < 1; omega)
    have := hc (i * 1 + 0) v (by simpa [Rep.sz] using this)
    simpa using this
section
variable {P : Program} {α : Type} [Rep α] {S : Nat → Prop} {lo : Nat} {w : World} {E : TypeId} {v : Value} {xs : List α}
theorem wpList_push_r {ops : Array Oper} {rest : List Oper} {o : Oper} {a : Act} {Q : Exit → Act → World → Prop} (hgd : o.guard = none) {s x : Operand} {t : TypeId}
    (ho : o.op = .call { callee := .builtin .append, args := #[s, x], argTypes := #[t, t] })
    {z0 : Value} {bytes : Nat} (hT : SlTy P t E z0 (Rep.sz α) bytes) (hsz : 0 < Rep.sz α) (hG : GR S lo w E v xs) (hs : a.eval s = v)
    {ad : Addr} {c : Nat} (hx : a.eval x = .slice (some ad) 1 c) {cs : List Value} {y : α} (hcells : ∀ j u, cs[j]? = some u → w.cell? (ad.add j) = some u)
    {w0 : World} (hy : RdS S w0 cs y) (hw : Below lo w0 w) (hw0 : w0.heap.size ≤ lo) (h63 : xs.length + 1 ≤ maxLen) (hbytes : (xs.length + 1) * bytes ≤ 140737488355328) (hlo : lo ≤ w.heap.size)
    (h : ∀ v' w', GR S lo w' E v' (xs ++ [y]) → Below lo w w' → wpList P ops Q rest (a.put o.dst v') w') : wpList P ops Q (o :: rest) a w := by
  obtain ⟨fp, hr0, hfp⟩ := hy
  have hr : Rep.rep false w cs y fp := Rep.keep hr0 fun b hb => hw.block b (Nat.lt_of_lt_of_le (hfp b hb).1 hw0)
  obtain ⟨css, fps, hown, hz, hl⟩ := hG
  have hlen : cs.length = 1 * Rep.sz α := by rw [Nat.one_mul]; exact Rep.len hr
  obtain ⟨v', w', hrun, ho', hgr, hv⟩ := run_app (P := P) w (t := t) (ty := o.type) hT hsz hown (ao := some ad) (m := 1) (c := c) hlen (fun h => by cases h) (fun a e => by simp only [Option.some.injEq] at e; subst e; exact hcells) (Rep.one hr) h63 hbytes hlo
  have hbel : Below lo w w' := (Below.refl lo w).grown hgr hlo fun k hk => (hown.lt k hk).1
  refine wpList_plain hgd fun K hK => ?_
  unfold Oper.wp execOp
  simp only [ho, resolve, invoke, builtin, Sem.run_bind, Sem.run_pure, Result.andThen_ok, List.map_toArray, List.map_cons, List.map_nil, hs, hx]
  rw [hrun]
  refine hK _ _ (h v' w' ⟨css ++ [cs], fps ++ [fp], ?_, (hz.snoc hr).keep fun b hb => hbel.block b ?_, ?_⟩ hbel)
  · rw [List.length_append, List.flatten_append]; simpa using ho'
  · rw [List.flatten_append, List.mem_append] at hb
    rcases hb with hb | hb
    · exact (hl b hb).1
    · exact Nat.lt_of_lt_of_le (hfp b (by simpa using hb)).1 hw0
  · intro b hb
    rw [List.flatten_append, List.mem_append] at hb
    rcases hb with hb | hb
    · exact hl b hb
    · have := hfp b (by simpa using hb)
      exact ⟨Nat.lt_of_lt_of_le this.1 hw0, this.2⟩
end

end

/-! ### All -/
section

def ext (x : Nat) (p : List Int) : List (List Int) := ((List.range x).filter fun (y : Nat) => !p.contains (y : Int)).map fun (y : Nat) => p ++ [(y : Int)]
def perms (n : Nat) : Nat → List (List Int)
  | 0 => [[]]
  | k + 1 => (perms n k).flatMap (ext n)

theorem ext_zero (p : List Int) : ext 0 p = [] := rfl
theorem ext_in {x : Nat} {p : List Int} (h : p.contains (x : Int) = true) : ext (x + 1) p = ext x p := by
  have h' : (x : Int) ∈ p := by simpa using h
  unfold ext; rw [List.range_succ, List.filter_append, List.map_append]; simp [h']
theorem ext_out {x : Nat} {p : List Int} (h : p.contains (x : Int) = false) : ext (x + 1) p = ext x p ++ [p ++ [(x : Int)]] := by
  have h' : ¬ (x : Int) ∈ p := by simpa using h
  unfold ext; rw [List.range_succ, List.filter_append, List.map_append]; simp [h']
theorem ext_len (x : Nat) (p : List Int) : (ext x p).length ≤ x := by
  unfold ext; rw [List.length_map]
  have := List.length_filter_le (fun y : Nat => !p.contains (y : Int)) (List.range x)
  simpa using this
theorem flat_ext_len (n : Nat) : ∀ L : List (List Int), (L.flatMap (ext n)).length ≤ L.length * n
  | [] => by simp
  | p :: L => by
    have h1 := ext_len n p
    have h2 := flat_ext_len n L
    rw [List.flatMap_cons, List.length_append, List.length_cons, Nat.add_mul]; omega
theorem perms_mem {n : Nat} : ∀ {k : Nat} {p : List Int}, p ∈ perms n k → p.length = k
  | 0, p, h => by simp [perms] at h; subst h; rfl
  | k + 1, p, h => by
    rw [perms, List.mem_flatMap] at h
    obtain ⟨q, hq, hp⟩ := h
    unfold ext at hp
    obtain ⟨y, _, rfl⟩ := List.mem_map.1 hp
    rw [List.length_append, perms_mem hq]; rfl
theorem perms_len {n : Nat} (hn : n ≤ 5) : ∀ k, (perms n k).length ≤ 5 ^ k
  | 0 => by simp [perms]
  | k + 1 => by
    rw [perms, Nat.pow_succ]
    have h1 := perms_len hn k
    have h2 := flat_ext_len n (perms n k)
    have h3 := Nat.mul_le_mul h1 hn
    omega
theorem perms_len5 {n k : Nat} (hn : n ≤ 5) (hk : k ≤ 5) : (perms n k).length ≤ 3125 :=
  Nat.le_trans (perms_len hn k) (Nat.le_trans (Nat.pow_le_pow_right (by omega) hk) (by decide))
theorem take_flat {n : Nat} {L : List (List Int)} {i : Nat} {p : List Int} (h : L[i]? = some p) : (L.take (i + 1)).flatMap (ext n) = (L.take i).flatMap (ext n) ++ ext n p := by
  rw [take_snoc h, List.flatMap_append]; simp

theorem Rd.ints_at {z : Bool} {lo hi : Nat} {w : World} {xs : List (List Int)} {ao : Option Addr} {n cap : Nat} (h : Rd z lo hi w [.slice ao n cap] xs) {i : Nat} (hi' : i < n) :
    ∃ b off p v, ao = some ⟨b, off, none⟩ ∧ Hid (xs[i]? = some p) ∧ w.cell? ⟨b, off + i, none⟩ = some v ∧ Rd z lo hi w [v] p ∧ lo ≤ b ∧ b < hi ∧ b < w.heap.size := by
  obtain ⟨b, off, p, cs, e, hx, hr, hl, h1, h2, h3, hc, hf⟩ := h.at hi'
  obtain ⟨v, rfl⟩ : ∃ v, cs = [v] := by
    match cs, hl with
    | [v], _ => exact ⟨v, rfl⟩
  exact ⟨b, off, p, v, e, hx, by have := hc 0 v rfl; simpa [Rep.sz] using this, hr, h1, h2, h3⟩

theorem Ow.lit1 (w : World) (v : Value) (E : TypeId) (hv : ∀ w', Rep.rep true w' [v] ([] : List Int) []) :
    Ow w.heap.size (w.heap.size + 1) (w.alloc (.cells #[v] E)) [.slice (some ⟨w.heap.size, 0, none⟩) 1 1] ([[]] : List (List Int)) := by
  refine ⟨[w.heap.size], ⟨_, rfl, some ⟨w.heap.size, 0, none⟩, 1, 1, rfl, rfl, Nat.le_refl _, by simp [maxLen], (fun h => by cases h), .inr ⟨w.heap.size, 0, [[v]], [[]], rfl, by simp, rfl, ⟨hv _, trivial⟩, ?_, ?_⟩⟩, ?_, by simp⟩
  · intro j c hj
    match j, hj with
    | 0, hj => simp at hj; subst hj; simp [go_sem]
  · intro _ o; simp [go_sem]
  · intro b hb; simp at hb; omega
theorem repNil (ao : Option Addr) (w : World) : Rep.rep true w [.slice ao 0 0] ([] : List Int) [] :=
  ⟨_, rfl, ao, 0, 0, rfl, rfl, Nat.le_refl _, by simp [maxLen], fun _ => rfl, .inl ⟨rfl, rfl⟩⟩


end

end Go.Proofs.YtcbhdmmohdnjbaaGreat
