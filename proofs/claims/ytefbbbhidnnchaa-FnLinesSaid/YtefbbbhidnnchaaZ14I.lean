/- Texts laid one behind the other (merge.py): Grp, IntSS, Rds, Gx. -/
import Derived.Test.YtefbbbhidnnchaaZ14H
import Derived.Test.YtefbbbhidnnchaaZ14A
namespace Go.Proofs.Ytefbbbhidnnchaa
set_option linter.unusedVariables false
set_option linter.unusedSimpArgs false
open Go.RowKit

/-! ### Grp -/
section

abbrev Pms := List (List Int)
def gAdd (o : Pms) (p : List Int) : Pms := if p ∈ o then o else o ++ [p]
def gRound (c : Cls) (o : Pms) (q : List Int) : Pms := gAdd (gAdd o (comp q c.1)) (comp q c.2)
/-- From the place i on: all that are met; none if they are more than so many. -/
def gLoop (c : Cls) (most : Nat) : Nat → Nat → Pms → Option Pms
  | 0, _, _ => none
  | f + 1, i, o => match o[i]? with
    | some q => if most < (gRound c o q).length then none else gLoop c most f (i + 1) (gRound c o q)
    | none => some o
/-- A list in its place. -/
def lins (p : List Int) : Pms → Pms
  | [] => [p]
  | q :: l => if lexB p q = true then p :: q :: l else q :: lins p l
def lsrt (o : Pms) : Pms := o.foldl (fun s p => lins p s) []
theorem gLoop_none {c : Cls} {most f i : Nat} {o : Pms} (h : o[i]? = none) : gLoop c most (f + 1) i o = some o := by rw [gLoop, h]
theorem gLoop_big {c : Cls} {most f i : Nat} {o : Pms} {q : List Int} (h : o[i]? = some q) (hb : most < (gRound c o q).length) : gLoop c most (f + 1) i o = none := by rw [gLoop, h]; exact if_pos hb
theorem gLoop_go {c : Cls} {most f i : Nat} {o : Pms} {q : List Int} (h : o[i]? = some q) (hb : ¬ most < (gRound c o q).length) : gLoop c most (f + 1) i o = gLoop c most f (i + 1) (gRound c o q) := by rw [gLoop, h]; exact if_neg hb
theorem lins_perm (p : List Int) : ∀ l : Pms, (lins p l).Perm (p :: l)
  | [] => List.Perm.refl _
  | q :: l => by
    rw [lins]
    split
    · exact List.Perm.refl _
    · exact ((lins_perm p l).cons q).trans (List.Perm.swap p q l)
theorem lsrt_snoc (o : Pms) (p : List Int) : lsrt (o ++ [p]) = lins p (lsrt o) := by unfold lsrt; rw [List.foldl_append]; rfl
theorem foldl_lins_perm : ∀ (o s : Pms), (o.foldl (fun s p => lins p s) s).Perm (o ++ s)
  | [], s => List.Perm.refl _
  | p :: o, s => by
    refine (foldl_lins_perm o (lins p s)).trans ?_
    refine ((List.Perm.append_left o (lins_perm p s))).trans ?_
    exact List.perm_middle
theorem lsrt_perm (o : Pms) : (lsrt o).Perm o := by
  have := foldl_lins_perm o []
  rw [List.append_nil] at this
  exact this
theorem lsrt_mem {o : Pms} {p : List Int} : p ∈ lsrt o ↔ p ∈ o := (lsrt_perm o).mem_iff
theorem lsrt_len (o : Pms) : (lsrt o).length = o.length := (lsrt_perm o).length_eq
/-- Ascending: nothing lies ahead of what is less. -/
def Asc (l : Pms) : Prop := l.Pairwise fun a b => lexB b a = false
theorem lexB_trans : ∀ {a b c : List Int}, lexB b a = false → lexB c b = false → lexB c a = false
  | a, [], c, h1, h2 => by
    cases a with
    | nil => cases c with | nil => rfl | cons z zs => simp [lexB]
    | cons x xs => simp [lexB] at h1
  | a, y :: ys, [], h1, h2 => by simp [lexB] at h2
  | [], y :: ys, z :: zs, h1, h2 => by simp [lexB]
  | x :: xs, y :: ys, z :: zs, h1, h2 => by
    rw [lexB] at h1 h2 ⊢
    by_cases e1 : y = x
    · subst e1
      rw [if_pos rfl] at h1
      by_cases e2 : z = y
      · subst e2
        rw [if_pos rfl] at h2 ⊢
        exact lexB_trans h1 h2
      · rw [if_neg e2] at h2 ⊢; exact h2
    · rw [if_neg e1] at h1
      by_cases e2 : z = y
      · subst e2
        rw [if_neg e1]; exact h1
      · rw [if_neg e2] at h2
        have h3 : ¬ y < x := by simpa using h1
        have h4 : ¬ z < y := by simpa using h2
        rw [if_neg (show ¬ z = x by omega)]
        simp; omega
theorem lexB_asym {a b : List Int} (h : lexB a b = true) : lexB b a = false := by
  cases h2 : lexB b a with
  | false => rfl
  | true =>
    have := lexB_self a
    cases h3 : lexB a b with
    | false => rw [h3] at h; cases h
    | true =>
      -- a < b < a
      exact absurd (lexB_cyc a b h h2) (by simp)
where
  lexB_cyc : ∀ a b : List Int, lexB a b = true → lexB b a = true → False
    | [], [], h, _ => by simp [lexB] at h
    | [], _ :: _, _, h => by simp [lexB] at h
    | _ :: _, [], h, _ => by simp [lexB] at h
    | x :: xs, y :: ys, h, h' => by
      rw [lexB] at h h'
      by_cases e : x = y
      · subst e
        rw [if_pos rfl] at h h'
        exact lexB_cyc xs ys h h'
      · rw [if_neg e] at h
        rw [if_neg (Ne.symm e)] at h'
        simp at h h'; omega
theorem lins_asc {p : List Int} : ∀ {l : Pms}, Asc l → Asc (lins p l)
  | [], _ => by simp [lins, Asc]
  | q :: l, h => by
    unfold Asc at h ⊢
    rw [List.pairwise_cons] at h
    rw [lins]
    split
    · rename_i hp
      rw [List.pairwise_cons]
      refine ⟨fun x hx => ?_, List.pairwise_cons.2 h⟩
      rcases List.mem_cons.1 hx with rfl | hx
      · exact lexB_asym hp
      · exact lexB_trans (lexB_asym hp) (h.1 x hx)
    · rename_i hp
      rw [List.pairwise_cons]
      refine ⟨fun x hx => ?_, lins_asc h.2⟩
      have := (lins_perm p l).mem_iff.1 hx
      rcases List.mem_cons.1 this with rfl | hx
      · simpa using hp
      · exact h.1 x hx
theorem foldl_lins_asc : ∀ (o s : Pms), Asc s → Asc (o.foldl (fun s p => lins p s) s)
  | [], _, h => h
  | p :: o, s, h => foldl_lins_asc o _ (lins_asc h)
theorem lsrt_asc (o : Pms) : Asc (lsrt o) := foldl_lins_asc o [] List.Pairwise.nil
/-- Two ascending lists of the same members are one. -/
theorem asc_eq : ∀ {a b : Pms}, a.Perm b → Asc a → Asc b → a = b
  | [], b, h, _, _ => (List.Perm.nil_eq h)
  | x :: a, [], h, _, _ => absurd h.symm (by simp)
  | x :: a, y :: b, h, ha, hb => by
    unfold Asc at ha hb
    rw [List.pairwise_cons] at ha hb
    have hxy : x = y := by
      by_cases e : x = y
      · exact e
      · have hx : x ∈ y :: b := h.mem_iff.1 (by simp)
        have hy : y ∈ x :: a := h.mem_iff.2 (by simp)
        have h1 : x ∈ b := by rcases List.mem_cons.1 hx with h | h; exact absurd h e; exact h
        have h2 : y ∈ a := by rcases List.mem_cons.1 hy with h | h; exact absurd h.symm e; exact h
        exact lexB_tri _ _ (hb.1 x h1) (ha.1 y h2)
    subst hxy
    rw [asc_eq (List.Perm.cons_inv h) ha.2 hb.2]
theorem gAdd_len (o : Pms) (p : List Int) : o.length ≤ (gAdd o p).length ∧ (gAdd o p).length ≤ o.length + 1 := by
  unfold gAdd
  split
  · omega
  · rw [List.length_append]; simp
theorem gRound_len (c : Cls) (o : Pms) (q : List Int) : o.length ≤ (gRound c o q).length ∧ (gRound c o q).length ≤ o.length + 2 := by
  have h1 := gAdd_len o (comp q c.1)
  have h2 := gAdd_len (gAdd o (comp q c.1)) (comp q c.2)
  unfold gRound
  omega

end

/-! ### IntSS -/
section

theorem Rd.lists_at {z : Bool} {lo hi : Nat} {w : World} {xs : List (List Int)} {ao : Option Addr} {n cap : Nat} (h : Rd z lo hi w [.slice ao n cap] xs) {i : Nat} (hi' : i < n) :
    ∃ b off p v, ao = some ⟨b, off, none⟩ ∧ Hid (xs[i]? = some p) ∧ w.cell? ⟨b, off + i, none⟩ = some v ∧ Rd z lo hi w [v] p ∧ lo ≤ b ∧ b < hi ∧ b < w.heap.size := by
  obtain ⟨b, off, p, cs, e, hx, hr, hl, h1, h2, h3, hc, hf⟩ := h.at hi'
  obtain ⟨v, rfl⟩ : ∃ v, cs = [v] := by
    match cs, hl with
    | [v], _ => exact ⟨v, rfl⟩
  exact ⟨b, off, p, v, e, hx, by have := hc 0 v rfl; simpa [Rep.sz] using this, hr, h1, h2, h3⟩


/-- The marks laid from k on, list by list. -/
def marksSS (k : Int) : List (List Int) → List (List Int)
  | [] => []
  | p :: ps => marks k p.length :: marksSS (k + p.length) ps
def lenSS : List (List Int) → Nat
  | [] => 0
  | p :: ps => p.length + lenSS ps
theorem lenSS_app : ∀ a b : List (List Int), lenSS (a ++ b) = lenSS a + lenSS b
  | [], b => by simp [lenSS]
  | p :: a, b => by rw [List.cons_append, lenSS, lenSS, lenSS_app a b]; omega
theorem lenSS_take {ps : List (List Int)} {k : Nat} {p : List Int} (h : ps[k]? = some p) : lenSS (ps.take (k + 1)) = lenSS (ps.take k) + p.length := by
  rw [take_snoc h, lenSS_app]; simp [lenSS]
theorem lenSS_le (ps : List (List Int)) (k : Nat) : lenSS (ps.take k) ≤ lenSS ps := by
  have := lenSS_app (ps.take k) (ps.drop k)
  rw [List.take_append_drop] at this; omega
theorem marksSS_len : ∀ (k : Int) (ps : List (List Int)), (marksSS k ps).length = ps.length
  | _, [] => rfl
  | k, p :: ps => by rw [marksSS, List.length_cons, marksSS_len, List.length_cons]
theorem marksSS_at : ∀ {ps : List (List Int)} {i : Nat} {p : List Int} (k : Int), ps[i]? = some p → (marksSS k ps)[i]? = some (marks (k + lenSS (ps.take i)) p.length)
  | [], i, p, _, h => by simp at h
  | q :: ps, 0, p, k, h => by simp at h; subst h; simp [marksSS, lenSS]
  | q :: ps, i + 1, p, k, h => by
    rw [marksSS, List.getElem?_cons_succ, marksSS_at (k + q.length) (by simpa using h)]
    simp only [List.take_succ_cons, lenSS]
    congr 2; push_cast; omega

section
variable {α : Type} [Rep α]
/-- One item has turned, in its own memory. -/
theorem Zip.mark {z : Bool} {w w' : World} : ∀ {cs : List (List Value)} {xs : List α} {fs : List (List Nat)} {i : Nat} {c : List Value} {f : List Nat} {y : α}, Zip (Rep.rep z w) cs xs fs → fs.flatten.Nodup → cs[i]? = some c → fs[i]? = some f → Rep.rep z w' c y f →
    (∀ b, b < w.heap.size → b ∉ f → w'.heap[b]? = w.heap[b]?) → Zip (Rep.rep z w') cs (xs.set i y) fs
  | [], [], [], i, c, f, y, _, _, hc, _, _, _ => by simp at hc
  | c0 :: cs, x0 :: xs, f0 :: fs, 0, c, f, y, h, hn, hc, hf, hy, hk => by
    simp at hc hf; subst hc hf
    rw [List.flatten_cons, List.nodup_append] at hn
    exact ⟨hy, h.2.keep fun b hb => hk b (h.2.lt b hb) (fun hm => hn.2.2 b hm b hb rfl)⟩
  | c0 :: cs, x0 :: xs, f0 :: fs, i + 1, c, f, y, h, hn, hc, hf, hy, hk => by
    rw [List.flatten_cons, List.nodup_append] at hn
    refine ⟨Rep.keep h.1 fun b hb => hk b (Rep.lt h.1 b hb) (fun hm => ?_), Zip.mark h.2 hn.2.1 (by simpa using hc) (by simpa using hf) hy hk⟩
    exact hn.2.2 b hb b (List.mem_flatten.2 ⟨f, List.mem_of_getElem? (by simpa using hf), hm⟩) rfl
  | [], [], _ :: _, _, _, _, _, h, _, _, _, _, _ | [], _ :: _, _, _, _, _, _, h, _, _, _, _, _ | _ :: _, [], _, _, _, _, _, h, _, _, _, _, _ | _ :: _, _ :: _, [], _, _, _, _, h, _, _, _, _, _ => h.elim

/-- Item i of an owned list of one-cell items, and the way back when that item has turned in its own memory. -/
theorem rep_item {w : World} {ao : Option Addr} {n cap : Nat} {xs : List α} {fp : List Nat} (h : Rep.rep true w [.slice ao n cap] xs fp) (hn : fp.Nodup) {i : Nat} (hi' : i < n) :
    ∃ b off x cs f, ao = some ⟨b, off, none⟩ ∧ Hid (xs[i]? = some x) ∧ Rep.rep true w cs x f ∧ f.Nodup ∧ cs.length = Rep.sz α ∧ b < w.heap.size ∧ (∀ j c, cs[j]? = some c → w.cell? ⟨b, off + (i * Rep.sz α + j), none⟩ = some c) ∧ (∀ k ∈ f, k ∈ fp) ∧
      Hid (∀ (w' : World) (y : α), Rep.rep true w' cs y f → OffF f w w' → Rep.rep true w' [.slice ao n cap] (xs.set i y) fp) := by
  obtain ⟨v', hv, ao', n', cap', rfl, h1, h2, h3, h4, h⟩ := h
  simp at hv; obtain ⟨rfl, rfl, rfl⟩ := hv
  rcases h with ⟨rfl, _⟩ | ⟨b, off, css, fps, rfl, hb, rfl, hzip, hc, hf⟩
  · omega
  · have hx : xs[i]? = some xs[i] := List.getElem?_eq_getElem (by omega)
    obtain ⟨cs, f, e1, e2, r⟩ := hzip.get hx
    rw [List.nodup_cons] at hn
    have hfm : ∀ k ∈ f, k ∈ fps.flatten := fun k hk => List.mem_flatten.2 ⟨f, List.mem_of_getElem? e2, hk⟩
    have hbf : b ∉ f := fun hm => hn.1 (hfm b hm)
    refine ⟨b, off, xs[i], cs, f, rfl, hx, r, ?_, Rep.len r, hb, fun j c hj => hc _ c ?_, fun k hk => List.mem_cons_of_mem _ (hfm k hk), ?_⟩
    · exact hn.2.sublist (List.sublist_flatten_of_mem (List.mem_of_getElem? e2))
    · rw [cellsAt_flat hzip.sizes e1 j (by rw [← Rep.len r]; exact (List.getElem?_eq_some_iff.1 hj).1)]; exact hj
    · intro w' y hy ho
      have hbk : w'.heap[b]? = w.heap[b]? := ho.block b hb hbf
      refine ⟨_, rfl, some ⟨b, off, none⟩, n, cap, rfl, by simpa using h1, h2, h3, h4, .inr ⟨b, off, css, fps, rfl, Nat.lt_of_lt_of_le hb ho.size, rfl, hzip.mark hn.2 e1 e2 hy (fun k hk hkf => ho.block k hk hkf), ?_, ?_⟩⟩
      · intro j c hj
        rw [World.cell?_of_block (w := w) (a := ⟨b, off + j, none⟩) hbk]; exact hc j c hj
      · intro hz o
        rw [World.frozen?_of_block (w := w) (a := ⟨b, o, none⟩) hbk]; exact hf hz o
end



end

/-! ### Rds -/
section

def RdS {α : Type} [Rep α] (S : Nat → Prop) (w : World) (cs : List Value) (x : α) : Prop := ∃ fp, Rep.rep false w cs x fp ∧ ∀ b ∈ fp, b < w.heap.size ∧ S b
/-- The row is the call's own, from lo on; the items lie below lo, in blocks of S. -/
def GR {α : Type} [Rep α] (S : Nat → Prop) (lo : Nat) (w : World) (E : TypeId) (v : Value) (xs : List α) : Prop :=
  ∃ css fps, w.ownsRow lo E (Rep.sz α) v xs.length css.flatten ∧ Zip (Rep.rep false w) css xs fps ∧ ∀ b ∈ fps.flatten, b < lo ∧ S b
section
variable {α : Type} [Rep α] {S : Nat → Prop} {lo : Nat} {w w' : World} {E : TypeId} {v : Value} {xs : List α} {cs : List Value} {x : α}
theorem RdS.rd (h : RdS S w cs x) : Rd false 0 w.heap.size w cs x := by
  obtain ⟨fp, h1, h2⟩ := h
  exact ⟨fp, h1, fun b hb => ⟨Nat.zero_le _, (h2 b hb).1⟩⟩
theorem RdS.below (h : RdS S w cs x) (k : Below w.heap.size w w') : RdS S w' cs x := by
  obtain ⟨fp, h1, h2⟩ := h
  have h3 := Rep.keep h1 fun b hb => k.block b (h2 b hb).1
  exact ⟨fp, h3, fun b hb => ⟨Rep.lt h3 b hb, (h2 b hb).2⟩⟩
theorem RdS.mono {S' : Nat → Prop} (h : RdS S w cs x) (k : ∀ b, b < w.heap.size → S b → S' b) : RdS S' w cs x := by
  obtain ⟨fp, h1, h2⟩ := h
  exact ⟨fp, h1, fun b hb => ⟨(h2 b hb).1, k b (h2 b hb).1 (h2 b hb).2⟩⟩
theorem RdS.keep (h : RdS S w cs x) (k : ∀ b, b < w.heap.size → S b → w'.heap[b]? = w.heap[b]?) : RdS S w' cs x := by
  obtain ⟨fp, h1, h2⟩ := h
  have h3 := Rep.keep h1 fun b hb => k b (h2 b hb).1 (h2 b hb).2
  exact ⟨fp, h3, fun b hb => ⟨Rep.lt h3 b hb, (h2 b hb).2⟩⟩
theorem GR.lit0 (S : Nat → Prop) (lo : Nat) (w : World) (E : TypeId) (h : lo ≤ w.heap.size) : GR (α := α) S lo (w.alloc (.cells #[] E)) E (.slice (some ⟨w.heap.size, 0, none⟩) 0 0) [] :=
  ⟨[], [], by simpa using World.ownsRow_made (e := E) (size := Rep.sz α) w #[] 0 h (Nat.zero_le _) (by simp), trivial, by simp⟩
theorem GR.below (h : GR S lo w E v xs) (hb : Below w.heap.size w w') : GR S lo w' E v xs := by
  obtain ⟨css, fps, ho, hz, hl⟩ := h
  refine ⟨css, fps, ⟨ho.1, ?_⟩, hz.keep (fun b hb' => hb.block b (hz.lt b hb')), hl⟩
  rcases ho.2 with h | ⟨g, cap, cur, rfl, hbb, hh, r⟩
  · exact .inl h
  · exact .inr ⟨g, cap, cur, rfl, hbb, by rw [hb.block g (ho.lt g rfl).2]; exact hh, r⟩
theorem GR.alloc (h : GR S lo w E v xs) (o : Obj) : GR S lo (w.alloc o) E v xs := h.below ((Below.refl _ _).alloc (Nat.le_refl _) o)
theorem GR.rds (h : GR S lo w E v xs) : RdS (fun b => S b ∨ lo ≤ b) w [v] xs := by
  obtain ⟨css, fps, ho, hz, hl⟩ := h
  rcases ho.2 with ⟨rfl, h⟩ | ⟨g, cap, cur, rfl, hbb, hh, h3, h4, h5, h6⟩
  · exact ⟨[], ⟨_, rfl, none, 0, 0, rfl, h, Nat.le_refl _, by simp [maxLen], fun _ => rfl, .inl ⟨rfl, rfl⟩⟩, (fun _ h => by cases h)⟩
  · refine ⟨g :: fps.flatten, ⟨_, rfl, some ⟨g, 0, none⟩, xs.length, cap, rfl, rfl, h3, h4, (fun h => by cases h), .inr ⟨g, 0, css, fps, rfl, (ho.lt g rfl).2, rfl, hz, ?_, (fun h => by cases h)⟩⟩, ?_⟩
    · intro j c hj
      have := ho.cells (g := g) rfl j c hj
      by_cases hj0 : j = 0
      · subst hj0; simpa [Addr.add] using this
      · simpa [Addr.add, hj0] using this
    · intro b hb
      rcases List.mem_cons.1 hb with rfl | hb
      · exact ⟨(ho.lt b rfl).2, .inr hbb⟩
      · exact ⟨hz.lt b hb, .inl (hl b hb).2⟩
end
theorem RdS.list_at {S : Nat → Prop} {w : World} {xs : Pms} {ao : Option Addr} {n cap : Nat} (h : RdS S w [.slice ao n cap] xs) {i : Nat} (hi' : i < n) :
    ∃ b off p v, ao = some ⟨b, off, none⟩ ∧ Hid (xs[i]? = some p) ∧ w.cell? ⟨b, off + i, none⟩ = some v ∧ RdS S w [v] p ∧ b < w.heap.size := by
  obtain ⟨fp, ⟨v, e, ao', n', cap', e2, hn, h2, h3, h4, hh⟩, hz⟩ := h
  simp only [List.cons.injEq, and_true] at e
  subst e
  simp only [Value.slice.injEq] at e2
  obtain ⟨rfl, rfl, rfl⟩ := e2
  rcases hh with ⟨h0, _⟩ | ⟨b, off, css, fps, rfl, hb, rfl, hzip, hc, hf⟩
  · omega
  · obtain ⟨x, hx⟩ : ∃ x, xs[i]? = some x := ⟨_, List.getElem?_eq_getElem (by omega)⟩
    obtain ⟨c, f, k1, k2, k3⟩ := hzip.get hx
    obtain ⟨v, rfl⟩ : ∃ v, c = [v] := by
      have := Rep.len k3
      match c, this with
      | [v], _ => exact ⟨v, rfl⟩
    refine ⟨b, off, x, v, rfl, hx, ?_, ⟨f, k3, fun b hb => hz b (List.mem_cons_of_mem _ (List.mem_flatten.2 ⟨f, List.mem_of_getElem? k2, hb⟩))⟩, hb⟩
    have := cellsAt_flat hzip.sizes k1 0 (by show 0 < 1; omega)
    have := hc (i * 1 + 0) v (by simpa [Rep.sz] using this)
    simpa using this
section
variable {P : Program} {α : Type} [Rep α] {S : Nat → Prop} {lo : Nat} {w : World} {E : TypeId} {v : Value} {xs : List α}
theorem wpList_push_r {ops : Array Oper} {rest : List Oper} {o : Oper} {a : Act} {Q : Exit → Act → World → Prop} (hgd : o.guard = none) {s x : Operand} {t : TypeId}
    (ho : o.op = .call { callee := .builtin .append, args := #[s, x], argTypes := #[t, t] })
    {z0 : Value} {bytes : Nat} (hT : SlTy P t E z0 (Rep.sz α) bytes) (hsz : 0 < Rep.sz α) (hG : GR S lo w E v xs) (hs : a.eval s = v)
    {ad : Addr} {c : Nat} (hx : a.eval x = .slice (some ad) 1 c) {cs : List Value} {y : α} (hcells : ∀ j u, cs[j]? = some u → w.cell? (ad.add j) = some u)
    {w0 : World} (hy : RdS S w0 cs y) (hw : Below lo w0 w) (hw0 : w0.heap.size ≤ lo) (h63 : xs.length + 1 ≤ maxLen) (hbytes : (xs.length + 1) * bytes ≤ 140737488355328) (hlo : lo ≤ w.heap.size)
    (h : ∀ v' w', GR S lo w' E v' (xs ++ [y]) → Below lo w w' → wpList P ops Q rest (a.put o.dst v') w') : wpList P ops Q (o :: rest) a w := by
  obtain ⟨fp, hr0, hfp⟩ := hy
  have hr : Rep.rep false w cs y fp := Rep.keep hr0 fun b hb => hw.block b (Nat.lt_of_lt_of_le (hfp b hb).1 hw0)
  obtain ⟨css, fps, hown, hz, hl⟩ := hG
  have hlen : cs.length = 1 * Rep.sz α := by rw [Nat.one_mul]; exact Rep.len hr
  obtain ⟨v', w', hrun, ho', hgr, hv⟩ := run_app (P := P) w (t := t) (ty := o.type) hT hsz hown (ao := some ad) (m := 1) (c := c) hlen (fun h => by cases h) (fun a e => by simp only [Option.some.injEq] at e; subst e; exact hcells) (Rep.one hr) h63 hbytes hlo
  have hbel : Below lo w w' := (Below.refl lo w).grown hgr hlo fun k hk => (hown.lt k hk).1
  refine wpList_plain hgd fun K hK => ?_
  unfold Oper.wp execOp
  simp only [ho, resolve, invoke, builtin, Sem.run_bind, Sem.run_pure, Result.andThen_ok, List.map_toArray, List.map_cons, List.map_nil, hs, hx]
  rw [hrun]
  refine hK _ _ (h v' w' ⟨css ++ [cs], fps ++ [fp], ?_, (hz.snoc hr).keep fun b hb => hbel.block b ?_, ?_⟩ hbel)
  · rw [List.length_append, List.flatten_append]; simpa using ho'
  · rw [List.flatten_append, List.mem_append] at hb
    rcases hb with hb | hb
    · exact (hl b hb).1
    · exact Nat.lt_of_lt_of_le (hfp b (by simpa using hb)).1 hw0
  · intro b hb
    rw [List.flatten_append, List.mem_append] at hb
    rcases hb with hb | hb
    · exact hl b hb
    · have := hfp b (by simpa using hb)
      exact ⟨Nat.lt_of_lt_of_le this.1 hw0, this.2⟩
end

end

/-! ### Gx -/
section

def GX {α : Type} [Rep α] (S : Nat → Prop) (w : World) (E : TypeId) (v : Value) (xs : List α) : Prop :=
  ∃ css fps, w.ownsRow 0 E (Rep.sz α) v xs.length css.flatten ∧ Zip (Rep.rep true w) css xs fps ∧ (∀ b ∈ fps.flatten, S b ∧ some b ≠ v.ownBlock) ∧ (∀ g, v.ownBlock = some g → S g) ∧ fps.flatten.Nodup
section
variable {α : Type} [Rep α] {S : Nat → Prop} {w w' : World} {E : TypeId} {v : Value} {xs : List α}
theorem GX.lt (h : GX S w E v xs) {b : Nat} (e : v.ownBlock = some b) : b < w.heap.size ∧ S b := by
  obtain ⟨css, fps, ho, hz, hf, hg, hn⟩ := h
  exact ⟨(ho.lt b e).2, hg b e⟩
theorem GX.keep (h : GX S w E v xs) (k : ∀ b, b < w.heap.size → S b → w'.heap[b]? = w.heap[b]?) : GX S w' E v xs := by
  obtain ⟨css, fps, ho, hz, hf, hg, hn⟩ := h
  refine ⟨css, fps, ⟨ho.1, ?_⟩, hz.keep (fun b hb => k b (hz.lt b hb) (hf b hb).1), hf, hg, hn⟩
  rcases ho.2 with h | ⟨g, cap, cur, rfl, hb, hh, r⟩
  · exact .inl h
  · exact .inr ⟨g, cap, cur, rfl, hb, by rw [k g (ho.lt g rfl).2 (hg g rfl)]; exact hh, r⟩
theorem GX.below (h : GX S w E v xs) (hb : Below w.heap.size w w') : GX S w' E v xs := h.keep fun b hl _ => hb.block b hl
theorem GX.alloc (h : GX S w E v xs) (o : Obj) : GX S (w.alloc o) E v xs := h.below ((Below.refl _ _).alloc (Nat.le_refl _) o)
theorem GX.mono {S' : Nat → Prop} (h : GX S w E v xs) (k : ∀ b, b < w.heap.size → S b → S' b) : GX S' w E v xs := by
  obtain ⟨css, fps, ho, hz, hf, hg, hn⟩ := h
  exact ⟨css, fps, ho, hz, fun b hb => ⟨k b (hz.lt b hb) (hf b hb).1, (hf b hb).2⟩, fun g e => k g (ho.lt g e).2 (hg g e), hn⟩
theorem GX.len (h : GX S w E v xs) : ∃ ao cap, v = .slice ao xs.length cap ∧ xs.length ≤ cap ∧ cap ≤ maxLen := by
  obtain ⟨css, fps, ho, hz, hf, hg, hn⟩ := h
  rcases ho.2 with ⟨rfl, h⟩ | ⟨g, cap, cur, rfl, hbb, hh, h1, h2, r⟩
  · rw [h]; exact ⟨none, 0, rfl, Nat.le_refl _, by simp [maxLen]⟩
  · exact ⟨_, cap, rfl, h1, h2⟩
theorem GX.ow (h : GX S w E v xs) {lo hi : Nat} (k : ∀ b, b < w.heap.size → S b → lo ≤ b ∧ b < hi) : Ow lo hi w [v] xs := by
  obtain ⟨css, fps, ho, hz, hf, hg, hn⟩ := h
  rcases ho.2 with ⟨rfl, h⟩ | ⟨g, cap, cur, rfl, hbb, hh, h3, h4, h5, h6⟩
  · exact ⟨[], ⟨_, rfl, none, 0, 0, rfl, h, Nat.le_refl _, by simp [maxLen], fun _ => rfl, .inl ⟨rfl, rfl⟩⟩, (fun _ h => by cases h), List.nodup_nil⟩
  · refine ⟨g :: fps.flatten, ⟨_, rfl, some ⟨g, 0, none⟩, xs.length, cap, rfl, rfl, h3, h4, (fun h => by cases h), .inr ⟨g, 0, css, fps, rfl, (ho.lt g rfl).2, rfl, hz, ?_, ?_⟩⟩, ?_, List.nodup_cons.2 ⟨fun hm => (hf g hm).2 rfl, hn⟩⟩
    · intro j c hj
      have := ho.cells (g := g) rfl j c hj
      by_cases hj0 : j = 0
      · subst hj0; simpa [Addr.add] using this
      · simpa [Addr.add, hj0] using this
    · intro _ o
      simp [World.frozen?, hh]
    · intro b hb
      rcases List.mem_cons.1 hb with rfl | hb
      · exact k b (ho.lt b rfl).2 (hg b rfl)
      · exact k b (hz.lt b hb) (hf b hb).1
theorem GX.rd (h : GX S w E v xs) : Rd true 0 w.heap.size w [v] xs := (h.ow (lo := 0) (hi := w.heap.size) fun b h1 _ => ⟨Nat.zero_le _, h1⟩).rd
/-- A literal of one item that the call owns. -/
theorem GX.lit1 (S : Nat → Prop) (w : World) (E : TypeId) {u : Value} {y : α} {lo hi : Nat} (hy : Ow lo hi w [u] y) (hS : ∀ b, lo ≤ b → b < hi → S b) (hw : S w.heap.size) : GX S (w.alloc (.cells #[u] E)) E (.slice (some ⟨w.heap.size, 0, none⟩) 1 1) [y] := by
  obtain ⟨fp, h1, h2, h3⟩ := hy
  have hs' : 1 = Rep.sz α := Rep.len h1
  refine ⟨[[u]], [fp], ?_, ⟨Rep.keep h1 fun b hb => Below.heap_alloc w _ b (Rep.lt h1 b hb), trivial⟩, ?_, ?_, by simpa using h3⟩
  · exact ⟨by simp [← hs'], .inr ⟨w.heap.size, 1, #[u], rfl, Nat.zero_le _, heap_alloc_new w _, Nat.le_refl _, by simp [maxLen], by simp [← hs'], by simp [← hs']⟩⟩
  · intro b hb
    have hb2 : b ∈ fp := by simpa using hb
    exact ⟨hS b (h2 b hb2).1 (h2 b hb2).2, by simp [Value.ownBlock]; have := Rep.lt h1 b hb2; omega⟩
  · intro g e
    simp [Value.ownBlock] at e
    subst e; exact hw
end
/-- What a one-cell literal holds. -/
theorem cells_new (w : World) (v : Value) (t : TypeId) : ∀ (j : Nat) (u : Value), [v][j]? = some u → (w.alloc (.cells #[v] t)).cell? ((⟨w.heap.size, 0, none⟩ : Addr).add j) = some u := by
  intro j c hj
  match j, hj with
  | 0, hj => simp at hj; subst hj; simp [Addr.add]
section
variable {P : Program} {α : Type} [Rep α] {S : Nat → Prop} {w : World} {E : TypeId} {v : Value} {xs : List α}
/-- out = append(out, x): x is owned and lies in blocks that the list does not take. -/
theorem wpList_push_x {ops : Array Oper} {rest : List Oper} {o : Oper} {a : Act} {Q : Exit → Act → World → Prop} (hgd : o.guard = none) {s x : Operand} {t : TypeId}
    (ho : o.op = .call { callee := .builtin .append, args := #[s, x], argTypes := #[t, t] })
    {z0 : Value} {bytes : Nat} (hT : SlTy P t E z0 (Rep.sz α) bytes) (hsz : 0 < Rep.sz α) (hs : a.eval s = v)
    {ad : Addr} {c : Nat} (hx : a.eval x = .slice (some ad) 1 c) {cs : List Value} {y : α} {lx hx' : Nat} (hcells : ∀ j u, cs[j]? = some u → w.cell? (ad.add j) = some u)
    {w0 : World} (hG0 : GX S w0 E v xs) (hw0 : w0.heap.size ≤ lx) (hk0 : ∀ b, b < w0.heap.size → S b → w.heap[b]? = w0.heap[b]?)
    (hy : Ow lx hx' w cs y) (hSy : ∀ b, lx ≤ b → b < hx' → S b) (hSw : S w.heap.size) (h63 : xs.length + 1 ≤ maxLen) (hbytes : (xs.length + 1) * bytes ≤ 140737488355328)
    (h : ∀ v' w', GX S w' E v' (xs ++ [y]) → w.grownBy w' v.ownBlock → (v'.ownBlock = v.ownBlock ∨ v'.ownBlock = some w.heap.size) → wpList P ops Q rest (a.put o.dst v') w') : wpList P ops Q (o :: rest) a w := by
  obtain ⟨css, fps, ho1, hz1, hf, hg, hn⟩ := hG0
  obtain ⟨fp, hr, hz, hnd⟩ := hy
  have hown : w.ownsRow 0 E (Rep.sz α) v xs.length css.flatten := by
    refine ⟨ho1.1, ?_⟩
    rcases ho1.2 with h | ⟨g, cap, cur, rfl, hb, hh, r⟩
    · exact .inl h
    · exact .inr ⟨g, cap, cur, rfl, hb, by rw [hk0 g (ho1.lt g rfl).2 (hg g rfl)]; exact hh, r⟩
  have hzw : Zip (Rep.rep true w) css xs fps := hz1.keep fun b hb => hk0 b (hz1.lt b hb) (hf b hb).1
  have hlen : cs.length = 1 * Rep.sz α := by rw [Nat.one_mul]; exact Rep.len hr
  obtain ⟨v', w', hrun, ho', hgr, hv⟩ := run_app (P := P) w (t := t) (ty := o.type) hT hsz hown (ao := some ad) (m := 1) (c := c) hlen (fun h => by cases h) (fun a e => by simp only [Option.some.injEq] at e; subst e; exact hcells) (Rep.one hr) h63 hbytes (Nat.zero_le _)
  have hne1 : ∀ b ∈ fp, some b ≠ v.ownBlock := fun b hb e => by have := (ho1.lt b e.symm).2; have := (hz b hb).1; omega
  have hlt : ∀ b ∈ (fps ++ [fp]).flatten, b < w.heap.size ∧ some b ≠ v.ownBlock ∧ S b := by
    intro b hb
    simp only [List.flatten_append, List.mem_append, List.flatten_cons, List.flatten_nil, List.append_nil] at hb
    rcases hb with hb | hb
    · exact ⟨hzw.lt b hb, (hf b hb).2, (hf b hb).1⟩
    · exact ⟨Rep.lt hr b hb, hne1 b hb, hSy b (hz b hb).1 (hz b hb).2⟩
  refine wpList_plain hgd fun K hK => ?_
  unfold Oper.wp execOp
  simp only [ho, resolve, invoke, builtin, Sem.run_bind, Sem.run_pure, Result.andThen_ok, List.map_toArray, List.map_cons, List.map_nil, hs, hx]
  rw [hrun]
  refine hK _ _ (h v' w' ⟨css ++ [cs], fps ++ [fp], ?_, ?_, fun b hb => ⟨(hlt b hb).2.2, fun e => ?_⟩, fun g e => ?_, ?_⟩ hgr hv)
  · rw [List.length_append, List.flatten_append]; simpa using ho'
  · exact (hzw.snoc hr).keep fun b hb => hgr.block b (hlt b hb).1 (hlt b hb).2.1
  · rcases hv with hv | hv
    · exact (hlt b hb).2.1 (by rw [← hv]; exact e)
    · rw [hv] at e; have := (hlt b hb).1; simp at e; omega
  · rcases hv with hv | hv
    · exact hg g (hv.symm.trans e)
    · rw [hv] at e; simp at e; subst e; exact hSw
  · rw [List.flatten_append]
    refine nodup_app hn (by simpa using hnd) fun x h1 h2 => ?_
    have h2 : x ∈ fp := by simpa using h2
    have := hz1.lt x h1
    have := (hz x h2).1
    omega
end

end

end Go.Proofs.Ytefbbbhidnnchaa
