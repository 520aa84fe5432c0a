/- Texts laid one behind the other (merge.py): Grp, IntSS. -/
import Derived.Test.YtlnhhfebmeekhaaLex
import Derived.Test.YtlnhhfebmeekhaaZ10C
import Derived.Test.YtlnhhfebmeekhaaZ10B
namespace Go.Proofs.Ytlnhhfebmeekhaa
set_option linter.unusedVariables false
set_option linter.unusedSimpArgs false
open Go.RowKit

/-! ### Grp -/
section

abbrev Pms := List (List Int)
def gAdd (o : Pms) (p : List Int) : Pms := if p ∈ o then o else o ++ [p]
def gRound (c : Cls) (o : Pms) (q : List Int) : Pms := gAdd (gAdd o (comp q c.1)) (comp q c.2)
/-- From the place i on: all that are met; none if they are more than so many. -/
def gLoop (c : Cls) (most : Nat) : Nat → Nat → Pms → Option Pms
  | 0, _, _ => none
  | f + 1, i, o => match o[i]? with
    | some q => if most < (gRound c o q).length then none else gLoop c most f (i + 1) (gRound c o q)
    | none => some o
/-- A list in its place. -/
def lins (p : List Int) : Pms → Pms
  | [] => [p]
  | q :: l => if lexB p q = true then p :: q :: l else q :: lins p l
def lsrt (o : Pms) : Pms := o.foldl (fun s p => lins p s) []
theorem gLoop_none {c : Cls} {most f i : Nat} {o : Pms} (h : o[i]? = none) : gLoop c most (f + 1) i o = some o := by rw [gLoop, h]
theorem gLoop_big {c : Cls} {most f i : Nat} {o : Pms} {q : List Int} (h : o[i]? = some q) (hb : most < (gRound c o q).length) : gLoop c most (f + 1) i o = none := by rw [gLoop, h]; exact if_pos hb
theorem gLoop_go {c : Cls} {most f i : Nat} {o : Pms} {q : List Int} (h : o[i]? = some q) (hb : ¬ most < (gRound c o q).length) : gLoop c most (f + 1) i o = gLoop c most f (i + 1) (gRound c o q) := by rw [gLoop, h]; exact if_neg hb
theorem lins_perm (p : List Int) : ∀ l : Pms, (lins p l).Perm (p :: l)
  | [] => List.Perm.refl _
  | q :: l => by
    rw [lins]
    split
    · exact List.Perm.refl _
    · exact ((lins_perm p l).cons q).trans (List.Perm.swap p q l)
theorem lsrt_snoc (o : Pms) (p : List Int) : lsrt (o ++ [p]) = lins p (lsrt o) := by unfold lsrt; rw [List.foldl_append]; rfl
theorem foldl_lins_perm : ∀ (o s : Pms), (o.foldl (fun s p => lins p s) s).Perm (o ++ s)
  | [], s => List.Perm.refl _
  | p :: o, s => by
    refine (foldl_lins_perm o (lins p s)).trans ?_
    refine ((List.Perm.append_left o (lins_perm p s))).trans ?_
    exact List.perm_middle
theorem lsrt_perm (o : Pms) : (lsrt o).Perm o := by
  have := foldl_lins_perm o []
  rw [List.append_nil] at this
  exact this
theorem lsrt_mem {o : Pms} {p : List Int} : p ∈ lsrt o ↔ p ∈ o := (lsrt_perm o).mem_iff
theorem lsrt_len (o : Pms) : (lsrt o).length = o.length := (lsrt_perm o).length_eq
/-- Ascending: nothing lies ahead of what is less. -/
def Asc (l : Pms) : Prop := l.Pairwise fun a b => lexB b a = false
theorem lexB_trans : ∀ {a b c : List Int}, lexB b a = false → lexB c b = false → lexB c a = false
  | a, [], c, h1, h2 => by
    cases a with
    | nil => cases c with | nil => rfl | cons z zs => simp [lexB]
    | cons x xs => simp [lexB] at h1
  | a, y :: ys, [], h1, h2 => by simp [lexB] at h2
  | [], y :: ys, z :: zs, h1, h2 => by simp [lexB]
  | x :: xs, y :: ys, z :: zs, h1, h2 => by
    rw [lexB] at h1 h2 ⊢
    by_cases e1 : y = x
    · subst e1
      rw [if_pos rfl] at h1
      by_cases e2 : z = y
      · subst e2
        rw [if_pos rfl] at h2 ⊢
        exact lexB_trans h1 h2
      · rw [if_neg e2] at h2 ⊢; exact h2
    · rw [if_neg e1] at h1
      by_cases e2 : z = y
      · subst e2
        rw [if_neg e1]; exact h1
      · rw [if_neg e2] at h2
        have h3 : ¬ y < x := by simpa using h1
        have h4 : ¬ z < y := by simpa using h2
        rw [if_neg (show ¬ z = x by omega)]
        simp; omega
theorem lexB_asym {a b : List Int} (h : lexB a b = true) : lexB b a = false := by
  cases h2 : lexB b a with
  | false => rfl
  | true =>
    have := lexB_self a
    cases h3 : lexB a b with
    | false => rw [h3] at h; cases h
    | true =>
      -- a < b < a
      exact absurd (lexB_cyc a b h h2) (by simp)
where
  lexB_cyc : ∀ a b : List Int, lexB a b = true → lexB b a = true → False
    | [], [], h, _ => by simp [lexB] at h
    | [], _ :: _, _, h => by simp [lexB] at h
    | _ :: _, [], h, _ => by simp [lexB] at h
    | x :: xs, y :: ys, h, h' => by
      rw [lexB] at h h'
      by_cases e : x = y
      · subst e
        rw [if_pos rfl] at h h'
        exact lexB_cyc xs ys h h'
      · rw [if_neg e] at h
        rw [if_neg (Ne.symm e)] at h'
        simp at h h'; omega
theorem lins_asc {p : List Int} : ∀ {l : Pms}, Asc l → Asc (lins p l)
  | [], _ => by simp [lins, Asc]
  | q :: l, h => by
    unfold Asc at h ⊢
    rw [List.pairwise_cons] at h
    rw [lins]
    split
    · rename_i hp
      rw [List.pairwise_cons]
      refine ⟨fun x hx => ?_, List.pairwise_cons.2 h⟩
      rcases List.mem_cons.1 hx with rfl | hx
      · exact lexB_asym hp
      · exact lexB_trans (lexB_asym hp) (h.1 x hx)
    · rename_i hp
      rw [List.pairwise_cons]
      refine ⟨fun x hx => ?_, lins_asc h.2⟩
      have := (lins_perm p l).mem_iff.1 hx
      rcases List.mem_cons.1 this with rfl | hx
      · simpa using hp
      · exact h.1 x hx
theorem foldl_lins_asc : ∀ (o s : Pms), Asc s → Asc (o.foldl (fun s p => lins p s) s)
  | [], _, h => h
  | p :: o, s, h => foldl_lins_asc o _ (lins_asc h)
theorem lsrt_asc (o : Pms) : Asc (lsrt o) := foldl_lins_asc o [] List.Pairwise.nil
/-- Two ascending lists of the same members are one. -/
theorem asc_eq : ∀ {a b : Pms}, a.Perm b → Asc a → Asc b → a = b
  | [], b, h, _, _ => (List.Perm.nil_eq h)
  | x :: a, [], h, _, _ => absurd h.symm (by simp)
  | x :: a, y :: b, h, ha, hb => by
    unfold Asc at ha hb
    rw [List.pairwise_cons] at ha hb
    have hxy : x = y := by
      by_cases e : x = y
      · exact e
      · have hx : x ∈ y :: b := h.mem_iff.1 (by simp)
        have hy : y ∈ x :: a := h.mem_iff.2 (by simp)
        have h1 : x ∈ b := by rcases List.mem_cons.1 hx with h | h; exact absurd h e; exact h
        have h2 : y ∈ a := by rcases List.mem_cons.1 hy with h | h; exact absurd h.symm e; exact h
        exact lexB_tri _ _ (hb.1 x h1) (ha.1 y h2)
    subst hxy
    rw [asc_eq (List.Perm.cons_inv h) ha.2 hb.2]
theorem gAdd_len (o : Pms) (p : List Int) : o.length ≤ (gAdd o p).length ∧ (gAdd o p).length ≤ o.length + 1 := by
  unfold gAdd
  split
  · omega
  · rw [List.length_append]; simp
theorem gRound_len (c : Cls) (o : Pms) (q : List Int) : o.length ≤ (gRound c o q).length ∧ (gRound c o q).length ≤ o.length + 2 := by
  have h1 := gAdd_len o (comp q c.1)
  have h2 := gAdd_len (gAdd o (comp q c.1)) (comp q c.2)
  unfold gRound
  omega

end

/-! ### IntSS -/
section

theorem Rd.lists_at {z : Bool} {lo hi : Nat} {w : World} {xs : List (List Int)} {ao : Option Addr} {n cap : Nat} (h : Rd z lo hi w [.slice ao n cap] xs) {i : Nat} (hi' : i < n) :
    ∃ b off p v, ao = some ⟨b, off, none⟩ ∧ Hid (xs[i]? = some p) ∧ w.cell? ⟨b, off + i, none⟩ = some v ∧ Rd z lo hi w [v] p ∧ lo ≤ b ∧ b < hi ∧ b < w.heap.size := by
  obtain ⟨b, off, p, cs, e, hx, hr, hl, h1, h2, h3, hc, hf⟩ := h.at hi'
  obtain ⟨v, rfl⟩ : ∃ v, cs = [v] := by
    match cs, hl with
    | [v], _ => exact ⟨v, rfl⟩
  exact ⟨b, off, p, v, e, hx, by have := hc 0 v rfl; simpa [Rep.sz] using this, hr, h1, h2, h3⟩


/-- The marks laid from k on, list by list. -/
def marksSS (k : Int) : List (List Int) → List (List Int)
  | [] => []
  | p :: ps => marks k p.length :: marksSS (k + p.length) ps
def lenSS : List (List Int) → Nat
  | [] => 0
  | p :: ps => p.length + lenSS ps
theorem lenSS_app : ∀ a b : List (List Int), lenSS (a ++ b) = lenSS a + lenSS b
  | [], b => by simp [lenSS]
  | p :: a, b => by rw [List.cons_append, lenSS, lenSS, lenSS_app a b]; omega
theorem lenSS_take {ps : List (List Int)} {k : Nat} {p : List Int} (h : ps[k]? = some p) : lenSS (ps.take (k + 1)) = lenSS (ps.take k) + p.length := by
  rw [take_snoc h, lenSS_app]; simp [lenSS]
theorem lenSS_le (ps : List (List Int)) (k : Nat) : lenSS (ps.take k) ≤ lenSS ps := by
  have := lenSS_app (ps.take k) (ps.drop k)
  rw [List.take_append_drop] at this; omega
theorem marksSS_len : ∀ (k : Int) (ps : List (List Int)), (marksSS k ps).length = ps.length
  | _, [] => rfl
  | k, p :: ps => by rw [marksSS, List.length_cons, marksSS_len, List.length_cons]
theorem marksSS_at : ∀ {ps : List (List Int)} {i : Nat} {p : List Int} (k : Int), ps[i]? = some p → (marksSS k ps)[i]? = some (marks (k + lenSS (ps.take i)) p.length)
  | [], i, p, _, h => by simp at h
  | q :: ps, 0, p, k, h => by simp at h; subst h; simp [marksSS, lenSS]
  | q :: ps, i + 1, p, k, h => by
    rw [marksSS, List.getElem?_cons_succ, marksSS_at (k + q.length) (by simpa using h)]
    simp only [List.take_succ_cons, lenSS]
    congr 2; push_cast; omega

section
variable {α : Type} [Rep α]
/-- One item has turned, in its own memory. -/
theorem Zip.mark {z : Bool} {w w' : World} : ∀ {cs : List (List Value)} {xs : List α} {fs : List (List Nat)} {i : Nat} {c : List Value} {f : List Nat} {y : α}, Zip (Rep.rep z w) cs xs fs → fs.flatten.Nodup → cs[i]? = some c → fs[i]? = some f → Rep.rep z w' c y f →
    (∀ b, b < w.heap.size → b ∉ f → w'.heap[b]? = w.heap[b]?) → Zip (Rep.rep z w') cs (xs.set i y) fs
  | [], [], [], i, c, f, y, _, _, hc, _, _, _ => by simp at hc
  | c0 :: cs, x0 :: xs, f0 :: fs, 0, c, f, y, h, hn, hc, hf, hy, hk => by
    simp at hc hf; subst hc hf
    rw [List.flatten_cons, List.nodup_append] at hn
    exact ⟨hy, h.2.keep fun b hb => hk b (h.2.lt b hb) (fun hm => hn.2.2 b hm b hb rfl)⟩
  | c0 :: cs, x0 :: xs, f0 :: fs, i + 1, c, f, y, h, hn, hc, hf, hy, hk => by
    rw [List.flatten_cons, List.nodup_append] at hn
    refine ⟨Rep.keep h.1 fun b hb => hk b (Rep.lt h.1 b hb) (fun hm => ?_), Zip.mark h.2 hn.2.1 (by simpa using hc) (by simpa using hf) hy hk⟩
    exact hn.2.2 b hb b (List.mem_flatten.2 ⟨f, List.mem_of_getElem? (by simpa using hf), hm⟩) rfl
  | [], [], _ :: _, _, _, _, _, h, _, _, _, _, _ | [], _ :: _, _, _, _, _, _, h, _, _, _, _, _ | _ :: _, [], _, _, _, _, _, h, _, _, _, _, _ | _ :: _, _ :: _, [], _, _, _, _, h, _, _, _, _, _ => h.elim

/-- Item i of an owned list of one-cell items, and the way back when that item has turned in its own memory. -/
theorem rep_item {w : World} {ao : Option Addr} {n cap : Nat} {xs : List α} {fp : List Nat} (h : Rep.rep true w [.slice ao n cap] xs fp) (hn : fp.Nodup) {i : Nat} (hi' : i < n) :
    ∃ b off x cs f, ao = some ⟨b, off, none⟩ ∧ Hid (xs[i]? = some x) ∧ Rep.rep true w cs x f ∧ f.Nodup ∧ cs.length = Rep.sz α ∧ b < w.heap.size ∧ (∀ j c, cs[j]? = some c → w.cell? ⟨b, off + (i * Rep.sz α + j), none⟩ = some c) ∧ (∀ k ∈ f, k ∈ fp) ∧
      Hid (∀ (w' : World) (y : α), Rep.rep true w' cs y f → OffF f w w' → Rep.rep true w' [.slice ao n cap] (xs.set i y) fp) := by
  obtain ⟨v', hv, ao', n', cap', rfl, h1, h2, h3, h4, h⟩ := h
  simp at hv; obtain ⟨rfl, rfl, rfl⟩ := hv
  rcases h with ⟨rfl, _⟩ | ⟨b, off, css, fps, rfl, hb, rfl, hzip, hc, hf⟩
  · omega
  · have hx : xs[i]? = some xs[i] := List.getElem?_eq_getElem (by omega)
    obtain ⟨cs, f, e1, e2, r⟩ := hzip.get hx
    rw [List.nodup_cons] at hn
    have hfm : ∀ k ∈ f, k ∈ fps.flatten := fun k hk => List.mem_flatten.2 ⟨f, List.mem_of_getElem? e2, hk⟩
    have hbf : b ∉ f := fun hm => hn.1 (hfm b hm)
    refine ⟨b, off, xs[i], cs, f, rfl, hx, r, ?_, Rep.len r, hb, fun j c hj => hc _ c ?_, fun k hk => List.mem_cons_of_mem _ (hfm k hk), ?_⟩
    · exact hn.2.sublist (List.sublist_flatten_of_mem (List.mem_of_getElem? e2))
    · rw [cellsAt_flat hzip.sizes e1 j (by rw [← Rep.len r]; exact (List.getElem?_eq_some_iff.1 hj).1)]; exact hj
    · intro w' y hy ho
      have hbk : w'.heap[b]? = w.heap[b]? := ho.block b hb hbf
      refine ⟨_, rfl, some ⟨b, off, none⟩, n, cap, rfl, by simpa using h1, h2, h3, h4, .inr ⟨b, off, css, fps, rfl, Nat.lt_of_lt_of_le hb ho.size, rfl, hzip.mark hn.2 e1 e2 hy (fun k hk hkf => ho.block k hk hkf), ?_, ?_⟩⟩
      · intro j c hj
        rw [World.cell?_of_block (w := w) (a := ⟨b, off + j, none⟩) hbk]; exact hc j c hj
      · intro hz o
        rw [World.frozen?_of_block (w := w) (a := ⟨b, o, none⟩) hbk]; exact hf hz o
end



end

end Go.Proofs.Ytlnhhfebmeekhaa
