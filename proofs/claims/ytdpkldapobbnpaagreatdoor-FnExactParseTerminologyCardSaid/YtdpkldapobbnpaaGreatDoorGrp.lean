/- Plain: the permutations that are composed of two. -/
import Derived.Test.YtdpkldapobbnpaaGreatDoorBase
namespace Go.Proofs.YtdpkldapobbnpaaGreatDoor
set_option linter.unusedVariables false
set_option linter.unusedSimpArgs false
open Go.RowKit

abbrev Pms := List (List Int)
def gAdd (o : Pms) (p : List Int) : Pms := if p ∈ o then o else o ++ [p]
def gRound (c : Cls) (o : Pms) (q : List Int) : Pms := gAdd (gAdd o (comp q c.1)) (comp q c.2)
/-- From the place i on: all that are met; none if they are more than so many. -/
def gLoop (c : Cls) (most : Nat) : Nat → Nat → Pms → Option Pms
  | 0, _, _ => none
  | f + 1, i, o => match o[i]? with
    | some q => if most < (gRound c o q).length then none else gLoop c most f (i + 1) (gRound c o q)
    | none => some o
/-- A list in its place. -/
def lins (p : List Int) : Pms → Pms
  | [] => [p]
  | q :: l => if lexB p q = true then p :: q :: l else q :: lins p l
def lsrt (o : Pms) : Pms := o.foldl (fun s p => lins p s) []
theorem gLoop_none {c : Cls} {most f i : Nat} {o : Pms} (h : o[i]? = none) : gLoop c most (f + 1) i o = some o := by rw [gLoop, h]
theorem gLoop_big {c : Cls} {most f i : Nat} {o : Pms} {q : List Int} (h : o[i]? = some q) (hb : most < (gRound c o q).length) : gLoop c most (f + 1) i o = none := by rw [gLoop, h]; exact if_pos hb
theorem gLoop_go {c : Cls} {most f i : Nat} {o : Pms} {q : List Int} (h : o[i]? = some q) (hb : ¬ most < (gRound c o q).length) : gLoop c most (f + 1) i o = gLoop c most f (i + 1) (gRound c o q) := by rw [gLoop, h]; exact if_neg hb
theorem lins_perm (p : List Int) : ∀ l : Pms, (lins p l).Perm (p :: l)
  | [] => List.Perm.refl _
  | q :: l => by
    rw [lins]
    split
    · exact List.Perm.refl _
    · exact ((lins_perm p l).cons q).trans (List.Perm.swap p q l)
theorem lsrt_snoc (o : Pms) (p : List Int) : lsrt (o ++ [p]) = lins p (lsrt o) := by unfold lsrt; rw [List.foldl_append]; rfl
theorem foldl_lins_perm : ∀ (o s : Pms), (o.foldl (fun s p => lins p s) s).Perm (o ++ s)
  | [], s => List.Perm.refl _
  | p :: o, s => by
    refine (foldl_lins_perm o (lins p s)).trans ?_
    refine ((List.Perm.append_left o (lins_perm p s))).trans ?_
    exact List.perm_middle
theorem lsrt_perm (o : Pms) : (lsrt o).Perm o := by
  have := foldl_lins_perm o []
  rw [List.append_nil] at this
  exact this
theorem lsrt_mem {o : Pms} {p : List Int} : p ∈ lsrt o ↔ p ∈ o := (lsrt_perm o).mem_iff
theorem lsrt_len (o : Pms) : (lsrt o).length = o.length := (lsrt_perm o).length_eq
/-- Ascending: nothing lies ahead of what is less. -/
def Asc (l : Pms) : Prop := l.Pairwise fun a b => lexB b a = false
theorem lexB_trans : ∀ {a b c : List Int}, lexB b a = false → lexB c b = false → lexB c a = false
  | a, [], c, h1, h2 => by
    cases a with
    | nil => cases c with | nil => rfl | cons z zs => simp [lexB]
    | cons x xs => simp [lexB] at h1
  | a, y :: ys, [], h1, h2 => by simp [lexB] at h2
  | [], y :: ys, z :: zs, h1, h2 => by simp [lexB]
  | x :: xs, y :: ys, z :: zs, h1, h2 => by
    rw [lexB] at h1 h2 ⊢
    by_cases e1 : y = x
    · subst e1
      rw [if_pos rfl] at h1
      by_cases e2 : z = y
      · subst e2
        rw [if_pos rfl] at h2 ⊢
        exact lexB_trans h1 h2
      · rw [if_neg e2] at h2 ⊢; exact h2
    · rw [if_neg e1] at h1
      by_cases e2 : z = y
      · subst e2
        rw [if_neg e1]; exact h1
      · rw [if_neg e2] at h2
        have h3 : ¬ y < x := by simpa using h1
        have h4 : ¬ z < y := by simpa using h2
        rw [if_neg (show ¬ z = x by omega)]
        simp; omega
theorem lexB_asym {a b : List Int} (h : lexB a b = true) : lexB b a = false := by
  cases h2 : lexB b a with
  | false => rfl
  | true =>
    have := lexB_self a
    cases h3 : lexB a b with
    | false => rw [h3] at h; cases h
    | true =>
      -- a < b < a
      exact absurd (lexB_cyc a b h h2) (by simp)
where
  lexB_cyc : ∀ a b : List Int, lexB a b = true → lexB b a = true → False
    | [], [], h, _ => by simp [lexB] at h
    | [], _ :: _, _, h => by simp [lexB] at h
    | _ :: _, [], h, _ => by simp [lexB] at h
    | x :: xs, y :: ys, h, h' => by
      rw [lexB] at h h'
      by_cases e : x = y
      · subst e
        rw [if_pos rfl] at h h'
        exact lexB_cyc xs ys h h'
      · rw [if_neg e] at h
        rw [if_neg (Ne.symm e)] at h'
        simp at h h'; omega
theorem lins_asc {p : List Int} : ∀ {l : Pms}, Asc l → Asc (lins p l)
  | [], _ => by simp [lins, Asc]
  | q :: l, h => by
    unfold Asc at h ⊢
    rw [List.pairwise_cons] at h
    rw [lins]
    split
    · rename_i hp
      rw [List.pairwise_cons]
      refine ⟨fun x hx => ?_, List.pairwise_cons.2 h⟩
      rcases List.mem_cons.1 hx with rfl | hx
      · exact lexB_asym hp
      · exact lexB_trans (lexB_asym hp) (h.1 x hx)
    · rename_i hp
      rw [List.pairwise_cons]
      refine ⟨fun x hx => ?_, lins_asc h.2⟩
      have := (lins_perm p l).mem_iff.1 hx
      rcases List.mem_cons.1 this with rfl | hx
      · simpa using hp
      · exact h.1 x hx
theorem foldl_lins_asc : ∀ (o s : Pms), Asc s → Asc (o.foldl (fun s p => lins p s) s)
  | [], _, h => h
  | p :: o, s, h => foldl_lins_asc o _ (lins_asc h)
theorem lsrt_asc (o : Pms) : Asc (lsrt o) := foldl_lins_asc o [] List.Pairwise.nil
/-- Two ascending lists of the same members are one. -/
theorem asc_eq : ∀ {a b : Pms}, a.Perm b → Asc a → Asc b → a = b
  | [], b, h, _, _ => (List.Perm.nil_eq h)
  | x :: a, [], h, _, _ => absurd h.symm (by simp)
  | x :: a, y :: b, h, ha, hb => by
    unfold Asc at ha hb
    rw [List.pairwise_cons] at ha hb
    have hxy : x = y := by
      by_cases e : x = y
      · exact e
      · have hx : x ∈ y :: b := h.mem_iff.1 (by simp)
        have hy : y ∈ x :: a := h.mem_iff.2 (by simp)
        have h1 : x ∈ b := by rcases List.mem_cons.1 hx with h | h; exact absurd h e; exact h
        have h2 : y ∈ a := by rcases List.mem_cons.1 hy with h | h; exact absurd h.symm e; exact h
        exact lexB_tri _ _ (hb.1 x h1) (ha.1 y h2)
    subst hxy
    rw [asc_eq (List.Perm.cons_inv h) ha.2 hb.2]
theorem gAdd_len (o : Pms) (p : List Int) : o.length ≤ (gAdd o p).length ∧ (gAdd o p).length ≤ o.length + 1 := by
  unfold gAdd
  split
  · omega
  · rw [List.length_append]; simp
theorem gRound_len (c : Cls) (o : Pms) (q : List Int) : o.length ≤ (gRound c o q).length ∧ (gRound c o q).length ≤ o.length + 2 := by
  have h1 := gAdd_len o (comp q c.1)
  have h2 := gAdd_len (gAdd o (comp q c.1)) (comp q c.2)
  unfold gRound
  omega
end Go.Proofs.YtdpkldapobbnpaaGreatDoor
