/- Texts laid one behind the other (merge.py): LPut, Grp2, Reg, GrpS, GrpL. -/
import Derived.Test.YtefbbbhidnnchaaZ14I
import Derived.Test.YtefbbbhidnnchaaZ14C
import Derived.Test.YtefbbbhidnnchaaZ14A
import Derived.Test.YtefbbbhidnnchaaZ14T
namespace Go.Proofs.Ytefbbbhidnnchaa
set_option linter.unusedVariables false
set_option linter.unusedSimpArgs false
open Go.RowKit

/-! ### LPut -/
section

def lput (s : Pms) (p : List Int) : Pms := if p ∈ s then s else lins p s
def lpre (p : List Int) (l : Pms) : Pms := if (l.any fun q => lexB p q) = true then lins p l else l
/-- One value comes back that takes of memory what S lets, or what is new. -/
def PostRds {α : Type} [Rep α] (S : Nat → Prop) (w : World) (x : α) (e : Ending) (w' : World) : Prop := ∃ u, e = .returned u ∧ RdS (fun b => S b ∨ w.heap.size ≤ b) w' [u] x ∧ Below w.heap.size w w'

end

/-! ### Grp2 -/
section

/-- All are lists of n numbers below n. -/
def GOk (n : Nat) (o : Pms) : Prop := ∀ q ∈ o, q.length = n ∧ InRange n q
theorem comp_ok {n : Nat} {q p : List Int} (hq : q.length = n ∧ InRange n q) (hp : p.length = n ∧ InRange n p) : (comp q p).length = n ∧ InRange n (comp q p) := by
  refine ⟨by rw [comp_len]; exact hq.1, fun x hx => ?_⟩
  unfold comp at hx
  obtain ⟨y, hy, rfl⟩ := List.mem_map.1 hx
  have h1 := hq.2 y hy
  refine hp.2 _ ?_
  have hlt : y.toNat < p.length := by rw [hp.1]; omega
  rw [List.getD_eq_getElem?_getD, List.getElem?_eq_getElem hlt]
  exact List.getElem_mem hlt
theorem GOk.add {n : Nat} {o : Pms} {p : List Int} (h : GOk n o) (hp : p.length = n ∧ InRange n p) : GOk n (gAdd o p) := by
  unfold gAdd
  split
  · exact h
  · intro q hq
    rcases List.mem_append.1 hq with hq | hq
    · exact h q hq
    · rw [List.mem_singleton] at hq; subst hq; exact hp
theorem GOk.round {n : Nat} {c : Cls} {o : Pms} {q : List Int} (h : GOk n o) (h1 : c.1.length = n ∧ InRange n c.1) (h2 : c.2.length = n ∧ InRange n c.2) (hq : q ∈ o) : GOk n (gRound c o q) :=
  (h.add (comp_ok (h q hq) h1)).add (comp_ok (h q hq) h2)
section
variable {P : Program} {α : Type} [Rep α] {nd : Bool} {lo lo' hi : Nat} {w : World} {E : TypeId} {v : Value} {xs : List α}
end

end

/-! ### Reg -/
section

def colI (l : Pms) (i : Nat) : List Int := l.map fun p => p.getD i 0
/-- Each of the first columns is a permutation. -/
def regTo (l : Pms) (i : Nat) : Bool := (List.range i).all fun k => isPerm (colI l k)
def isRegR (n : Nat) : Option Pms → Bool
  | none => false
  | some o => decide (o.length = n) && regTo (lsrt o) n
def isReg (c : Cls) : Bool := isCls c && isRegR c.1.length (gLoop c c.1.length (c.1.length + 2) 0 [idL c.1.length])
end

/-! ### GrpS -/
section

/-- What is met behind j of the two. -/
def gJ (c : Cls) (o : Pms) (q : List Int) : Nat → Pms
  | 0 => o
  | 1 => gAdd o (comp q c.1)
  | _ => gRound c o q
def gOf (c : Cls) : Nat → List Int
  | 0 => c.1
  | _ => c.2
theorem gAdd_at {o : Pms} {p q : List Int} {i : Nat} (h : o[i]? = some q) : (gAdd o p)[i]? = some q := by
  unfold gAdd
  split
  · exact h
  · rw [List.getElem?_append_left (List.getElem?_eq_some_iff.1 h).1]; exact h
/-- The group, or that it is too big. -/
def PostGr (w : World) (R : Option Pms) (e : Ending) (w' : World) : Prop :=
  Below w.heap.size w w' ∧ match R with
    | none => e = .returned (.tuple #[.slice none 0 0, .bool false])
    | some o => ∃ u, e = .returned (.tuple #[u, .bool true]) ∧ Rd false 0 w'.heap.size w' [u] (lsrt o)


end

/-! ### GrpL -/
section

/-- A product of the two. -/
inductive GenC (c : Cls) (n : Nat) : List Int → Prop
  | one : GenC c n (idL n)
  | w {q : List Int} : GenC c n q → GenC c n (comp q c.1)
  | ch {q : List Int} : GenC c n q → GenC c n (comp q c.2)
structure COk (n : Nat) (c : Cls) : Prop where
  w : IsP n c.1
  ch : IsP n c.2
theorem cOk_of {c : Cls} (h : isCls c = true) : COk c.1.length c := by
  unfold isCls at h
  simp only [Bool.and_eq_true, decide_eq_true_eq] at h
  exact ⟨isP_of h.1.2, by have := isP_of h.2; rwa [h.1.1.2.2] at this⟩
theorem GenC.isP {c : Cls} {n : Nat} (hc : COk n c) {q : List Int} (h : GenC c n q) : IsP n q := by
  induction h with
  | one => exact isP_id n
  | w _ ih => exact isP_comp ih hc.w
  | ch _ ih => exact isP_comp ih hc.ch
structure IsGrp (c : Cls) (n : Nat) (o : Pms) : Prop where
  nodup : o.Nodup
  one : idL n ∈ o
  gen : ∀ q ∈ o, GenC c n q
  cw : ∀ q ∈ o, comp q c.1 ∈ o
  cc : ∀ q ∈ o, comp q c.2 ∈ o
/-- .. as far as the loop has come. -/
structure GInv (c : Cls) (n i : Nat) (o : Pms) : Prop where
  nodup : o.Nodup
  one : idL n ∈ o
  gen : ∀ q ∈ o, GenC c n q
  cl : ∀ (k : Nat) (q : List Int), k < i → o[k]? = some q → comp q c.1 ∈ o ∧ comp q c.2 ∈ o
theorem mem_gAdd {o : Pms} {p x : List Int} : x ∈ gAdd o p ↔ x ∈ o ∨ x = p := by
  unfold gAdd
  by_cases h : p ∈ o
  · rw [if_pos h]
    exact ⟨.inl, fun h2 => h2.elim id (fun e => e ▸ h)⟩
  · rw [if_neg h]; simp
theorem gAdd_nodup {o : Pms} {p : List Int} (h : o.Nodup) : (gAdd o p).Nodup := by
  unfold gAdd
  by_cases hm : p ∈ o
  · rw [if_pos hm]; exact h
  · rw [if_neg hm, List.nodup_append]
    refine ⟨h, by simp, fun a ha b hb e => ?_⟩
    simp at hb; subst hb; subst e; exact hm ha
theorem GInv.start (c : Cls) (n : Nat) : GInv c n 0 [idL n] := ⟨by simp, by simp, fun q hq => by simp at hq; subst hq; exact GenC.one, fun k q h => by omega⟩
theorem GInv.step {c : Cls} {n i : Nat} {o : Pms} {q : List Int} (h : GInv c n i o) (hq : o[i]? = some q) : GInv c n (i + 1) (gRound c o q) := by
  have hqm := List.mem_of_getElem? hq
  have hsub : ∀ x ∈ o, x ∈ gRound c o q := fun x hx => mem_gAdd.2 (.inl (mem_gAdd.2 (.inl hx)))
  have h1 : comp q c.1 ∈ gRound c o q := mem_gAdd.2 (.inl (mem_gAdd.2 (.inr rfl)))
  have h2 : comp q c.2 ∈ gRound c o q := mem_gAdd.2 (.inr rfl)
  refine ⟨gAdd_nodup (gAdd_nodup h.nodup), hsub _ h.one, fun x hx => ?_, fun k x hk hx => ?_⟩
  · rcases mem_gAdd.1 hx with hx | rfl
    · rcases mem_gAdd.1 hx with hx | rfl
      · exact h.gen x hx
      · exact (h.gen q hqm).w
    · exact (h.gen q hqm).ch
  · have hl := (List.getElem?_eq_some_iff.1 hq).1
    have hkl : k < o.length := by omega
    have hx2 : (gRound c o q)[k]? = some o[k] := gAdd_at (gAdd_at (List.getElem?_eq_getElem hkl))
    rw [hx] at hx2
    obtain rfl := Option.some.inj hx2
    by_cases hki : k < i
    · have := h.cl k _ hki (List.getElem?_eq_getElem hkl)
      exact ⟨hsub _ this.1, hsub _ this.2⟩
    · obtain rfl : k = i := by omega
      rw [List.getElem?_eq_getElem hkl] at hq
      obtain rfl := Option.some.inj hq
      exact ⟨h1, h2⟩
section
variable {c : Cls} {n : Nat} {o : Pms} (hc : COk n c) (h : IsGrp c n o)
include hc h
theorem IsGrp.isP {q : List Int} (hq : q ∈ o) : IsP n q := (h.gen q hq).isP hc
theorem IsGrp.mul {p q : List Int} (hp : p ∈ o) (hq : GenC c n q) : comp p q ∈ o := by
  induction hq with
  | one => rw [comp_id (h.isP hc hp)]; exact hp
  | w hg ih => rw [← asc3 (h.isP hc hp) (hg.isP hc)]; exact h.cw _ ih
  | ch hg ih => rw [← asc3 (h.isP hc hp) (hg.isP hc)]; exact h.cc _ ih
theorem IsGrp.inv {p : List Int} (hp : p ∈ o) : inv p ∈ o := by
  have hpp := h.isP hc hp
  have hm : (o.map fun r => comp p r).Perm o := perm_of_sub (nodup_map h.nodup fun x hx y hy e => cancel_left hpp (h.isP hc hx) (h.isP hc hy) e)
    (fun x hx => by obtain ⟨r, hr, rfl⟩ := List.mem_map.1 hx; exact h.mul hc hp (h.gen r hr)) (by simp)
  obtain ⟨r, hr, e⟩ := List.mem_map.1 (hm.mem_iff.2 h.one)
  rw [← inv_uniq hpp (h.isP hc hr) e]
  exact hr
end
/-! ### other names -/
def cjC (s : List Int) (c : Cls) : Cls := (cj s c.1, cj s c.2)
end

end Go.Proofs.Ytefbbbhidnnchaa
