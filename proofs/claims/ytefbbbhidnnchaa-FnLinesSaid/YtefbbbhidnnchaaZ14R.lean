/- Texts laid one behind the other (merge.py): Lin, Dbl, Lnl, LinI. -/
import Derived.Test.YtefbbbhidnnchaaZ14N
import Derived.Test.YtefbbbhidnnchaaZ14D
namespace Go.Proofs.Ytefbbbhidnnchaa
set_option linter.unusedVariables false
set_option linter.unusedSimpArgs false
open Go.RowKit

/-! ### Lin -/
section

def lineTo (ps : List Per) (sex : Int) (q k : Nat) : List Int := ((List.range k).filter fun p => fo ps sex p == q).map fun (p : Nat) => (p : Int)
def linesTo (ps : List Per) (sex : Int) (m : Nat) : List (List Int) := ((List.range m).map fun q => lineTo ps sex q ps.length).filter fun l => decide (0 < l.length)
def linesV (f : Fam) (sex : Int) : List (List Int) := if (famB f && sexB sex) = true then linesTo f.1 sex f.1.length else []

theorem lineTo_in {ps : List Per} {sex : Int} {q k : Nat} (h : fo ps sex k = q) : lineTo ps sex q (k + 1) = lineTo ps sex q k ++ [(k : Int)] := by
  unfold lineTo; rw [List.range_succ, List.filter_append, List.map_append]; simp [h]
theorem lineTo_out {ps : List Per} {sex : Int} {q k : Nat} (h : ¬ fo ps sex k = q) : lineTo ps sex q (k + 1) = lineTo ps sex q k := by
  unfold lineTo; rw [List.range_succ, List.filter_append, List.map_append]; simp [h]
theorem lineTo_len (ps : List Per) (sex : Int) (q k : Nat) : (lineTo ps sex q k).length ≤ k := by
  unfold lineTo; rw [List.length_map]
  have := List.length_filter_le (fun p => fo ps sex p == q) (List.range k)
  simpa using this
theorem linesTo_in {ps : List Per} {sex : Int} {m : Nat} (h : 0 < (lineTo ps sex m ps.length).length) : linesTo ps sex (m + 1) = linesTo ps sex m ++ [lineTo ps sex m ps.length] := by
  unfold linesTo; rw [List.range_succ, List.map_append, List.filter_append]; simp [h]
theorem linesTo_out {ps : List Per} {sex : Int} {m : Nat} (h : ¬ 0 < (lineTo ps sex m ps.length).length) : linesTo ps sex (m + 1) = linesTo ps sex m := by
  unfold linesTo; rw [List.range_succ, List.map_append, List.filter_append]; simp [h]
theorem linesTo_len (ps : List Per) (sex : Int) (m : Nat) : (linesTo ps sex m).length ≤ m := by
  unfold linesTo
  have := List.length_filter_le (fun l : List Int => decide (0 < l.length)) ((List.range m).map fun q => lineTo ps sex q ps.length)
  simpa using this

end

/-! ### Dbl -/
section

def dkey (ps : List Per) (p : Nat) : Nat × Nat := (fo ps 1 p, fo ps 2 p)
def dgrp (ps : List Per) (key : Nat × Nat) (k : Nat) : List Int := ((List.range k).filter fun q => dkey ps q == key).map fun (q : Nat) => (q : Int)
/-- Nobody ahead of p is of p's group. -/
def dfirst (ps : List Per) (p : Nat) : Bool := (List.range p).all fun q => dkey ps q != dkey ps p
def dkeys (ps : List Per) (k : Nat) : List (Nat × Nat) := ((List.range k).filter (dfirst ps)).map (dkey ps)
def dls (ps : List Per) (k : Nat) : List (List Int) := (dkeys ps k).map fun key => dgrp ps key k
def sls (ps : List Per) (m : Nat) : List (List Int) := ((List.range m).filter (dfirst ps)).map fun p => dgrp ps (dkey ps p) ps.length
def dblV (f : Fam) : List (List Int) := if famB f = true then dls f.1 f.1.length else []
theorem sls_eq (ps : List Per) : sls ps ps.length = dls ps ps.length := by
  unfold sls dls dkeys
  rw [List.map_map]; rfl
theorem dgrp_succ (ps : List Per) (key : Nat × Nat) (k : Nat) : dgrp ps key (k + 1) = dgrp ps key k ++ (if dkey ps k = key then [(k : Int)] else []) := by
  unfold dgrp
  rw [List.range_succ, List.filter_append, List.map_append]
  by_cases h : dkey ps k = key <;> simp [h]
theorem dgrp_len (ps : List Per) (key : Nat × Nat) (k : Nat) : (dgrp ps key k).length ≤ k := by
  unfold dgrp; rw [List.length_map]
  have := List.length_filter_le (fun q => dkey ps q == key) (List.range k)
  rw [List.length_range] at this; exact this
theorem dkeys_len (ps : List Per) (k : Nat) : (dkeys ps k).length ≤ k := by
  unfold dkeys; rw [List.length_map]
  have := List.length_filter_le (dfirst ps) (List.range k)
  rw [List.length_range] at this; exact this
theorem dfirst_iff {ps : List Per} {p : Nat} : dfirst ps p = true ↔ ∀ q, q < p → dkey ps q ≠ dkey ps p := by
  unfold dfirst
  rw [List.all_eq_true]
  constructor
  · intro h q hq; have := h q (List.mem_range.2 hq); simpa using this
  · intro h q hq; have := h q (List.mem_range.1 hq); simpa using this
theorem dkeys_succ (ps : List Per) (k : Nat) : dkeys ps (k + 1) = dkeys ps k ++ (if dfirst ps k = true then [dkey ps k] else []) := by
  unfold dkeys
  rw [List.range_succ, List.filter_append, List.map_append]
  by_cases h : dfirst ps k = true <;> simp [h]
theorem mem_dkeys {ps : List Per} {key : Nat × Nat} : ∀ {k : Nat}, key ∈ dkeys ps k ↔ ∃ q, q < k ∧ dkey ps q = key
  | 0 => by simp [dkeys]
  | k + 1 => by
    rw [dkeys_succ, List.mem_append, mem_dkeys (k := k)]
    constructor
    · rintro (⟨q, h1, h2⟩ | h)
      · exact ⟨q, by omega, h2⟩
      · split at h
        · rw [List.mem_singleton] at h; exact ⟨k, by omega, h.symm⟩
        · cases h
    · rintro ⟨q, h1, h2⟩
      by_cases hq : q < k
      · exact .inl ⟨q, hq, h2⟩
      · obtain rfl : q = k := by omega
        by_cases hf : dfirst ps q = true
        · rw [if_pos hf]; exact .inr (by simp [h2])
        · left
          rw [dfirst_iff] at hf
          have ⟨r, hr⟩ := Classical.not_forall.1 hf
          have ⟨hr1, hr2⟩ := Classical.not_imp.1 hr
          exact ⟨r, hr1, (Classical.not_not.1 hr2).trans h2⟩
theorem dfirst_mem {ps : List Per} {k : Nat} : dfirst ps k = !decide (dkey ps k ∈ dkeys ps k) := by
  rw [Bool.eq_iff_iff, dfirst_iff]
  simp only [Bool.not_eq_true', decide_eq_false_iff_not, mem_dkeys]
  constructor
  · rintro h ⟨q, h1, h2⟩; exact h q h1 h2
  · intro h q h1 h2; exact h ⟨q, h1, h2⟩
theorem dkeys_nodup (ps : List Per) : ∀ k, (dkeys ps k).Nodup
  | 0 => by simp [dkeys]
  | k + 1 => by
    rw [dkeys_succ]
    split
    · rename_i h
      rw [dfirst_mem] at h
      simp only [Bool.not_eq_true', decide_eq_false_iff_not] at h
      refine List.nodup_append.2 ⟨dkeys_nodup ps k, by simp, fun a ha b hb => ?_⟩
      rw [List.mem_singleton] at hb
      subst hb
      exact fun e => h (e ▸ ha)
    · rw [List.append_nil]; exact dkeys_nodup ps k
/-- The lists ahead of the person k, a new one behind them if k is of a group of its own. -/
def dmid (ps : List Per) (k : Nat) : List (List Int) := (dkeys ps (k + 1)).map fun key => dgrp ps key k
theorem dmid_eq (ps : List Per) (k : Nat) : dmid ps k = dls ps k ++ (if dfirst ps k = true then [[]] else []) := by
  unfold dmid dls
  rw [dkeys_succ, List.map_append]
  congr 1
  split
  · rename_i h
    have : dgrp ps (dkey ps k) k = [] := by
      unfold dgrp
      rw [List.map_eq_nil_iff, List.filter_eq_nil_iff]
      intro q hq
      have := dfirst_iff.1 h q (List.mem_range.1 hq)
      simpa using this
    simp [this]
  · rfl
theorem dls_step {ps : List Per} {k i : Nat} (h : (dkeys ps (k + 1))[i]? = some (dkey ps k)) : dls ps (k + 1) = (dmid ps k).set i (dgrp ps (dkey ps k) k ++ [(k : Int)]) := by
  have hi : i < (dkeys ps (k + 1)).length := (List.getElem?_eq_some_iff.1 h).1
  have hg : (dkeys ps (k + 1))[i] = dkey ps k := (List.getElem?_eq_some_iff.1 h).2
  apply List.ext_getElem?
  intro j
  unfold dls dmid
  rw [List.getElem?_map, List.getElem?_set]
  by_cases hj : i = j
  · subst hj
    rw [if_pos rfl, if_pos (by simpa using hi), h]
    simp [dgrp_succ]
  · rw [if_neg hj, List.getElem?_map]
    cases e : (dkeys ps (k + 1))[j]? with
    | none => rfl
    | some key =>
      have hne : dkey ps k ≠ key := by
        intro e2
        obtain ⟨hj2, hk⟩ := List.getElem?_eq_some_iff.1 e
        have := (List.getElem_inj (dkeys_nodup ps (k + 1))).1 ((hg.trans e2).trans hk.symm)
        exact hj this
      simp [dgrp_succ, hne]
theorem dmid_at {ps : List Per} {k i : Nat} (h : (dkeys ps (k + 1))[i]? = some (dkey ps k)) : (dmid ps k)[i]? = some (dgrp ps (dkey ps k) k) := by
  unfold dmid; rw [List.getElem?_map, h]; rfl
/-- Who stands first in a group. -/
theorem dgrp_head (ps : List Per) (key : Nat × Nat) : ∀ n, (dgrp ps key n = [] ∧ ∀ q, q < n → dkey ps q ≠ key) ∨ ∃ (h : Nat) (t : List Int), dgrp ps key n = (h : Int) :: t ∧ h < n ∧ dkey ps h = key ∧ ∀ q, q < h → dkey ps q ≠ key
  | 0 => .inl ⟨rfl, fun q h => by omega⟩
  | n + 1 => by
    rw [dgrp_succ]
    rcases dgrp_head ps key n with ⟨h1, h2⟩ | ⟨h, t, h1, h2, h3, h4⟩
    · by_cases e : dkey ps n = key
      · rw [if_pos e, h1]; exact .inr ⟨n, [], rfl, by omega, e, h2⟩
      · rw [if_neg e, h1]
        refine .inl ⟨rfl, fun q hq => ?_⟩
        by_cases hq2 : q < n
        · exact h2 q hq2
        · obtain rfl : q = n := by omega
          exact e
    · rw [h1]; exact .inr ⟨h, _, rfl, by omega, h3, h4⟩
theorem dgrp_first {ps : List Per} {p n : Nat} (hp : p < n) : ∃ (h : Nat) (t : List Int), dgrp ps (dkey ps p) n = (h : Int) :: t ∧ h < n ∧ (h = p ↔ dfirst ps p = true) := by
  rcases dgrp_head ps (dkey ps p) n with ⟨h1, h2⟩ | ⟨h, t, h1, h2, h3, h4⟩
  · exact absurd rfl (h2 p hp)
  · refine ⟨h, t, h1, h2, ?_⟩
    rw [dfirst_iff]
    constructor
    · rintro rfl; exact h4
    · intro hf
      rcases Nat.lt_trichotomy h p with hl | hl | hl
      · exact absurd h3 (hf h hl)
      · exact hl
      · exact absurd rfl (h4 p hl)
theorem sls_succ (ps : List Per) (m : Nat) : sls ps (m + 1) = sls ps m ++ (if dfirst ps m = true then [dgrp ps (dkey ps m) ps.length] else []) := by
  unfold sls
  rw [List.range_succ, List.filter_append, List.map_append]
  by_cases h : dfirst ps m = true <;> simp [h]
theorem sls_len (ps : List Per) (m : Nat) : (sls ps m).length ≤ m := by
  unfold sls; rw [List.length_map]
  have := List.length_filter_le (dfirst ps) (List.range m)
  rw [List.length_range] at this; exact this

end

/-! ### Lnl -/
section

theorem nd_len {α : Type} [DecidableEq α] : ∀ {l s : List α}, l.Nodup → (∀ x ∈ l, x ∈ s) → l.length ≤ s.length
  | [], _, _, _ => Nat.zero_le _
  | a :: l, s, hn, h => by
    have hn' := List.nodup_cons.1 hn
    have ha : a ∈ s := h a List.mem_cons_self
    have h2 := nd_len (l := l) (s := s.erase a) hn'.2 (fun x hx => (List.mem_erase_of_ne (fun e : x = a => hn'.1 (by rw [← e]; exact hx))).2 (h x (List.mem_cons_of_mem _ hx)))
    rw [List.length_erase_of_mem ha] at h2
    have := List.length_pos_of_mem ha
    rw [List.length_cons]; omega
theorem fo_le {ps : List Per} {n : Nat} (hP : PplTo ps n) (sex : Int) : ∀ (p : Nat), p < n → fo ps sex p ≤ p ∧ fo ps sex (fo ps sex p) = fo ps sex p := by
  intro p
  induction p using Nat.strongRecOn with
  | _ p ih =>
    intro hp
    cases hx : ps[p]? with
    | none =>
      have e : fo ps sex p = p := by
        unfold fo
        cases p with
        | zero => rfl
        | succ p => rw [fnd, hx]
      rw [e, e]; exact ⟨Nat.le_refl _, rfl⟩
    | some x =>
      rcases upQ_lt hP hp hx sex with h | ⟨h0, h1⟩
      · have e := fo_top hx (show upQ sex x < 0 by omega)
        rw [e, e]; exact ⟨Nat.le_refl _, rfl⟩
      · obtain ⟨u, hu⟩ := Int.eq_ofNat_of_zero_le h0
        have e := fo_up hP hp hx hu
        have := ih u (by omega) (by omega)
        rw [e]; exact ⟨by omega, this.2⟩
/-- A founder has no parent of that sex. -/
theorem fo_none {ps : List Per} {n p : Nat} (hP : PplTo ps n) (hp : p < n) {sex : Int} (h : fo ps sex p = p) {x : Per} (hx : ps[p]? = some x) : upQ sex x = -1 := by
  rcases upQ_lt hP hp hx sex with h1 | ⟨h0, h1⟩
  · exact h1
  · obtain ⟨u, hu⟩ := Int.eq_ofNat_of_zero_le h0
    have e := fo_up hP hp hx hu
    have := (fo_le hP sex u (by omega)).1
    omega
theorem mem_lineTo {ps : List Per} {sex : Int} {q k : Nat} {p : Int} : p ∈ lineTo ps sex q k ↔ ∃ i : Nat, i < k ∧ fo ps sex i = q ∧ p = i := by
  unfold lineTo
  rw [List.mem_map]
  constructor
  · rintro ⟨i, hi, rfl⟩
    rw [List.mem_filter, List.mem_range] at hi
    exact ⟨i, hi.1, by simpa using hi.2, rfl⟩
  · rintro ⟨i, h1, h2, rfl⟩
    exact ⟨i, List.mem_filter.2 ⟨List.mem_range.2 h1, by simpa using h2⟩, rfl⟩
theorem natcast_inj : Function.Injective fun n : Nat => (n : Int) := fun a b (h : (a : Int) = (b : Int)) => by omega
theorem lineTo_nd (ps : List Per) (sex : Int) (q k : Nat) : (lineTo ps sex q k).Nodup := by
  unfold lineTo
  exact List.Pairwise.map _ (fun a b (h : a ≠ b) (e : (a : Int) = (b : Int)) => h (by omega)) ((List.nodup_range (n := k)).filter _)
theorem mem_linesTo {ps : List Per} {sex : Int} {m : Nat} {g : List Int} : g ∈ linesTo ps sex m ↔ ∃ q, q < m ∧ g = lineTo ps sex q ps.length ∧ 0 < g.length := by
  unfold linesTo
  rw [List.mem_filter, List.mem_map]
  constructor
  · rintro ⟨⟨q, h1, rfl⟩, h2⟩
    exact ⟨q, List.mem_range.1 h1, rfl, by simpa using h2⟩
  · rintro ⟨q, h1, rfl, h2⟩
    exact ⟨⟨q, List.mem_range.2 h1, rfl⟩, by simpa using h2⟩
theorem linesTo_flat (ps : List Per) (sex : Int) : ∀ m, (linesTo ps sex m).flatten.Nodup ∧ ∀ p, p ∈ (linesTo ps sex m).flatten ↔ ∃ i : Nat, i < ps.length ∧ fo ps sex i < m ∧ p = i
  | 0 => ⟨by simp [linesTo], fun p => ⟨fun h => by simp [linesTo] at h, fun ⟨i, _, h, _⟩ => by omega⟩⟩
  | m + 1 => by
    obtain ⟨h1, h2⟩ := linesTo_flat ps sex m
    by_cases h : 0 < (lineTo ps sex m ps.length).length
    · rw [linesTo_in h, List.flatten_append, List.flatten_cons, List.flatten_nil, List.append_nil]
      refine ⟨List.nodup_append.2 ⟨h1, lineTo_nd _ _ _ _, fun a ha b hb e => ?_⟩, fun p => ?_⟩
      · subst e
        obtain ⟨i, _, h4, rfl⟩ := (h2 a).1 ha
        obtain ⟨j, _, h6, h7⟩ := mem_lineTo.1 hb
        have : i = j := by omega
        subst this; omega
      · rw [List.mem_append, h2, mem_lineTo]
        constructor
        · rintro (⟨i, a, b, c⟩ | ⟨i, a, b, c⟩)
          · exact ⟨i, a, by omega, c⟩
          · exact ⟨i, a, by omega, c⟩
        · rintro ⟨i, a, b, c⟩
          by_cases e : fo ps sex i = m
          · exact .inr ⟨i, a, e, c⟩
          · exact .inl ⟨i, a, by omega, c⟩
    · rw [linesTo_out h]
      refine ⟨h1, fun p => ?_⟩
      rw [h2]
      constructor
      · rintro ⟨i, a, b, c⟩; exact ⟨i, a, by omega, c⟩
      · rintro ⟨i, a, b, c⟩
        by_cases e : fo ps sex i = m
        · exact absurd (List.length_pos_of_mem (mem_lineTo.2 ⟨i, a, e, c⟩)) h
        · exact ⟨i, a, by omega, c⟩
theorem linesTo_all {ps : List Per} (hP : PplTo ps ps.length) (sex : Int) : (linesTo ps sex ps.length).flatten.length = ps.length := by
  obtain ⟨h1, h2⟩ := linesTo_flat ps sex ps.length
  have a := nd_len h1 (s := (List.range ps.length).map fun (i : Nat) => (i : Int)) (fun x hx => by
    obtain ⟨i, hi, -, rfl⟩ := (h2 x).1 hx
    exact List.mem_map.2 ⟨i, List.mem_range.2 hi, rfl⟩)
  have b := nd_len (l := (List.range ps.length).map fun (i : Nat) => (i : Int)) (s := (linesTo ps sex ps.length).flatten) (List.Pairwise.map _ (fun a b (h : a ≠ b) (e : (a : Int) = (b : Int)) => h (by omega)) List.nodup_range) (fun x hx => by
    obtain ⟨i, hi, rfl⟩ := List.mem_map.1 hx
    have hi := List.mem_range.1 hi
    exact (h2 _).2 ⟨i, hi, fo_lt hP (Nat.le_refl _) sex i hi, rfl⟩)
  simp only [List.length_map, List.length_range] at a b
  omega
/-- Group k of the lines, person j of it: not seen before; the founder is in the group. -/
theorem lines_at {ps : List Per} (hP : PplTo ps ps.length) {sex : Int} {k j : Nat} {g : List Int} {p : Int} (hg : (linesTo ps sex ps.length)[k]? = some g) (hp : g[j]? = some p) :
    ∃ i : Nat, p = i ∧ i < ps.length ∧ ((fo ps sex i : Nat) : Int) ∈ g ∧ p ∉ ((linesTo ps sex ps.length).take k).flatten ++ g.take j := by
  obtain ⟨q, hq, rfl, -⟩ := mem_linesTo.1 (List.mem_of_getElem? hg)
  obtain ⟨i, hi, hf, rfl⟩ := mem_lineTo.1 (List.mem_of_getElem? hp)
  refine ⟨i, rfl, hi, mem_lineTo.2 ⟨fo ps sex i, fo_lt hP (Nat.le_refl _) sex i hi, by rw [(fo_le hP sex i hi).2, hf], rfl⟩, fun hm => ?_⟩
  have hnd := (linesTo_flat ps sex ps.length).1
  have e : linesTo ps sex ps.length = (linesTo ps sex ps.length).take k ++ lineTo ps sex q ps.length :: (linesTo ps sex ps.length).drop (k + 1) := by
    have hk := (List.getElem?_eq_some_iff.1 hg)
    obtain ⟨hk, he⟩ := hk
    rw [← he, ← List.drop_eq_getElem_cons hk, List.take_append_drop]
  have e2 : lineTo ps sex q ps.length = (lineTo ps sex q ps.length).take j ++ (i : Int) :: (lineTo ps sex q ps.length).drop (j + 1) := by
    obtain ⟨hj, he⟩ := (List.getElem?_eq_some_iff.1 hp)
    rw [← he, ← List.drop_eq_getElem_cons hj, List.take_append_drop]
  rw [e, List.flatten_append, List.flatten_cons] at hnd
  generalize ((linesTo ps sex ps.length).take k).flatten = A at hnd hm
  generalize ((linesTo ps sex ps.length).drop (k + 1)).flatten = B at hnd
  rw [e2] at hnd
  generalize (lineTo ps sex q ps.length).take j = C at hnd hm
  generalize (lineTo ps sex q ps.length).drop (j + 1) = D at hnd
  simp only [List.append_assoc, List.cons_append, List.nodup_append, List.nodup_cons, List.mem_append, List.mem_cons] at hnd hm
  rcases hm with hm | hm
  · exact hnd.2.2 _ hm _ (.inr (.inl rfl)) rfl
  · exact hnd.2.1.2.2 _ hm _ (.inl rfl) rfl
theorem lines_has {ps : List Per} {sex : Int} {g : List Int} {a b : Nat} (hb : b < ps.length) (hg : g ∈ linesTo ps sex ps.length) (hm : ((a : Nat) : Int) ∈ g) : ((b : Nat) : Int) ∈ g ↔ fo ps sex a = fo ps sex b := by
  obtain ⟨q, hq, rfl, -⟩ := mem_linesTo.1 hg
  obtain ⟨i, _, h1, h2⟩ := mem_lineTo.1 hm
  obtain rfl : i = a := by omega
  rw [mem_lineTo]
  constructor
  · rintro ⟨j, _, h3, h4⟩
    obtain rfl : j = b := by omega
    rw [h1, h3]
  · intro h
    exact ⟨b, hb, by rw [← h, h1], rfl⟩
theorem mem_dgrp {ps : List Per} {key : Nat × Nat} {k : Nat} {p : Int} : p ∈ dgrp ps key k ↔ ∃ i : Nat, i < k ∧ dkey ps i = key ∧ p = i := by
  unfold dgrp
  rw [List.mem_map]
  constructor
  · rintro ⟨i, hi, rfl⟩
    rw [List.mem_filter, List.mem_range] at hi
    exact ⟨i, hi.1, by simpa using hi.2, rfl⟩
  · rintro ⟨i, h1, h2, rfl⟩
    exact ⟨i, List.mem_filter.2 ⟨List.mem_range.2 h1, by simpa using h2⟩, rfl⟩
theorem dbl_has {ps : List Per} {g : List Int} {a b : Nat} (hb : b < ps.length) (hg : g ∈ dls ps ps.length) (hm : ((a : Nat) : Int) ∈ g) : ((b : Nat) : Int) ∈ g ↔ (fo ps 1 a = fo ps 1 b ∧ fo ps 2 a = fo ps 2 b) := by
  unfold dls at hg
  obtain ⟨key, -, rfl⟩ := List.mem_map.1 hg
  obtain ⟨i, _, h1, h2⟩ := mem_dgrp.1 hm
  obtain rfl : i = a := by omega
  rw [mem_dgrp]
  constructor
  · rintro ⟨j, _, h3, h4⟩
    obtain rfl : j = b := by omega
    have : dkey ps i = dkey ps j := by rw [h1, h3]
    unfold dkey at this
    rw [Prod.mk.injEq] at this
    exact this
  · rintro ⟨h3, h4⟩
    exact ⟨b, hb, by rw [← h1]; unfold dkey; rw [h3, h4], rfl⟩

end

/-! ### LinI -/
section

set_option maxRecDepth 20000 in
set_option maxHeartbeats 4000000 in
theorem linesOfI_any {z : Bool} {lo hi : Nat} (w : World) (v v2 : Value) (f : Fam) (h : Rd z lo hi w [v, v2] f) (sex : Int) :
    Calls Try.prog 9 #[.agg #[v, v2], .int .i64 sex] w (PostOw w (linesV f sex)) := by
  obtain ⟨ha, -⟩ := h.fam
  obtain ⟨ao, n, cap, rfl, hn, hnc, hcm, hnone⟩ := ha.shape
  subst hn
  unfold maxLen at *
  obtain ⟨r1, hlet_r1⟩ : ∃ r, r = famB f := ⟨_, rfl⟩
  have H1 := Lib.hid hlet_r1
  clear hlet_r1
  obtain ⟨r2, hlet_r2⟩ : ∃ r, r = sexB sex := ⟨_, rfl⟩
  have H2 := Lib.hid hlet_r2
  clear hlet_r2
  have HV := Lib.hid (show linesV f sex = if (r1 && r2) = true then linesTo f.1 sex f.1.length else [] by rw [linesV, H1.out, H2.out])
  obtain ⟨V, hV⟩ : ∃ V, V = linesV f sex := ⟨_, rfl⟩
  rw [← hV] at HV ⊢
  clear hV
  go_enter Try.func9, Try.ntmps9
  go_wp2_with fail
  refine (isFamI_b _ _ _ f (h.below bwT) r1 H1.out).mono ?_
  rintro e1 w1 ⟨rfl, hbw1⟩
  have hpw1 : Below w.heap.size w w1 := Below.after bwT hbw1 szT
  have sw1 := hpw1.size
  have hBw1 : Below w.heap.size w w1 := hpw1
  have l_f : w.heap.size < w1.heap.size := by have := hbw1.size; simp at this; omega
  have q_f0 : w1.cell? ⟨w.heap.size, 0, none⟩ = some (.slice ao f.1.length cap) := oldc hbw1 ltT (by simp [go_sem])
  have q_f1 : w1.cell? ⟨w.heap.size, 1, none⟩ = some (v2) := oldc hbw1 ltT (by simp [go_sem])
  clear hbw1 hpw1
  cases r1
  · have HF := Lib.hid (show V = [] by rw [HV.out]; rfl)
    clear HV h ha H1 H2
    go_wp2
    go_ret
    exact ⟨_, rfl, by rw [HF.out]; exact Ow.nil _ _ _, bwT⟩
  go_wp2_with fail
  refine (isSex_b _ sex r2 H2.out).mono ?_
  rintro e2 w2 ⟨rfl, hbw2⟩
  have hpw2 : Below w1.heap.size w1 w2 := Below.after bwT hbw2 szT
  have sw2 := hpw2.size
  have hBw2 : Below w.heap.size w w2 := Below.trans hBw1 (Below.mono hpw2 hBw1.size)
  have q_f0 := oldc hpw2 l_f q_f0
  have q_f1 := oldc hpw2 l_f q_f1
  have l_f := Nat.lt_of_lt_of_le l_f sw2
  clear hbw2 hpw2
  cases r2
  · have HF := Lib.hid (show V = [] by rw [HV.out]; rfl)
    clear HV h ha H1 H2
    go_wp2
    go_ret
    exact ⟨_, rfl, by rw [HF.out]; exact Ow.nil _ _ _, bwT⟩
  have HF := Lib.hid (show V = linesTo f.1 sex f.1.length by rw [HV.out]; rfl)
  obtain ⟨h40, -, hP, -⟩ := famB_facts H1.out.symm
  have HP := Lib.hid hP
  clear hP HV h
  obtain ⟨W0, hW0⟩ : ∃ W : World, W = w2 := ⟨_, rfl⟩
  subst hW0
  have hB0 : Below w.heap.size w W0 := hBw2
  have s0 := hB0.size
  go_wp2
  go_loopw [5, 20] (fun s5 s20 wr => ∃ m : Nat, m ≤ f.1.length ∧ s20 = .int .i64 m ∧ Hid (GL true W0.heap.size W0.heap.size wr.heap.size wr 30 s5 (linesTo f.1 sex m)) ∧ Below W0.heap.size W0 wr) (fun _ s20 _ => f.1.length - (intOf s20).toNat)
  case atStart => exact ⟨0, Nat.zero_le _, rfl, Lib.hid (GL.start _ _ _ _ _ _), bwT⟩
  case round =>
    obtain ⟨wo, hwo⟩ : ∃ wm : World, wm = wr := ⟨_, rfl⟩
    subst hwo
    obtain ⟨m, hm, rfl, hG, hb⟩ := hrel
    have sO := hb.size
    have q_f0 := oldc hb l_f q_f0
    have q_f1 := oldc hb l_f q_f1
    have l_f := Nat.lt_of_lt_of_le l_f sO
    by_cases hlt : m < f.1.length
    · have hI : (m : Int) < (f.1.length : Int) := by omega
      have hbw : Below w.heap.size w wo := hB0.trans (hb.mono s0)
      go_wp2
      go_loopw [7, 26] (fun s7 s26 wi => ∃ k : Nat, k ≤ f.1.length ∧ s26 = .int .i64 k ∧ Hid (GL true wo.heap.size wo.heap.size wi.heap.size wi 3 s7 (lineTo f.1 sex m k)) ∧ Below wo.heap.size wo wi) (fun _ s26 _ => f.1.length - (intOf s26).toNat)
      case atStart => exact ⟨0, Nat.zero_le _, rfl, Lib.hid (GL.start _ _ _ _ _ _), bwT⟩
      case round =>
        obtain ⟨wi, hwi⟩ : ∃ wm : World, wm = wr := ⟨_, rfl⟩
        subst hwi
        obtain ⟨k, hk, rfl, hL, hbi⟩ := hrel
        have sI := hbi.size
        have q_f0 := oldc hbi l_f q_f0
        have q_f1 := oldc hbi l_f q_f1
        have l_f := Nat.lt_of_lt_of_le l_f sI
        have hbwi : Below w.heap.size w wi := hbw.trans (hbi.mono (by omega))
        by_cases hlk : k < f.1.length
        · have hIk : (k : Int) < (f.1.length : Int) := by omega
          go_wp2_with fail
          refine (founder_any _ sex _ _ f.1 (ha.below bwT) HP.out k hlk).mono ?_
          obtain ⟨t, ht⟩ : ∃ t, t = fo f.1 sex k := ⟨_, rfl⟩
          rw [← ht]
          rintro e w1 ⟨rfl, hb1⟩
          have HT := Lib.hid ht
          clear ht
          have s1 := hb1.size
          have hL := hL.out.below hb1
          have hbi1 : Below wo.heap.size wo w1 := Below.after hbi hb1 sI
          by_cases e : t = m
          · have HX := Lib.hid (show lineTo f.1 sex m (k + 1) = lineTo f.1 sex m k ++ [(k : Int)] from lineTo_in (by rw [← HT.out, e]))
            have hlen := lineTo_len f.1 sex m k
            subst e
            clear HT hb1
            go_wp2_with (at_builtin; refine wpList_push rfl rfl slInt (by show (0 : Nat) < 1; omega) (hL.alloc _) rfl (ad := ⟨w1.heap.size, 0, none⟩) rfl (cs := [.int .i64 k]) (y := (k : Int)) (lx := w1.heap.size) (hx' := w1.heap.size) ?c1 (It.flat (z := true) (w0 := w1) (fp := []) ⟨rfl, ⟨by omega, by omega⟩, rfl⟩) (by omega) (.inl szT) (by unfold maxLen; omega) (by omega) ?c2 ?_)
            case c1 =>
              intro j c hj
              match j, hj with
              | 0, hj => simp at hj; subst hj; simp [Addr.add]
            case c2 => simp; omega
            intro v1 w3 hL3 _ hb3
            have HL3 := Lib.hid (show GL true wo.heap.size wo.heap.size w3.heap.size w3 3 v1 (lineTo f.1 sex t (k + 1)) by rw [HX.out]; exact hL3)
            have hbi3 : Below wo.heap.size wo w3 := Below.trans bwT hb3
            clear hL hL3 hb3
            go_wp2
            go_roundw
            case rel => exact ⟨k + 1, by omega, by go_num, HL3, hbi3⟩
            case measure => simp [intOf]; omega
          · have e1 : ¬ (t : Int) = (m : Int) := by omega
            have HX := Lib.hid (show GL true wo.heap.size wo.heap.size w1.heap.size w1 3 _ (lineTo f.1 sex m (k + 1)) by rw [lineTo_out (by rw [← HT.out]; exact e)]; exact hL.top)
            clear HT hb1 hL
            go_wp2
            go_roundw
            case rel => exact ⟨k + 1, by omega, by go_num, HX, hbi1⟩
            case measure => simp [intOf]; omega
        · have hnk : ¬ (k : Int) < (f.1.length : Int) := by omega
          obtain rfl : k = f.1.length := by omega
          have hL := hL.out
          have hlen := lineTo_len f.1 sex m f.1.length
          obtain ⟨L, hLe⟩ : ∃ L, L = lineTo f.1 sex m f.1.length := ⟨_, rfl⟩
          rw [← hLe] at hL hlen
          have hG := hG.out.below hbi
          by_cases h0 : 0 < L.length
          · have h0I : (0 : Int) < (L.length : Int) := by omega
            have HX := Lib.hid (show linesTo f.1 sex (m + 1) = linesTo f.1 sex m ++ [L] by rw [hLe]; exact linesTo_in (by rw [← hLe]; exact h0))
            obtain ⟨g, cp, rfl, hg1, hg2⟩ := hL.form h0
            have hI4 := GL.it (l0 := wo.heap.size) hL (Nat.le_refl _) (Nat.le_refl _)
            have hll := linesTo_len f.1 sex m
            clear hLe hL
            go_wp2_with (at_builtin; refine wpList_push rfl rfl slInts (by show (0 : Nat) < 1; omega) (hG.alloc _) rfl (ad := ⟨wi.heap.size, 0, none⟩) rfl (cs := [_]) (y := L) (lx := wo.heap.size) (hx' := wi.heap.size) ?d1 (hI4.keep znT) (by omega) (.inl (Nat.le_refl _)) (by unfold maxLen; omega) (by omega) ?d2 ?_)
            case d2 => first | omega | (simp; omega)
            intro v3 w5 hG5 _ hb5
            have HG5 := Lib.hid (show GL true W0.heap.size W0.heap.size w5.heap.size w5 30 v3 (linesTo f.1 sex (m + 1)) by rw [HX.out]; exact hG5)
            have hbo5 : Below W0.heap.size W0 w5 := Below.trans (Below.alloc (hb.trans (hbi.mono sO)) (by omega) _) hb5
            clear hG hG5 hb5 hI4
            go_wp2
            go_roundw
            case rel => exact ⟨m + 1, by omega, by go_num, HG5, hbo5⟩
            case measure => simp [intOf]; omega
          · have h0I : ¬ (0 : Int) < (L.length : Int) := by omega
            obtain ⟨ao', cp', rfl, -, -⟩ := hL.len
            have HX := Lib.hid (show GL true W0.heap.size W0.heap.size wi.heap.size wi 30 _ (linesTo f.1 sex (m + 1)) by rw [linesTo_out (by rw [← hLe]; exact h0)]; exact hG.top)
            have hbo5 : Below W0.heap.size W0 wi := hb.trans (hbi.mono sO)
            clear hG hL hLe
            go_wp2
            go_roundw
            case rel => exact ⟨m + 1, by omega, by go_num, HX, hbo5⟩
            case measure => simp [intOf]; omega
    · have hnI : ¬ (m : Int) < (f.1.length : Int) := by omega
      obtain rfl : m = f.1.length := by omega
      have HO := Lib.hid (show Ow w.heap.size wo.heap.size wo [_] V by rw [HF.out]; exact GL.ow (l0 := w.heap.size) hG.out s0 s0)
      have hbw : Below w.heap.size w wo := hB0.trans (hb.mono s0)
      clear hG
      go_wp2
      go_ret
      exact ⟨_, rfl, HO.out, hbw⟩

end

end Go.Proofs.Ytefbbbhidnnchaa
