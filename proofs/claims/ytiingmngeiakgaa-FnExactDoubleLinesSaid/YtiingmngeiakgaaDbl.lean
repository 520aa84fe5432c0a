/- Plain: the groups by both lines of a family. -/
import Derived.Test.YtiingmngeiakgaaLin
namespace Go.Proofs.Ytiingmngeiakgaa
set_option linter.unusedVariables false
set_option linter.unusedSimpArgs false
open Go.RowKit

def dkey (ps : List Per) (p : Nat) : Nat × Nat := (fo ps 1 p, fo ps 2 p)
def dgrp (ps : List Per) (key : Nat × Nat) (k : Nat) : List Int := ((List.range k).filter fun q => dkey ps q == key).map fun (q : Nat) => (q : Int)
/-- Nobody ahead of p is of p's group. -/
def dfirst (ps : List Per) (p : Nat) : Bool := (List.range p).all fun q => dkey ps q != dkey ps p
def dkeys (ps : List Per) (k : Nat) : List (Nat × Nat) := ((List.range k).filter (dfirst ps)).map (dkey ps)
def dls (ps : List Per) (k : Nat) : List (List Int) := (dkeys ps k).map fun key => dgrp ps key k
def sls (ps : List Per) (m : Nat) : List (List Int) := ((List.range m).filter (dfirst ps)).map fun p => dgrp ps (dkey ps p) ps.length
def dblV (f : Fam) : List (List Int) := if famB f = true then dls f.1 f.1.length else []
theorem sls_eq (ps : List Per) : sls ps ps.length = dls ps ps.length := by
  unfold sls dls dkeys
  rw [List.map_map]; rfl
theorem dgrp_succ (ps : List Per) (key : Nat × Nat) (k : Nat) : dgrp ps key (k + 1) = dgrp ps key k ++ (if dkey ps k = key then [(k : Int)] else []) := by
  unfold dgrp
  rw [List.range_succ, List.filter_append, List.map_append]
  by_cases h : dkey ps k = key <;> simp [h]
theorem dgrp_len (ps : List Per) (key : Nat × Nat) (k : Nat) : (dgrp ps key k).length ≤ k := by
  unfold dgrp; rw [List.length_map]
  have := List.length_filter_le (fun q => dkey ps q == key) (List.range k)
  rw [List.length_range] at this; exact this
theorem dkeys_len (ps : List Per) (k : Nat) : (dkeys ps k).length ≤ k := by
  unfold dkeys; rw [List.length_map]
  have := List.length_filter_le (dfirst ps) (List.range k)
  rw [List.length_range] at this; exact this
theorem dfirst_iff {ps : List Per} {p : Nat} : dfirst ps p = true ↔ ∀ q, q < p → dkey ps q ≠ dkey ps p := by
  unfold dfirst
  rw [List.all_eq_true]
  constructor
  · intro h q hq; have := h q (List.mem_range.2 hq); simpa using this
  · intro h q hq; have := h q (List.mem_range.1 hq); simpa using this
theorem dkeys_succ (ps : List Per) (k : Nat) : dkeys ps (k + 1) = dkeys ps k ++ (if dfirst ps k = true then [dkey ps k] else []) := by
  unfold dkeys
  rw [List.range_succ, List.filter_append, List.map_append]
  by_cases h : dfirst ps k = true <;> simp [h]
theorem mem_dkeys {ps : List Per} {key : Nat × Nat} : ∀ {k : Nat}, key ∈ dkeys ps k ↔ ∃ q, q < k ∧ dkey ps q = key
  | 0 => by simp [dkeys]
  | k + 1 => by
    rw [dkeys_succ, List.mem_append, mem_dkeys (k := k)]
    constructor
    · rintro (⟨q, h1, h2⟩ | h)
      · exact ⟨q, by omega, h2⟩
      · split at h
        · rw [List.mem_singleton] at h; exact ⟨k, by omega, h.symm⟩
        · cases h
    · rintro ⟨q, h1, h2⟩
      by_cases hq : q < k
      · exact .inl ⟨q, hq, h2⟩
      · obtain rfl : q = k := by omega
        by_cases hf : dfirst ps q = true
        · rw [if_pos hf]; exact .inr (by simp [h2])
        · left
          rw [dfirst_iff] at hf
          have ⟨r, hr⟩ := Classical.not_forall.1 hf
          have ⟨hr1, hr2⟩ := Classical.not_imp.1 hr
          exact ⟨r, hr1, (Classical.not_not.1 hr2).trans h2⟩
theorem dfirst_mem {ps : List Per} {k : Nat} : dfirst ps k = !decide (dkey ps k ∈ dkeys ps k) := by
  rw [Bool.eq_iff_iff, dfirst_iff]
  simp only [Bool.not_eq_true', decide_eq_false_iff_not, mem_dkeys]
  constructor
  · rintro h ⟨q, h1, h2⟩; exact h q h1 h2
  · intro h q h1 h2; exact h ⟨q, h1, h2⟩
theorem dkeys_nodup (ps : List Per) : ∀ k, (dkeys ps k).Nodup
  | 0 => by simp [dkeys]
  | k + 1 => by
    rw [dkeys_succ]
    split
    · rename_i h
      rw [dfirst_mem] at h
      simp only [Bool.not_eq_true', decide_eq_false_iff_not] at h
      refine List.nodup_append.2 ⟨dkeys_nodup ps k, by simp, fun a ha b hb => ?_⟩
      rw [List.mem_singleton] at hb
      subst hb
      exact fun e => h (e ▸ ha)
    · rw [List.append_nil]; exact dkeys_nodup ps k
/-- The lists ahead of the person k, a new one behind them if k is of a group of its own. -/
def dmid (ps : List Per) (k : Nat) : List (List Int) := (dkeys ps (k + 1)).map fun key => dgrp ps key k
theorem dmid_eq (ps : List Per) (k : Nat) : dmid ps k = dls ps k ++ (if dfirst ps k = true then [[]] else []) := by
  unfold dmid dls
  rw [dkeys_succ, List.map_append]
  congr 1
  split
  · rename_i h
    have : dgrp ps (dkey ps k) k = [] := by
      unfold dgrp
      rw [List.map_eq_nil_iff, List.filter_eq_nil_iff]
      intro q hq
      have := dfirst_iff.1 h q (List.mem_range.1 hq)
      simpa using this
    simp [this]
  · rfl
theorem dls_step {ps : List Per} {k i : Nat} (h : (dkeys ps (k + 1))[i]? = some (dkey ps k)) : dls ps (k + 1) = (dmid ps k).set i (dgrp ps (dkey ps k) k ++ [(k : Int)]) := by
  have hi : i < (dkeys ps (k + 1)).length := (List.getElem?_eq_some_iff.1 h).1
  have hg : (dkeys ps (k + 1))[i] = dkey ps k := (List.getElem?_eq_some_iff.1 h).2
  apply List.ext_getElem?
  intro j
  unfold dls dmid
  rw [List.getElem?_map, List.getElem?_set]
  by_cases hj : i = j
  · subst hj
    rw [if_pos rfl, if_pos (by simpa using hi), h]
    simp [dgrp_succ]
  · rw [if_neg hj, List.getElem?_map]
    cases e : (dkeys ps (k + 1))[j]? with
    | none => rfl
    | some key =>
      have hne : dkey ps k ≠ key := by
        intro e2
        obtain ⟨hj2, hk⟩ := List.getElem?_eq_some_iff.1 e
        have := (List.getElem_inj (dkeys_nodup ps (k + 1))).1 ((hg.trans e2).trans hk.symm)
        exact hj this
      simp [dgrp_succ, hne]
theorem dmid_at {ps : List Per} {k i : Nat} (h : (dkeys ps (k + 1))[i]? = some (dkey ps k)) : (dmid ps k)[i]? = some (dgrp ps (dkey ps k) k) := by
  unfold dmid; rw [List.getElem?_map, h]; rfl
/-- Who stands first in a group. -/
theorem dgrp_head (ps : List Per) (key : Nat × Nat) : ∀ n, (dgrp ps key n = [] ∧ ∀ q, q < n → dkey ps q ≠ key) ∨ ∃ (h : Nat) (t : List Int), dgrp ps key n = (h : Int) :: t ∧ h < n ∧ dkey ps h = key ∧ ∀ q, q < h → dkey ps q ≠ key
  | 0 => .inl ⟨rfl, fun q h => by omega⟩
  | n + 1 => by
    rw [dgrp_succ]
    rcases dgrp_head ps key n with ⟨h1, h2⟩ | ⟨h, t, h1, h2, h3, h4⟩
    · by_cases e : dkey ps n = key
      · rw [if_pos e, h1]; exact .inr ⟨n, [], rfl, by omega, e, h2⟩
      · rw [if_neg e, h1]
        refine .inl ⟨rfl, fun q hq => ?_⟩
        by_cases hq2 : q < n
        · exact h2 q hq2
        · obtain rfl : q = n := by omega
          exact e
    · rw [h1]; exact .inr ⟨h, _, rfl, by omega, h3, h4⟩
theorem dgrp_first {ps : List Per} {p n : Nat} (hp : p < n) : ∃ (h : Nat) (t : List Int), dgrp ps (dkey ps p) n = (h : Int) :: t ∧ h < n ∧ (h = p ↔ dfirst ps p = true) := by
  rcases dgrp_head ps (dkey ps p) n with ⟨h1, h2⟩ | ⟨h, t, h1, h2, h3, h4⟩
  · exact absurd rfl (h2 p hp)
  · refine ⟨h, t, h1, h2, ?_⟩
    rw [dfirst_iff]
    constructor
    · rintro rfl; exact h4
    · intro hf
      rcases Nat.lt_trichotomy h p with hl | hl | hl
      · exact absurd h3 (hf h hl)
      · exact hl
      · exact absurd rfl (h4 p hl)
theorem sls_succ (ps : List Per) (m : Nat) : sls ps (m + 1) = sls ps m ++ (if dfirst ps m = true then [dgrp ps (dkey ps m) ps.length] else []) := by
  unfold sls
  rw [List.range_succ, List.filter_append, List.map_append]
  by_cases h : dfirst ps m = true <;> simp [h]
theorem sls_len (ps : List Per) (m : Nat) : (sls ps m).length ≤ m := by
  unfold sls; rw [List.length_map]
  have := List.length_filter_le (dfirst ps) (List.range m)
  rw [List.length_range] at this; exact this
end Go.Proofs.Ytiingmngeiakgaa
