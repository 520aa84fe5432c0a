/- Plain: those who are called by a term are those between whom and the person the term is one of the terms. -/
import Derived.Test.YtcbhdmmohdnjbaaGreatPpl
namespace Go.Proofs.YtcbhdmmohdnjbaaGreat
set_option linter.unusedVariables false
set_option linter.unusedSimpArgs false
open Go.RowKit
theorem mem_add {y : Trm} {o : List ByteArray} {t : Kin} {s : ByteArray} : s ∈ termsAdd y o t ↔ s ∈ o ∨ termOf y t = some s := by
 unfold termsAdd
 cases e : termOf y t with
 | none => simp
 | some q =>
   show s ∈ (if q ∈ o then o else o ++ [q]) ↔ _
   by_cases hq : q ∈ o
   ·rw [if_pos hq]
    constructor
    ·exact .inl
    ·rintro (h | h)
     ·exact h
     ·cases h; exact hq
   ·rw [if_neg hq, List.mem_append, List.mem_singleton]
    constructor
    ·rintro (h | rfl)
     ·exact .inl h
     ·exact .inr rfl
    ·rintro (h | h)
     ·exact .inl h
     ·cases h; exact .inr rfl
theorem nodup_add {y : Trm} {o : List ByteArray} {t : Kin} (h : o.Nodup) : (termsAdd y o t).Nodup := by
 unfold termsAdd
 cases e : termOf y t with
 | none => exact h
 | some q =>
   show (if q ∈ o then o else o ++ [q]).Nodup
   by_cases hq : q ∈ o
   ·rw [if_pos hq]; exact h
   ·rw [if_neg hq, List.nodup_append]
    exact ⟨h, by simp, fun a ha b hb e => hq (by rw [List.mem_singleton] at hb; rw [← hb, ← e]; exact ha)⟩
theorem fold_add (y : Trm) : ∀ (l : List Kin) (o : List ByteArray) (s : ByteArray), s ∈ l.foldl (termsAdd y) o ↔ s ∈ o ∨ ∃ t ∈ l, termOf y t = some s
 | [], o, s => by simp
 | t :: l, o, s => by
   rw [List.foldl_cons, fold_add y l, mem_add]
   simp [or_assoc]
theorem fold_nodup (y : Trm) : ∀ (l : List Kin) (o : List ByteArray), o.Nodup → (l.foldl (termsAdd y) o).Nodup
 | [], o, h => h
 | t :: l, o, h => fold_nodup y l _ (nodup_add h)
theorem twX_nodup (f : Fam) (y : Trm) (a b n : Int) : (twX f y a b n).Nodup := by
 unfold twX
 split
 ·exact fold_nodup y _ [] List.nodup_nil
 ·exact List.nodup_nil
theorem calP_iff {y : Trm} {x : ByteArray} {t : Kin} : calP y x t = true ↔ termOf y t = some x := by
 unfold calP
 cases e : termOf y t with
 | none => simp
 | some q => simp [tmText]; exact decide_eq_true_iff
theorem called_iff {f : Fam} {y : Trm} {a b n : Int} {s : ByteArray} (hy : isTerm y = true) (hf : famB f = true) (a0 : 0 ≤ a) (a1 : a ≤ (f.1.length : Int) - 1) (b0 : 0 ≤ b) (b1 : b ≤ (f.1.length : Int) - 1) : b ∈ pplX f y a s n ↔ s ∈ twX f y a b n := by
 have h1 : hasB f [a] = true := by unfold hasB inB; simp [hf]; omega
 have h2 : hasB f [a, b] = true := by unfold hasB inB; simp [hf]; omega
 have e1 : pplX f y a s n = rowTo (pplR f (calX y (sexP f a.toNat) n s)) a.toNat f.1.length := by unfold pplX; rw [hy, h1]; rfl
 have e2 : twX f y a b n = termsB y (typesB f a.toNat b.toNat n) := by unfold twX tbX; rw [if_pos hy, if_pos h2]
 rw [e1, e2, calX_eq hy]
 unfold rowTo pplR termsB typesB
 rw [fold_add]
 simp only [List.mem_map, List.mem_filter, List.mem_range, List.any_eq_true, List.not_mem_nil, false_or]
 constructor
 ·rintro ⟨k, ⟨hk, t, ⟨ht, hc⟩, hl⟩, rfl⟩
  exact ⟨t, ⟨ht, by simpa using hl⟩, calP_iff.1 hc⟩
 ·rintro ⟨t, ⟨ht, hl⟩, hs⟩
  exact ⟨b.toNat, ⟨by omega, t, ⟨ht, calP_iff.2 hs⟩, hl⟩, by omega⟩
end Go.Proofs.YtcbhdmmohdnjbaaGreat
