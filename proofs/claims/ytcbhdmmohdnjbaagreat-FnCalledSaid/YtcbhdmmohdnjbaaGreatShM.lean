/- Texts laid one behind the other (merge.py): Far, Tbt, Sht, Rch. -/
import Derived.Test.YtcbhdmmohdnjbaaGreatLedM
import Derived.Test.YtcbhdmmohdnjbaaGreatBase
import Derived.Test.YtcbhdmmohdnjbaaGreatFmiM
namespace Go.Proofs.YtcbhdmmohdnjbaaGreat
set_option linter.unusedVariables false
set_option linter.unusedSimpArgs false
open Go.RowKit
section
def upd (o : List Int) (d : Int) (T : Nat → Bool) : List Int := (List.range o.length).map fun x => if o.getD x 0 < 0 ∧ T x = true then d else o.getD x 0
def ledK (f : Fam) (k : Nat) (p q : Nat) : Bool := ledB f (((k + 1 : Nat) : Int), 0) p q
def hit (f : Fam) (o : List Int) (d : Int) (p : Nat) : Bool := (List.range 8).any fun k => (List.range f.1.length).any fun q => ledK f k p q && decide (o.getD q 0 = d)
def farOne (f : Fam) (b : Nat) : List Int := (List.replicate f.1.length (-1)).set b 0
def fars (f : Fam) (b : Nat) : Nat → List Int
 | 0 => farOne f b
 | d + 1 => upd (fars f b d) ((d + 1 : Nat) : Int) (hit f (fars f b d) (d : Int))
def filt (o : List Bool) (F : List Int) (m : Int) : List Bool := (List.range o.length).map fun p => o.getD p false && decide (F.getD p 0 = m)
def anyFar (o : List Bool) (F : List Int) (m : Int) : Bool := (List.range o.length).any fun p => o.getD p false && decide (F.getD p 0 = m)
def pickK (f : Fam) (F : List Int) (o : List Bool) (m : Int) : Option Nat := (List.range 8).find? fun k => anyFar (stepSet (ledK f k) f.1.length o) F m
def wayI (f : Fam) (F : List Int) : Nat → List Bool → List Stp
 | 0, _ => []
 | m + 1, o => match pickK f F o m with
   | some k => (((k + 1 : Nat) : Int), 0) :: wayI f F m (stepSet (ledK f k) f.1.length o)
   | none => wayI f F m o
def wayS (f : Fam) (F : List Int) : Nat → List Bool → List Stp
 | 0, _ => []
 | m + 1, o => match pickK f F o m with
   | some k => (((k + 1 : Nat) : Int), 0) :: wayS f F m (filt (stepSet (ledK f k) f.1.length o) F m)
   | none => wayS f F m o
structure Ways (f : Fam) (F : List Int) (m : Nat) (oi os : List Bool) : Prop where
 li : oi.length = f.1.length
 ls : os.length = f.1.length
 same : ∀ p, os.getD p false = true ↔ (p < f.1.length ∧ oi.getD p false = true ∧ F.getD p 0 = (m : Int))
 low : ∀ p, p < f.1.length → oi.getD p false = true → F.getD p 0 < 0 ∨ (m : Int) ≤ F.getD p 0
 some : ∃ p, os.getD p false = true
end
section
theorem more_age {t u : Kin} (h : ∀ s ∈ t.2, s.2 = 0) (hu : u ∈ more t) : ∀ s ∈ u.2, s.2 = 0 := by
 unfold more moreTo at hu
 obtain ⟨i, -, hi⟩ := List.mem_flatMap.1 hu
 unfold kinMore at hi
 split at hi
 ·rw [List.mem_singleton] at hi
  subst hi
  intro s hs
  rcases List.mem_append.1 hs with hs | hs
  ·exact h s hs
  ·rw [List.mem_singleton] at hs; rw [hs]
 ·cases hi
theorem lastT_age (ego : Int) : ∀ n, ∀ t ∈ lastT ego n, ∀ s ∈ t.2, s.2 = 0
 | 0, t, ht => by
   unfold lastT at ht
   rw [List.mem_singleton] at ht
   subst ht
   intro s hs; cases hs
 | n + 1, t, ht => by
   unfold lastT at ht
   obtain ⟨u, hu, hu2⟩ := List.mem_flatMap.1 ht
   exact more_age (lastT_age ego n u hu) hu2
theorem outT_age (ego : Int) : ∀ n, ∀ t ∈ outT ego n, ∀ s ∈ t.2, s.2 = 0
 | 0, t, ht => by unfold outT at ht; cases ht
 | n + 1, t, ht => by
   unfold outT at ht
   rcases List.mem_append.1 ht with ht | ht
   ·exact outT_age ego n t ht
   ·exact lastT_age ego (n + 1) t ht
theorem typesX_ok {ego n : Int} {t : Kin} (h : t ∈ typesX ego n) : isKin t = true ∧ t.1 = ego ∧ (ego = 1 ∨ ego = 2) ∧ ∀ s ∈ t.2, (1 ≤ s.1 ∧ s.1 ≤ 8) ∧ s.2 = 0 := by
 unfold typesX at h
 split at h
 ·rename_i hv
  simp only [typesV, Bool.and_eq_true, decide_eq_true_eq] at hv
  have h1 := outT_ok hv.1 n.toNat omT t h
  exact ⟨h1.1, h1.2.2, hv.1, fun s hs => ⟨((isKin_facts h1.1).2.2.2 s hs).1, outT_age ego n.toNat t h s hs⟩⟩
 ·cases h
def sexP (f : Fam) (a : Nat) : Int := match f.1[a]? with | some x => x.2.1 | none => 0
def typesB (f : Fam) (a b : Nat) (n : Int) : List Kin := (typesX (sexP f a) n).filter fun t => leadsB f t.2 a b
end
section
def hit1 (f : Fam) (o : List Int) (m : Int) (p k : Nat) : Bool := (List.range f.1.length).any fun q => ledK f k p q && decide (o.getD q 0 = m)
def hitK (f : Fam) (o : List Int) (m : Int) (p K : Nat) : Bool := (List.range K).any fun k => hit1 f o m p k
def tI (f : Fam) (o : List Int) (d : Int) (p k : Nat) (l : List Int) (x : Nat) : Bool := (decide (x < p) && hit f o (d - 1) x) || (decide (x = p) && (hitK f o (d - 1) p k || l.any fun q => decide (o.getD q.toNat 0 = d - 1)))
def farI (f : Fam) (o : List Int) (d : Int) (p k : Nat) (l : List Int) : List Int := upd o d (tI f o d p k l)
def tS (f : Fam) (o : List Int) (d : Int) (k x y : Nat) (z : Nat) : Bool := hitK f o (d - 1) z k || ((decide (z < x) && hit1 f o (d - 1) z k) || (decide (z = x) && (List.range y).any fun q => ledK f k z q && decide (o.getD q 0 = d - 1)))
def farS (f : Fam) (o : List Int) (d : Int) (k x y : Nat) : List Int := upd o d (tS f o d k x y)
def filtTo (o : List Bool) (F : List Int) (m : Int) (x : Nat) : List Bool := (List.range o.length).map fun p => o.getD p false && (decide (F.getD p 0 = m) || decide (x ≤ p))
def farOf (f : Fam) (a b : Nat) : Int := (fars f b 8).getD a 0
def shL (f : Fam) (a b : Nat) : List Stp := wayI f (fars f b 8) (farOf f a b).toNat (single f.1.length a)
def shV (f : Fam) (a b : Int) : Bool := hasB f [a, b] && decide (0 ≤ farOf f a.toNat b.toNat)
def shX (f : Fam) (a b : Int) : Kin := if shV f a b = true then (sexP f a.toNat, shL f a.toNat b.toNat) else (0, [])
theorem single_len (n a : Nat) : (single n a).length = n := by unfold single; simp
end
section
end
end Go.Proofs.YtcbhdmmohdnjbaaGreat
