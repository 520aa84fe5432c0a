/- Plain: where a step leads in a family. Written by led_gen.py. -/
import Derived.Test.YtefbbbhidnnchaaZ14A
import Derived.Test.YtefbbbhidnnchaaZ14F
import Derived.Test.YtefbbbhidnnchaaZ14V
import Derived.Test.YtefbbbhidnnchaaRlt
namespace Go.Proofs.Ytefbbbhidnnchaa
set_option linter.unusedVariables false
set_option linter.unusedSimpArgs false
open Go.RowKit

def fullB (x y : Per) (a b : Int) : Bool := decide (a ≠ b) && (decide (0 ≤ x.2.2.1) && (decide (0 ≤ x.2.2.2.1) && (decide (x.2.2.1 = y.2.2.1) && decide (x.2.2.2.1 = y.2.2.2.1))))
def eldB (x y : Per) (a b : Int) : Bool := decide (x.2.2.2.2.1 < y.2.2.2.2.1 ∨ (x.2.2.2.2.1 = y.2.2.2.2.1 ∧ a < b))
def parB (y : Per) (a : Int) : Bool := decide (y.2.2.1 = a ∨ y.2.2.2.1 = a)
/-- The pairs that a step to a partner makes. -/
def wedS (us : List Uni) (k : Int) : List (Int × Int) := if k = 7 then us.map fun u => (u.2.1, u.1) else if k = 8 then us.map fun u => (u.1, u.2.1) else []
def ledC (us : List Uni) (k g a b : Int) (x y : Per) : Bool :=
  if k = 1 then decide (x.2.2.1 = b)
  else if k = 2 then decide (x.2.2.2.1 = b)
  else if k = 3 ∨ k = 4 then decide (y.2.1 = stSex k) && (fullB x y a b && ((decide (g ≠ 1) || eldB y x b a) && (decide (g ≠ 2) || eldB x y a b)))
  else if k = 5 ∨ k = 6 then decide (y.2.1 = stSex k) && parB y a
  else decide ((a, b) ∈ wedS us k)
def ledB (f : Fam) (s : Stp) (a b : Nat) : Bool := match f.1[a]?, f.1[b]? with | some x, some y => ledC f.2 s.1 s.2 a b x y | _, _ => false
theorem ledB_at {f : Fam} {k g : Int} {a b : Nat} {x y : Per} (hx : f.1[a]? = some x) (hy : f.1[b]? = some y) : ledB f (k, g) a b = ledC f.2 k g a b x y := by unfold ledB; rw [hx, hy]
theorem wedS_take {us : List Uni} {k : Int} {i : Nat} {u : Uni} (h : us[i]? = some u) : wedS (us.take (i + 1)) k = wedS (us.take i) k ++ (if k = 7 then [(u.2.1, u.1)] else if k = 8 then [(u.1, u.2.1)] else []) := by
  unfold wedS
  rw [take_snoc h]
  by_cases h7 : k = 7
  · simp [h7]
  · by_cases h8 : k = 8
    · simp [h8]
    · simp [h7, h8]
end Go.Proofs.Ytefbbbhidnnchaa
