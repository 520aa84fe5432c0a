/- Plain: finding the fewest rules. -/
import Derived.Test.YtlfpnncjdoaelaaRul
import Derived.Test.YtlfpnncjdoaelaaEnt
namespace Go.Proofs.Ytlfpnncjdoaelaa
set_option linter.unusedVariables false
set_option linter.unusedSimpArgs false
open Go.RowKit

def pairsOk (ps : List TPr) : Bool := ps.all fun p => isKin p.1 && isKin p.2
def sameB (rs : List Rul) (p : TPr) : Bool := decide (nf rs p.1 = nf rs p.2)
def solvB (rs : List Rul) (same apart : List TPr) : Bool := same.all (sameB rs) && apart.all fun p => !sameB rs p
def pickR (cat : List Rul) (front : List Int) : List Rul := front.filterMap fun k => cat[k.toNat]?
/-- The first of the numbers from a one on, so many, that leads to something. -/
def firstK (f : Nat → Option (List Int)) (from_ : Nat) : Nat → Option (List Int)
  | 0 => none
  | m + 1 => match f from_ with | some l => some l | none => firstK f (from_ + 1) m
def chooseN (cat : List Rul) (same apart : List TPr) : Nat → Nat → List Int → Option (List Int)
  | 0, _, front => if solvB (pickR cat front) same apart = true then some front else none
  | n + 1, from_, front => firstK (fun k => chooseN cat same apart n (k + 1) (front ++ [(k : Int)])) from_ (cat.length - from_)
def findV (cat : List Rul) (same apart : List TPr) : Bool := areRules cat && (decide (cat.length ≤ 8) && (decide (same.length + apart.length ≤ 40) && (pairsOk same && pairsOk apart)))
/-- The least number of rules that does, from m on, so many tries. -/
def leastK (cat : List Rul) (same apart : List TPr) (m : Nat) : Nat → Option (List Int)
  | 0 => none
  | t + 1 => match chooseN cat same apart m 0 [] with | some l => some l | none => leastK cat same apart (m + 1) t
def findO (cat : List Rul) (same apart : List TPr) : Option (List Int) := if findV cat same apart = true then leastK cat same apart 0 (cat.length + 1) else none
def findX (cat : List Rul) (same apart : List TPr) : List Int := (findO cat same apart).getD []

theorem firstK_none {f : Nat → Option (List Int)} {a m : Nat} (h : f a = none) : firstK f a (m + 1) = firstK f (a + 1) m := by rw [firstK, h]
theorem firstK_some {f : Nat → Option (List Int)} {a m : Nat} {l : List Int} (h : f a = some l) : firstK f a (m + 1) = some l := by rw [firstK, h]
theorem leastK_none {cat : List Rul} {same apart : List TPr} {m t : Nat} (h : chooseN cat same apart m 0 [] = none) : leastK cat same apart m (t + 1) = leastK cat same apart (m + 1) t := by rw [leastK, h]
theorem leastK_some {cat : List Rul} {same apart : List TPr} {m t : Nat} {l : List Int} (h : chooseN cat same apart m 0 [] = some l) : leastK cat same apart m (t + 1) = some l := by rw [leastK, h]
/-- Numbers of the catalog. -/
def InC (n : Nat) (l : List Int) : Prop := ∀ k ∈ l, 0 ≤ k ∧ k < (n : Int)
theorem InC.snoc {n : Nat} {l : List Int} (h : InC n l) {k : Nat} (hk : k < n) : InC n (l ++ [(k : Int)]) := fun x hx => by
  rcases List.mem_append.1 hx with hx | hx
  · exact h x hx
  · simp at hx; subst hx; omega
theorem pickR_snoc {cat : List Rul} {l : List Int} {k : Int} {r : Rul} (h : cat[k.toNat]? = some r) : pickR cat (l ++ [k]) = pickR cat l ++ [r] := by
  unfold pickR
  rw [List.filterMap_append]
  simp [h]
theorem pickR_len (cat : List Rul) (l : List Int) : (pickR cat l).length ≤ l.length := List.length_filterMap_le _ _
theorem pickR_all {cat : List Rul} (h : allRules cat) (l : List Int) : allRules (pickR cat l) := by
  intro r hr
  unfold pickR at hr
  obtain ⟨k, -, h2⟩ := List.mem_filterMap.1 hr
  exact h r (List.mem_of_getElem? h2)
theorem firstK_len {f : Nat → Option (List Int)} {m : Nat} : ∀ {a : Nat} {l : List Int} {b : Nat}, (∀ k l, f k = some l → l.length ≤ b) → firstK f a m = some l → l.length ≤ b := by
  induction m with
  | zero => intro a l b _ h; cases h
  | succ m ih =>
    intro a l b hf h
    rw [firstK] at h
    cases e : f a with
    | none => rw [e] at h; exact ih hf h
    | some x => rw [e] at h; cases h; exact hf a _ e
theorem chooseN_len {cat : List Rul} {same apart : List TPr} : ∀ (n : Nat) {a : Nat} {front l : List Int}, chooseN cat same apart n a front = some l → l.length ≤ front.length + n
  | 0, a, front, l, h => by
    rw [chooseN] at h
    split at h
    · cases h; omega
    · cases h
  | n + 1, a, front, l, h => by
    rw [chooseN] at h
    refine firstK_len (fun k l' hk => ?_) h
    have := chooseN_len n hk
    rw [List.length_append] at this
    simp at this; omega
theorem leastK_len {cat : List Rul} {same apart : List TPr} : ∀ (t m : Nat) {l : List Int}, leastK cat same apart m t = some l → l.length ≤ m + t
  | 0, m, l, h => by cases h
  | t + 1, m, l, h => by
    rw [leastK] at h
    cases e : chooseN cat same apart m 0 [] with
    | none => rw [e] at h; have := leastK_len t (m + 1) h; omega
    | some x => rw [e] at h; cases h; have := chooseN_len m e; simp at this; omega
theorem findX_len (cat : List Rul) (same apart : List TPr) : (findX cat same apart).length ≤ 9 := by
  unfold findX findO
  split
  · rename_i h
    unfold findV at h
    simp only [Bool.and_eq_true, decide_eq_true_eq] at h
    cases e : leastK cat same apart 0 (cat.length + 1) with
    | none => simp
    | some l => have := leastK_len _ _ e; simp; omega
  · simp
theorem same_step {ps : List TPr} {i : Nat} {p : TPr} (h : ps[i]? = some p) (f : TPr → Bool) (hA : (ps.take i).all f = true) (hp : f p = true) : (ps.take (i + 1)).all f = true := by
  rw [take_snoc h, List.all_append, hA]; simp [hp]
theorem all_bad {ps : List TPr} {i : Nat} {p : TPr} (h : ps[i]? = some p) (f : TPr → Bool) (hp : f p = false) : ps.all f = false := by
  rw [List.all_eq_false]
  exact ⟨p, List.mem_of_getElem? h, by rw [hp]; decide⟩
end Go.Proofs.Ytlfpnncjdoaelaa
