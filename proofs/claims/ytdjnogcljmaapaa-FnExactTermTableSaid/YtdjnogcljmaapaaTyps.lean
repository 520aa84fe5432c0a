/- Plain: the types of a few steps. -/
import Derived.Test.YtdjnogcljmaapaaKin
namespace Go.Proofs.Ytdjnogcljmaapaa
set_option linter.unusedVariables false
set_option linter.unusedSimpArgs false
open Go.RowKit

def kinMore (t : Kin) (k : Int) : List Kin := if stFits (k, 0) (sexOf t) = true then [(t.1, t.2 ++ [(k, 0)])] else []
/-- The types with one step of a kind below k more. -/
def moreTo (t : Kin) (k : Nat) : List Kin := (List.range k).flatMap fun (i : Nat) => kinMore t ((i : Int) + 1)
def more (t : Kin) : List Kin := moreTo t 8
def lastT (ego : Int) : Nat → List Kin
  | 0 => [(ego, [])]
  | n + 1 => (lastT ego n).flatMap more
def outT (ego : Int) : Nat → List Kin
  | 0 => []
  | n + 1 => outT ego n ++ lastT ego (n + 1)
def typesV (ego n : Int) : Bool := decide (ego = 1 ∨ ego = 2) && decide (1 ≤ n ∧ n ≤ 3)
def typesX (ego n : Int) : List Kin := if typesV ego n = true then outT ego n.toNat else []

theorem moreTo_succ (t : Kin) (k : Nat) : moreTo t (k + 1) = moreTo t k ++ kinMore t ((k : Int) + 1) := by simp [moreTo, List.range_succ]
theorem kinMore_len (t : Kin) (k : Int) : (kinMore t k).length ≤ 1 := by unfold kinMore; split <;> simp
theorem moreTo_len (t : Kin) : ∀ k, (moreTo t k).length ≤ k
  | 0 => by simp [moreTo]
  | k + 1 => by rw [moreTo_succ, List.length_append]; have := moreTo_len t k; have := kinMore_len t ((k : Int) + 1); omega
theorem flat_more_len : ∀ l : List Kin, (l.flatMap more).length ≤ 8 * l.length
  | [] => by simp
  | t :: l => by rw [List.flatMap_cons, List.length_append, List.length_cons]; have := flat_more_len l; have := moreTo_len t 8; simp only [more] at *; omega
theorem lastT_len (ego : Int) : ∀ n, (lastT ego n).length ≤ 8 ^ n
  | 0 => by simp [lastT]
  | n + 1 => by rw [lastT, Nat.pow_succ]; have := flat_more_len (lastT ego n); have := lastT_len ego n; omega
theorem kinGo_snoc : ∀ (l : List Stp) (sex : Int) (s : Stp), kinGo sex (l ++ [s]) = (kinGo sex l && stFits s (match l.getLast? with | some x => stSex x.1 | none => sex))
  | [], sex, s => by simp [kinGo]
  | x :: l, sex, s => by
    rw [List.cons_append, kinGo, kinGo_snoc l, kinGo, Bool.and_assoc]
    cases l with
    | nil => rfl
    | cons y l =>
      rw [List.getLast?_cons_cons]
      cases h : (y :: l).getLast? with
      | none => simp at h
      | some z => rfl
/-- One step more makes a valid type if the step fits. -/
theorem isKin_snoc {t : Kin} (ht : isKin t = true) (hl : t.2.length < 8) (s : Stp) : isKin (t.1, t.2 ++ [s]) = stFits s (sexOf t) := by
  obtain ⟨h1, h2, h3, -⟩ := isKin_facts ht
  unfold isKin
  dsimp only
  rw [decide_eq_true h1, decide_eq_true (by rw [List.length_append]; simp; omega), Bool.true_and, Bool.true_and, kinGo_snoc, h3, Bool.true_and]
  rfl
/-- What the types of a few steps are. -/
structure TOk (ego : Int) (n : Nat) (t : Kin) : Prop where
  kin : isKin t = true
  len : t.2.length ≤ n
  ego : t.1 = ego
theorem more_ok {ego : Int} {n : Nat} {t u : Kin} (h : TOk ego n t) (hn : n < 8) (hu : u ∈ more t) : TOk ego (n + 1) u := by
  unfold more moreTo at hu
  rw [List.mem_flatMap] at hu
  obtain ⟨i, -, hu⟩ := hu
  unfold kinMore at hu
  split at hu
  · rename_i hf
    simp only [List.mem_singleton] at hu
    subst hu
    exact ⟨by rw [isKin_snoc h.kin (by have := h.len; omega)]; exact hf, by dsimp only; rw [List.length_append]; have := h.len; simp; omega, h.ego⟩
  · cases hu
theorem lastT_ok {ego : Int} (he : ego = 1 ∨ ego = 2) : ∀ n, n ≤ 8 → ∀ t ∈ lastT ego n, TOk ego n t
  | 0, _ => fun t ht => by
    simp only [lastT, List.mem_singleton] at ht
    subst ht
    exact ⟨by rcases he with rfl | rfl <;> rfl, Nat.le_refl _, rfl⟩
  | n + 1, hn => fun t ht => by
    rw [lastT, List.mem_flatMap] at ht
    obtain ⟨u, hu, ht⟩ := ht
    exact more_ok (lastT_ok he n (by omega) u hu) (by omega) ht
theorem outT_ok {ego : Int} (he : ego = 1 ∨ ego = 2) : ∀ n, n ≤ 8 → ∀ t ∈ outT ego n, isKin t = true ∧ t.2.length ≤ n ∧ t.1 = ego
  | 0, _ => fun t ht => by cases ht
  | n + 1, hn => fun t ht => by
    rw [outT, List.mem_append] at ht
    rcases ht with ht | ht
    · have := outT_ok he n (by omega) t ht
      exact ⟨this.1, by omega, this.2.2⟩
    · have := lastT_ok he (n + 1) hn t ht
      exact ⟨this.kin, this.len, this.ego⟩
end Go.Proofs.Ytdjnogcljmaapaa
