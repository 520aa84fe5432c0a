/- Plain: the trace of a reduction. -/
import Derived.Test.YtnfgdkbapffjcaaRul
import Derived.Test.YtnfgdkbapffjcaaFmt
namespace Go.Proofs.Ytnfgdkbapffjcaa
set_option linter.unusedVariables false
set_option linter.unusedSimpArgs false
open Go.RowKit

/-- What is told of one replacement: the rule's name, the type behind it. -/
def trLine (rs : List Rul) (k : Nat) (u : Kin) : ByteArray := (match rs[k]? with | some r => r.1 | none => ⟨#[]⟩) ++ ⟨#[32]⟩ ++ kinTxt u
def trN : Nat → List Rul → Kin → List ByteArray
  | 0, _, _ => []
  | n + 1, rs, t => match rewr rs t with | some (u, k, _) => trLine rs k u :: trN n rs u | none => []
def trL (rs : List Rul) (t : Kin) : List ByteArray := trN (enc t.2) rs t
def traceX (rs : List Rul) (t : Kin) : List ByteArray := if (areRules rs && isKin t) = true then kinTxt t :: trL rs t else []
theorem trN_eq {rs : List Rul} (hrs : allRules rs) : ∀ {n m : Nat} {t : Kin}, isKin t = true → enc t.2 ≤ n → enc t.2 ≤ m → trN n rs t = trN m rs t
  | 0, 0, t, _, _, _ => rfl
  | 0, m + 1, t, ht, h, _ => by
    rw [trN, trN]
    cases hr : rewr rs t with
    | none => rfl
    | some p =>
      obtain ⟨u, k, i⟩ := p
      obtain ⟨r, -, -, -, -, -, he⟩ := rewr_some hrs ht hr
      omega
  | n + 1, 0, t, ht, _, h => by
    rw [trN, trN]
    cases hr : rewr rs t with
    | none => rfl
    | some p =>
      obtain ⟨u, k, i⟩ := p
      obtain ⟨r, -, -, -, -, -, he⟩ := rewr_some hrs ht hr
      omega
  | n + 1, m + 1, t, ht, h1, h2 => by
    rw [trN, trN]
    cases hr : rewr rs t with
    | none => rfl
    | some p =>
      obtain ⟨u, k, i⟩ := p
      obtain ⟨r, -, -, -, -, hu, he⟩ := rewr_some hrs ht hr
      dsimp only
      rw [trN_eq hrs hu (show enc u.2 ≤ n by omega) (show enc u.2 ≤ m by omega)]
theorem trL_none {rs : List Rul} {t : Kin} (h : rewr rs t = none) : trL rs t = [] := by
  unfold trL
  cases enc t.2 with
  | zero => rfl
  | succ n => rw [trN, h]
theorem trL_some {rs : List Rul} {t u : Kin} {k i : Nat} (hrs : allRules rs) (ht : isKin t = true) (h : rewr rs t = some (u, k, i)) : trL rs t = trLine rs k u :: trL rs u := by
  obtain ⟨r, -, -, -, -, hu, he⟩ := rewr_some hrs ht h
  unfold trL
  obtain ⟨n, hn⟩ : ∃ n, enc t.2 = n + 1 := ⟨enc t.2 - 1, by omega⟩
  rw [hn, trN, h]
  dsimp only
  rw [trN_eq hrs hu (show enc u.2 ≤ n by omega) (Nat.le_refl _)]
theorem trN_len : ∀ (n : Nat) (rs : List Rul) (t : Kin), (trN n rs t).length ≤ n
  | 0, _, _ => Nat.le_refl _
  | n + 1, rs, t => by
    rw [trN]
    cases rewr rs t with
    | none => simp
    | some p =>
      obtain ⟨u, k, i⟩ := p
      have := trN_len n rs u
      simp; omega
theorem enc_kin {t : Kin} (h : isKin t = true) : enc t.2 < 1099511627776 := by
  have hk := isKin_facts h
  have h1 := enc_lt hk.2.2.2
  have h2 : (32 : Nat) ^ t.2.length ≤ 32 ^ 8 := Nat.pow_le_pow_right (by omega) hk.2.1
  have h3 : (32 : Nat) ^ 8 = 1099511627776 := by decide
  omega
theorem traceX_len (rs : List Rul) (t : Kin) : (traceX rs t).length ≤ 1099511627776 := by
  unfold traceX
  split
  · rename_i h
    simp only [Bool.and_eq_true] at h
    have h1 := trN_len (enc t.2) rs t
    have h2 := enc_kin h.2
    unfold trL
    simp; omega
  · simp
end Go.Proofs.Ytnfgdkbapffjcaa
