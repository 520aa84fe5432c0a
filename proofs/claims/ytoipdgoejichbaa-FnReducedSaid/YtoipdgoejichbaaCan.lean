/- Contracts: systems of classes compared, the first one under other names. -/
import Derived.Test.YtoipdgoejichbaaAll
import Derived.Test.YtoipdgoejichbaaBase
namespace Go.Proofs.Ytoipdgoejichbaa
set_option linter.unusedVariables false
set_option linter.unusedSimpArgs false
open Go.RowKit

def lexC (a b : Cls) : Bool := lexB a.1 b.1 || (decide (a.1 = b.1) && lexB a.2 b.2)
def relC (c : Cls) (p : List Int) : Cls := (relab p c.1, relab p c.2)
def canonGo (c : Cls) : List (List Int) → Cls → Cls
  | [], b => b
  | p :: ps, b => canonGo c ps (if lexC (relC c p) b = true then relC c p else b)
def canonC (c : Cls) : Cls := canonGo c (perms c.1.length c.1.length) (relC c (idL c.1.length))
def canonV (c : Cls) : Bool := isCls c && decide (c.1.length ≤ 5)
def canonR (c : Cls) : Cls := if canonV c = true then canonC c else ([], [])

theorem perms_ok {n : Nat} (hn : n ≤ 5) : (∀ p ∈ perms n n, isPerm p = true) ∧ (perms n n)[0]? = some (idL n) := by
  have : n = 0 ∨ n = 1 ∨ n = 2 ∨ n = 3 ∨ n = 4 ∨ n = 5 := by omega
  rcases this with rfl | rfl | rfl | rfl | rfl | rfl <;> decide +kernel
theorem canonGo_step {c b : Cls} {L : List (List Int)} {i : Nat} {p : List Int} (h : L[i]? = some p) : canonGo c (L.drop i) b = canonGo c (L.drop (i + 1)) (if lexC (relC c p) b = true then relC c p else b) := by
  rw [drop_cons h, canonGo]
theorem canonGo_len {c : Cls} {n : Nat} : ∀ (L : List (List Int)) (b : Cls), (∀ p ∈ L, p.length ≤ n) → b.1.length ≤ n ∧ b.2.length ≤ n → (canonGo c L b).1.length ≤ n ∧ (canonGo c L b).2.length ≤ n
  | [], _, _, h => h
  | p :: L, b, hL, h => by
    rw [canonGo]
    refine canonGo_len L _ (fun q hq => hL q (by simp [hq])) ?_
    split
    · simp only [relC, relab_len]; exact ⟨hL p (by simp), hL p (by simp)⟩
    · exact h
theorem canonR_len (c : Cls) : (canonR c).1.length ≤ 5 ∧ (canonR c).2.length ≤ 5 := by
  unfold canonR; split
  · rename_i h
    simp only [canonV, Bool.and_eq_true, decide_eq_true_eq] at h
    refine canonGo_len _ _ (fun p hp => by rw [perms_mem hp]; exact h.2) ?_
    simp only [relC, relab_len, idL_len]; exact ⟨h.2, h.2⟩
  · simp

section
variable {z z' : Bool} {lo hi lo' hi' : Nat} (w : World) (u1 u2 v1 v2 : Value) (a b : Cls)

end

end Go.Proofs.Ytoipdgoejichbaa
