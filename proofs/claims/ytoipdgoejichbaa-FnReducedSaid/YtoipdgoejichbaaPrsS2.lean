/- Contracts: how the reference reads types and rules. -/
import Derived.Test.YtoipdgoejichbaaPrsS
namespace Go.Proofs.Ytoipdgoejichbaa
set_option linter.unusedVariables false
set_option linter.unusedSimpArgs false
open Go.RowKit

theorem cutE_len (l : Bs) : (cutE l).2.length ≤ l.length := by
  unfold cutE
  split
  · simp
  · split
    · simp
    · exact Nat.le_refl _
theorem cutE_rng (l : Bs) : 0 ≤ (cutE l).1 ∧ (cutE l).1 ≤ 2 := by
  unfold cutE
  split
  · simp
  · split
    · simp
    · simp
theorem nil_kin (lo hi : Nat) (w : World) : Ow lo hi w [.int .i64 0, .slice none 0 0] ((0, []) : Kin) := Ow.kin_mk (by unfold I64; omega) (Ow.nil _ _ _)
end Go.Proofs.Ytoipdgoejichbaa
