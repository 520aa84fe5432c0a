/- Ours: what arguments of this program's types read as. -/
import Derived.Test.YtcfljencchopkaaDoorOpens
import Derived.Test.YtcfljencchopkaaDoorTy
namespace Go.Proofs.YtcfljencchopkaaDoor
set_option linter.unusedVariables false
set_option linter.unusedSimpArgs false
open Go.RowKit

theorem arr1 {cs : Array Value} (h : cs.size = 1) : ∃ a, cs = #[a] := by
  match cs, h with
  | ⟨[a]⟩, _ => exact ⟨a, rfl⟩
theorem arr2 {cs : Array Value} (h : cs.size = 2) : ∃ a b, cs = #[a, b] := by
  match cs, h with
  | ⟨[a, b]⟩, _ => exact ⟨a, b, rfl⟩
theorem arr3 {cs : Array Value} (h : cs.size = 3) : ∃ a b c, cs = #[a, b, c] := by
  match cs, h with
  | ⟨[a, b, c]⟩, _ => exact ⟨a, b, c, rfl⟩
theorem arr5 {cs : Array Value} (h : cs.size = 5) : ∃ a b c d e, cs = #[a, b, c, d, e] := by
  match cs, h with
  | ⟨[a, b, c, d, e]⟩, _ => exact ⟨a, b, c, d, e, rfl⟩

theorem opInt : Opens Tryd.prog 3 Int := opens_int Tryd.underlying3
theorem opDyad : Opens Tryd.prog 23 (Int × Int) := opens_struct (N := 2) Tryd.underlying23 (by kernel_rfl) (opensF_cons rfl (by kernel_rfl) opInt (opensF_one rfl (by kernel_rfl) opInt))
end Go.Proofs.YtcfljencchopkaaDoor
