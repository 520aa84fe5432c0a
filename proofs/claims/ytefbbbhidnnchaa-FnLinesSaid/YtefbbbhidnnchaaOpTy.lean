/- Ours: what arguments of this program's types read as. -/
import Derived.Test.YtefbbbhidnnchaaZ14G
import Derived.Test.YtefbbbhidnnchaaZ14A
namespace Go.Proofs.Ytefbbbhidnnchaa
set_option linter.unusedVariables false
set_option linter.unusedSimpArgs false
open Go.RowKit

theorem arr1 {cs : Array Value} (h : cs.size = 1) : ∃ a, cs = #[a] := by
  match cs, h with
  | ⟨[a]⟩, _ => exact ⟨a, rfl⟩
theorem arr2 {cs : Array Value} (h : cs.size = 2) : ∃ a b, cs = #[a, b] := by
  match cs, h with
  | ⟨[a, b]⟩, _ => exact ⟨a, b, rfl⟩
theorem arr3 {cs : Array Value} (h : cs.size = 3) : ∃ a b c, cs = #[a, b, c] := by
  match cs, h with
  | ⟨[a, b, c]⟩, _ => exact ⟨a, b, c, rfl⟩
theorem arr5 {cs : Array Value} (h : cs.size = 5) : ∃ a b c d e, cs = #[a, b, c, d, e] := by
  match cs, h with
  | ⟨[a, b, c, d, e]⟩, _ => exact ⟨a, b, c, d, e, rfl⟩

theorem opInt : Opens Try.prog 3 Int := opens_int Try.underlying3
theorem opInts : Opens Try.prog 30 (List Int) := opens_slice Try.underlying30 (by kernel_rfl) (by decide) opInt
end Go.Proofs.Ytefbbbhidnnchaa
