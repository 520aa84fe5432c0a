/- Contracts: backStep, ReverseType (impl). Written by rv_gen.py. -/
import Derived.Test.YtlfpnncjdoaelaaTrmC
import Derived.Test.YtlfpnncjdoaelaaBase
import Derived.Test.YtlfpnncjdoaelaaRev
namespace Go.Proofs.Ytlfpnncjdoaelaa
set_option linter.unusedVariables false
set_option linter.unusedSimpArgs false
open Go.RowKit

/-- A kin type of the call's own and a Bool come back. -/
def PostKB (w : World) (t : Kin) (b : Bool) (e : Ending) (w' : World) : Prop :=
  ∃ v, e = .returned (.tuple #[.agg #[.int .i64 t.1, v], .bool b]) ∧ Ow w.heap.size w'.heap.size w' [.int .i64 t.1, v] t ∧ Below w.heap.size w w'
theorem backSt_in {s : Stp} {sex : Int} (h : 0 ≤ s.2 ∧ s.2 ≤ 2) : (1 ≤ (backSt s sex).1 ∧ (backSt s sex).1 ≤ 8) ∧ (0 ≤ (backSt s sex).2 ∧ (backSt s sex).2 ≤ 2) := by
  unfold backSt
  split
  · dsimp only; split <;> omega
  · split
    · dsimp only; split <;> omega
    · split
      · dsimp only; split <;> split <;> omega
      · split <;> simp
theorem kin8 {k : Int} (h : 1 ≤ k ∧ k ≤ 8) : k = 1 ∨ k = 2 ∨ k = 3 ∨ k = 4 ∨ k = 5 ∨ k = 6 ∨ k = 7 ∨ k = 8 := by omega
theorem age3 {a : Int} (h : 0 ≤ a ∧ a ≤ 2) : a = 0 ∨ a = 1 ∨ a = 2 := by omega
end Go.Proofs.Ytlfpnncjdoaelaa
