/- Contract of listTerms (impl). Written by lt_gen.py. -/
import Derived.Test.YtoipdgoejichbaaTrmC
import Derived.Test.YtoipdgoejichbaaTwo
namespace Go.Proofs.Ytoipdgoejichbaa
set_option linter.unusedVariables false
set_option linter.unusedSimpArgs false
open Go.RowKit

theorem slStrS : SlTy Try.prog 56 9 (.string ByteArray.empty) 1 16 := SlTy.of Try.underlying56 (by kernel_rfl) rfl
def tmL (y : Trm) (T : List Kin) : List ByteArray := T.map fun t => tmText (termOf y t)
def tmB (y : Trm) (T : List Kin) : List Bool := T.map fun t => (termOf y t).isSome
theorem tmL_len (y : Trm) (T : List Kin) : (tmL y T).length = T.length := by simp [tmL]
theorem tmB_len (y : Trm) (T : List Kin) : (tmB y T).length = T.length := by simp [tmB]
theorem tmL_at {y : Trm} {T : List Kin} {i : Nat} {s : Kin} (h : T[i]? = some s) : (tmL y T)[i]? = some (tmText (termOf y s)) := by simp [tmL, h]
theorem tmB_at {y : Trm} {T : List Kin} {i : Nat} {s : Kin} (h : T[i]? = some s) : (tmB y T)[i]? = some (termOf y s).isSome := by simp [tmB, h]
def PostLt (w : World) (tv : Value) (y : Trm) (T : List Kin) (e : Ending) (w' : World) : Prop :=
  ∃ u v, e = .returned (.agg #[tv, u, v]) ∧ Rd true w.heap.size w'.heap.size w' [u] (tmL y T) ∧ Rd true w.heap.size w'.heap.size w' [v] (tmB y T) ∧ Below w.heap.size w w'
end Go.Proofs.Ytoipdgoejichbaa
