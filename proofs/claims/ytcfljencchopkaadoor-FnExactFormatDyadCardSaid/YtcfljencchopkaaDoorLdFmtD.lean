/- What the row's listed variables give the walk: the table of the powers of ten. -/
import Derived.Test.YtcfljencchopkaaDoorFmtD
import Derived.LaidMore
import Derived.Stop.Joined
import Derived.Stop.LaidErr
namespace Go.Proofs.YtcfljencchopkaaDoor.fnExactFormatDyad
set_option linter.unusedVariables false
set_option linter.unusedSimpArgs false
open Go.RowKit

abbrev laidL : List (String × DataW Unit) := Rows.fnExactFormatDyadRow.laid
/-- The heap that the door's own run leaves meets the condition. -/
theorem door_met (os : Os) (args : Array Value) : laidMetH Tryd.prog laidL ((World.doorLaid Tryd.prog 400 os).forCall (fun _ _ => 0) ⟨#[], args, []⟩).memory :=
  laidMetH_of_parts3 (fuel := 8) (laidMet_of_run' 8 (by kernel_rfl) (by kernel_rfl)) (by kernel_rfl) (by kernel_rfl)
theorem tab_of_laid {W : World} (h : laidMetH Tryd.prog laidL W) : Lib.TabIs Tryd.prog W "internal/strconv.uint64pow10" .u64 Lib.pow10Tab := by
  rw [MakeChecks.laidMetH_plain _ _ _ (by kernel_rfl)] at h
  have h2 := laidMet.tail (laidMet.tail h)
  exact Lib.tabIs_of_head (g := 0) (t := 41) (e := 34) (n := 20) (rest := []) (by kernel_rfl) (by kernel_rfl) Tryd.underlying41 Tryd.underlying34 (by kernel_rfl) (by kernel_rfl) h2
end Go.Proofs.YtcfljencchopkaaDoor.fnExactFormatDyad
