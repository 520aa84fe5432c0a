/- Plain: bounds of the groups by both lines. -/
import Derived.Test.YtiingmngeiakgaaDbl
import Derived.Test.YtiingmngeiakgaaLinL
namespace Go.Proofs.Ytiingmngeiakgaa
set_option linter.unusedVariables false
set_option linter.unusedSimpArgs false
open Go.RowKit
theorem dblV_len (f : Fam) : lenSS (dblV f) ≤ 1600 := by
  unfold dblV
  split
  · rename_i h
    obtain ⟨h40, -⟩ := famB_facts h
    have h1 := lenSS_bd (a := f.1.length) (dls f.1 f.1.length) (fun l hl => by
      unfold dls at hl
      rw [List.mem_map] at hl
      obtain ⟨q, _, rfl⟩ := hl
      exact dgrp_len _ _ _)
    have h2 : (dls f.1 f.1.length).length ≤ f.1.length := by unfold dls; rw [List.length_map]; exact dkeys_len _ _
    have h3 : (dls f.1 f.1.length).length * f.1.length ≤ 40 * 40 := Nat.mul_le_mul (by omega) h40
    omega
  · simp [lenSS]
end Go.Proofs.Ytiingmngeiakgaa
