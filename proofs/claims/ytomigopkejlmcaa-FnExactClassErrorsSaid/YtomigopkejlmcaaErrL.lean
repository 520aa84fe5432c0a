/- Plain: a bound of the errors. -/
import Derived.Test.YtomigopkejlmcaaErr
namespace Go.Proofs.Ytomigopkejlmcaa
set_option linter.unusedVariables false
set_option linter.unusedSimpArgs false
open Go.RowKit
theorem errsV_len (f : Fam) (c : Cls) (g : List Int) : (errsV f c g).length ≤ 40 := by
  unfold errsV
  split
  · rename_i h
    obtain ⟨hf, -⟩ := givenB_facts h
    obtain ⟨h40, -⟩ := famB_facts hf
    have := listedTo_len (errM f c g) f.1.length
    rw [errsL]; omega
  · simp
end Go.Proofs.Ytomigopkejlmcaa
