/- Contracts of the laws' helpers on terminologies: size, copy, compare. -/
import Derived.Test.YtdpkldapobbnpaaGreatDoorRulM
import Derived.Test.YtdpkldapobbnpaaGreatDoorDEntry
import Derived.Test.YtdpkldapobbnpaaGreatDoorEnt
namespace Go.Proofs.YtdpkldapobbnpaaGreatDoor
set_option linter.unusedVariables false
set_option linter.unusedSimpArgs false
open Go.RowKit
def trmSz (y : Trm) : Nat := sszRul y.1 + sszEnt y.2
instance decEqTrm : DecidableEq (List Rul × List Ent) := instDecidableEqProd
theorem Rd.trm {z : Bool} {lo hi : Nat} {w : World} {a b : Value} {f : Trm} (h : Rd z lo hi w [a, b] f) : Rd z lo hi w [a] f.1 ∧ Rd z lo hi w [b] f.2 := h.two rfl
theorem shapeTrm {z : Bool} {lo hi : Nat} {w : World} {a b : Value} {f : Trm} (h : Rd z lo hi w [a, b] f) : ∃ ao n cap bo m dap, a = .slice ao n cap ∧ b = .slice bo m dap := by
 obtain ⟨h1, h2⟩ := h.trm
 obtain ⟨ao, n, cap, rfl, -⟩ := h1.shape
 obtain ⟨bo, m, dap, rfl, -⟩ := h2.shape
 exact ⟨ao, n, cap, bo, m, dap, rfl, rfl⟩
end Go.Proofs.YtdpkldapobbnpaaGreatDoor
