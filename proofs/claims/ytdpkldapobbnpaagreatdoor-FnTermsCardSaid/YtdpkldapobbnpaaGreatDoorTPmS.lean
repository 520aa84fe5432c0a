/- Contracts of TypePermutation (spec) and what it calls. -/
import Derived.Test.YtdpkldapobbnpaaGreatDoorTypS
import Derived.Test.YtdpkldapobbnpaaGreatDoorBase
namespace Go.Proofs.YtdpkldapobbnpaaGreatDoor
set_option linter.unusedVariables false
set_option linter.unusedSimpArgs false
open Go.RowKit
end Go.Proofs.YtdpkldapobbnpaaGreatDoor
