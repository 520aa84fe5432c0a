/- Contracts of TypePermutation (spec) and what it calls. -/
import Derived.Test.YtcbhdmmohdnjbaaGreatTypS
import Derived.Test.YtcbhdmmohdnjbaaGreatBase
namespace Go.Proofs.YtcbhdmmohdnjbaaGreat
set_option linter.unusedVariables false
set_option linter.unusedSimpArgs false
open Go.RowKit
end Go.Proofs.YtcbhdmmohdnjbaaGreat
