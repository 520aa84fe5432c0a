/- Ours: what arguments of this program's types read as. -/
import Derived.Test.YtefbbbhidnnchaaZ14G
import Derived.Test.YtefbbbhidnnchaaZ14A
namespace Go.Proofs.Ytefbbbhidnnchaa
set_option linter.unusedVariables false
set_option linter.unusedSimpArgs false
open Go.RowKit

end Go.Proofs.Ytefbbbhidnnchaa
