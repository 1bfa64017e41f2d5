/- The facts of the program's functions, and the contracts of the reference's tokens and parser; conditions stand in each contract. -/
import Derived.Test.YtejfagblpbmokaaDoorRunTwo
import Derived.Test.YtejfagblpbmokaaDoorParserOne
set_option linter.all false
set_option linter.unusedVariables false
set_option linter.unusedSimpArgs false
set_option linter.unusedSectionVars false

/- Closed runs: the table of functions in short (printed by mktab.py). -/
namespace Go.Aug
open Go.Proofs
set_option maxRecDepth 100000
end Go.Aug
