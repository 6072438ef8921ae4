/- What is asked of the world in which all begins: nothing. -/
import Derived.Calls
set_option linter.unusedSimpArgs false
set_option linter.unusedVariables false
namespace Go.Proofs.Ythogcanomihelaa.Ae
open Go
def WGood (_ : World) : Prop := True
end Go.Proofs.Ythogcanomihelaa.Ae
