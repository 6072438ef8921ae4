/- What is asked of the world in which all begins: the library's table of powers of ten reads as it is laid. -/
import Derived.Calls
import Derived.Test.YthogcanomihelaaDoorProg
set_option linter.unusedSimpArgs false
set_option linter.unusedVariables false
namespace Go.Proofs.YthogcanomihelaaDoor.Ae
open Go
def WGood (w : World) : Prop := w.var? Tryd.prog "internal/strconv.uint64pow10" = some (((List.range 20).map fun i => ((10 ^ i : Nat) : Int)).map fun z => Value.int .u64 z).toArray
end Go.Proofs.YthogcanomihelaaDoor.Ae
