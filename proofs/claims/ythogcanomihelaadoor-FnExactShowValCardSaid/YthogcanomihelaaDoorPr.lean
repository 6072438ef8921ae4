/- The one library function that is taken by its contract: strconv.Itoa. -/
import Derived.Test.YthogcanomihelaaDoorAe1
import Derived.Lib.ItoaNum
set_option linter.unusedSimpArgs false
set_option linter.unusedVariables false
namespace Go.Proofs.YthogcanomihelaaDoor.Ae
open Go
def prim : CallT := fun f args s => match f, args with
  | 43, [.int .i64 n] => if -9223372036854775808 ≤ n ∧ n ≤ 9223372036854775807 then some (.str ⟨(Lib.itoa n).toArray⟩, s) else none
  | _, _ => none
end Go.Proofs.YthogcanomihelaaDoor.Ae
