/-
  The table of the Types laws.
-/
import Derived.Test.YtbkiekkconlebaaTyLit
import Derived.Test.YtbkiekkconlebaaM4
import Derived.Test.YtbkiekkconlebaaM4
set_option linter.all false
namespace Go.VM
open Go
def primTy : FuncId → Option (List D → Unit → Option (D × Unit))
  | 152 => some cmpP
  | _ => none
def TT : Tab Unit := ⟨codeTy, primTy, fun _ => none, shTy⟩
end Go.VM
