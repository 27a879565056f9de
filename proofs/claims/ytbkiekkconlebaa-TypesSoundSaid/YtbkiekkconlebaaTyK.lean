/-
  The fixed calls of the Types laws, reckoned by the kernel.
-/
import Derived.Test.YtbkiekkconlebaaTyT
import Derived.KernelRfl
set_option linter.all false
set_option maxRecDepth 1000000
namespace Go.VM
open Go
theorem fixed_k : (callK TT 100 30).pure 14 [] () = some (.bool true, ()) := by kernel_rfl
theorem fixed_true : (callL TT).pure 14 [] () = some (.bool true, ()) := call_kern 100 30 fixed_k
end Go.VM
