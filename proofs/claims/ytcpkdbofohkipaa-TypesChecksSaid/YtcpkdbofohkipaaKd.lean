/- The compilation: what is fixed. -/
import Derived.Test.YtcpkdbofohkipaaKAmFn
import Derived.Test.YtcpkdbofohkipaaChecked
import Derived.KernelRfl
set_option linter.unusedVariables false
set_option linter.unusedSimpArgs false
namespace Go.Proofs.Ytcpkdbofohkipaa
open Go.AM
/-- Functions that leave all memory as it is. -/
def quiet (f : FuncId) : Bool := [74].contains f
theorem mixed : Try.prog.follows .mixedOrders = true := by kernel_rfl
end Go.Proofs.Ytcpkdbofohkipaa
