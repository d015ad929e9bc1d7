/- The compilation: what is fixed. -/
import Derived.Test.YtcpkdbofohkipaaGreatK05
import Derived.Test.YtcpkdbofohkipaaGreatChecked
import Derived.KernelRfl
set_option linter.unusedVariables false
set_option linter.unusedSimpArgs false
namespace Go.Proofs.YtcpkdbofohkipaaGreat
open Go.AM
/-- Functions that leave all memory as it is. -/
def quiet (f : FuncId) : Bool := [148].contains f
theorem mixed : Tryz.prog.follows .mixedOrders = true := by kernel_rfl
end Go.Proofs.YtcpkdbofohkipaaGreat
