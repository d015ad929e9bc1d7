/- The compilation: what is fixed. -/
import Derived.Test.YtghidedifiolbaaGreatK05
import Derived.Test.YtghidedifiolbaaGreatChecked
import Derived.KernelRfl
set_option linter.unusedVariables false
set_option linter.unusedSimpArgs false
namespace Go.Proofs.YtghidedifiolbaaGreat
open Go.AM
/-- Functions that leave all memory as it is. -/
def quiet (f : FuncId) : Bool := [149].contains f
theorem mixed : Tryz.prog.follows .mixedOrders = true := by kernel_rfl
end Go.Proofs.YtghidedifiolbaaGreat
