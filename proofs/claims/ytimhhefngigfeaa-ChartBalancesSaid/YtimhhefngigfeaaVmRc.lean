/- A function with a deferred closure that recovers a panic. Conditions: the program follows the model's mixed orders. -/
import Derived.Test.YtimhhefngigfeaaVmX
import Derived.Recover
set_option linter.unusedVariables false
set_option linter.unusedSimpArgs false
namespace Go.Proofs.Ytimhhefngigfeaa.Vm
open Go Go.RowKit

section
variable {P : Program} {env : FuncId → Option Spec} {lenv : Nat → Option LS}
end
end Go.Proofs.Ytimhhefngigfeaa.Vm
