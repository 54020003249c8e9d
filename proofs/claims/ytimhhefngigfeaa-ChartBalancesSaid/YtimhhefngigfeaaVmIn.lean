/- Code walked in a fence: within a round of a range over a function too. Conditions: no deferred calls in it. -/
import Derived.Test.YtimhhefngigfeaaVmY
import Derived.RangeFuncLeaves
import Derived.RangeFuncRecord
import Derived.OrdersIn
import Derived.TacticsIn
set_option linter.unusedVariables false
set_option linter.unusedSimpArgs false
namespace Go.Proofs.Ytimhhefngigfeaa.Vm
open Go Go.RowKit
def wr (r : Option Nat) : Fence := { Fence.wide with round := r }
section
variable {P : Program} {A : Ctx} {w0 : World} {F : NS} {γ : GM} {s : St} {a : Act} {w : World}
end
end Go.Proofs.Ytimhhefngigfeaa.Vm
