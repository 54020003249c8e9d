/- What stays, where a range over a function writes a few blocks. Conditions: none here. -/
import Derived.Test.YtimhhefngigfeaaVmIn
set_option linter.unusedVariables false
set_option linter.unusedSimpArgs false
namespace Go.Proofs.Ytimhhefngigfeaa.Vm
open Go Go.RowKit
section
variable {P : Program} {A : Ctx} {w0 : World} {F : NS} {γ : GM} {s : St} {a : Act} {w : World}
end
end Go.Proofs.Ytimhhefngigfeaa.Vm
