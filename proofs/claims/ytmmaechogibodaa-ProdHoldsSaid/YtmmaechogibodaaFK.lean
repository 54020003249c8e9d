import Derived.WalkKit
import Derived.TacticsInMore
import Derived.RegionIn
import Derived.Shelf.Abstract
import Derived.Test.YtmmaechogibodaaVmY
import Derived.Test.YtmmaechogibodaaVmRc
import Derived.Test.YtmmaechogibodaaVmCl
import Derived.Test.YtmmaechogibodaaProg
import Derived.Test.YtmmaechogibodaaVmRg
import Derived.Test.YtmmaechogibodaaFA
import Derived.Test.YtmmaechogibodaaFB
import Derived.Test.YtmmaechogibodaaFV
import Derived.Test.YtmmaechogibodaaFC
import Derived.Test.YtmmaechogibodaaFD
import Derived.Test.YtmmaechogibodaaFE
import Derived.Test.YtmmaechogibodaaFG
import Derived.Test.YtmmaechogibodaaFH
import Derived.Test.YtmmaechogibodaaFI
import Derived.Test.YtmmaechogibodaaFJ
namespace Go.Proofs.Ytmmaechogibodaa.F
open Go Go.Proofs.Ytmmaechogibodaa.Vm
set_option maxRecDepth 1000000
set_option linter.unusedVariables false
set_option linter.unusedSimpArgs false
noncomputable section
namespace At
theorem backward_calls {n : Nat} (a : Option Addr) (l c : Nat) (W : World) : CallsIn Fence.wide n P 29 #[.slice a l c] W fun e w' => e = .returned (.func (.func 33) #[] #[.pointer (some ⟨W.heap.size, 0, none⟩)]) ∧ w' = W.alloc (.cells #[.slice a l c] 51) := by
  refine callsIn_of_wp Go.Proofs.Try.func29 rfl trivial ?_ rfl
  simp only [Go.Proofs.Try.f29, List.size_toArray, List.length_cons, List.length_nil, Nat.reduceAdd, Nat.reduceSub, Array.replicate_succ, Array.replicate_zero, List.push_toArray, List.append_toArray, List.nil_append, List.cons_append]
  gi_wp2
  go_ret
  exact ⟨rfl, rfl⟩
theorem enters33 : ∀ (args : Array Value) (w : World), (callFunc 33 args).run P w = .ok (.enter 33 args) w := enters_of Go.Proofs.Try.func33 (by kernel_rfl) rfl
end At
end
end Go.Proofs.Ytmmaechogibodaa.F
