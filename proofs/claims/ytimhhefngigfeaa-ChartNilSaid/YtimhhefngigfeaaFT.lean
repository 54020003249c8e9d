import Derived.Test.YtimhhefngigfeaaVmY
import Derived.Test.YtimhhefngigfeaaVmRc
import Derived.Test.YtimhhefngigfeaaVmMq
import Derived.Test.YtimhhefngigfeaaProg
import Derived.Test.YtimhhefngigfeaaFN
namespace Go.Proofs.Ytimhhefngigfeaa.F
open Go Go.Proofs.Ytimhhefngigfeaa.Vm
set_option maxRecDepth 1000000
set_option linter.unusedVariables false
set_option linter.unusedSimpArgs false
noncomputable section
def law13_ChartNil_dec : List U → Option (Bool) := fun u => match u with | [.b c0] => some (c0) | _ => none
def law13_ChartNil_enc : (Bool) → List U := fun r => [.b r]
def law13_ChartNil (K : Nat) (q0 : List (List Int)) : Option (Bool) := ((law13_awake K).bind fun r0 => (bi (r0)
 (bi (decide (0 + q0.length ≤ 3518437208883))
 ((cL_Post_ro K ([] ++ q0)).bind fun r1 => ((ref13_DocPost_ro K
 (D.l
 (List.map
 (fun r =>
 [D.i (nth 0 r 0),
 D.i (nth 0 r 1),
 D.i (nth 0 r 2),
 D.i (nth 0 r 3),
 D.i (nth 0 r 4)])
 q0)).toL).bind fun r2 => (some (r1 == r2))))
 none)
 (some Bool.false)))
theorem law13_ChartNil_eq (K : Nat) (q0 : List (List Int)) : (runFK Try.prog (env_ref13_DocPost_ro K) (lenv0) Try.f4 [.one (.recs [.i64, .i64, .i64, .u64, .i64] false)] [.one (.bool)] law13_ChartNil_dec [.rr q0]).den2 = law13_ChartNil K q0 := by kernel_rfl
def law13_ChartNil_w (K : Nat) : List U → Option (Bool) := fun us => match us with | [.rr q0] => law13_ChartNil K q0 | _ => none
def law13_ChartNil_spec (K : Nat) : Vm.Spec := ⟨[.one (.recs [.i64, .i64, .i64, .u64, .i64] false)], [.one (.bool)], Bool, law13_ChartNil_w K, law13_ChartNil_enc⟩
theorem law13_ChartNil_ok (K : Nat) : FnOk Try.prog 4 (law13_ChartNil_spec K) := fn_okK' hmix (env_ref13_DocPost_ro_ok K) (lenv := lenv0) (args := [.one (.recs [.i64, .i64, .i64, .u64, .i64] false)]) (res := [.one (.bool)]) (G := law13_ChartNil_w K) (enc := law13_ChartNil_enc) Try.func4 (lps_fn (l := []) (by kernel_rfl) trivial) (dec := law13_ChartNil_dec) (fun u r h => by unfold law13_ChartNil_dec at h; split at h; (cases h; rfl); cases h) (fun us r h => by unfold law13_ChartNil_w at h; split at h; exact ((den2_eq _).symm.trans (law13_ChartNil_eq K _)).trans h; cases h)
def env_law13_ChartNil (K : Nat) : FuncId → Option Vm.Spec := addS (env_ref13_DocPost_ro K) 4 (law13_ChartNil_spec K)
theorem env_law13_ChartNil_ok (K : Nat) : EnvOk Try.prog (env_law13_ChartNil K) := addS_ok (env_ref13_DocPost_ro_ok K) (.inl ⟨callable Try.func4 (by kernel_rfl) (by kernel_rfl), law13_ChartNil_ok K⟩)
end
end Go.Proofs.Ytimhhefngigfeaa.F
