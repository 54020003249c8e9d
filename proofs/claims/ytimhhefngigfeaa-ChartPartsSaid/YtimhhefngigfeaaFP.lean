import Derived.Test.YtimhhefngigfeaaVmY
import Derived.Test.YtimhhefngigfeaaVmRc
import Derived.Test.YtimhhefngigfeaaVmMq
import Derived.Test.YtimhhefngigfeaaProg
import Derived.Test.YtimhhefngigfeaaFO
namespace Go.Proofs.Ytimhhefngigfeaa.F
open Go Go.Proofs.Ytimhhefngigfeaa.Vm
set_option maxRecDepth 1000000
set_option linter.unusedVariables false
set_option linter.unusedSimpArgs false
noncomputable section
def law13_ChartParts_dec : List U → Option (Bool) := fun u => match u with | [.b c0] => some (c0) | _ => none
def law13_ChartParts_enc : (Bool) → List U := fun r => [.b r]
def law13_ChartParts (K : Nat) (q0 : List (List Int)) (q1 : List (List Int)) : Option (Bool) := ((law13_awake K).bind fun r0 => (bi (!r0)
 (some Bool.false)
 ((chart_New K).bind fun r1 => ((chart_New K).bind fun r2 => (bi (Bool.true && decide (0 ≤ if 8 < (↑q0.length : Int) then 8 else (↑q0.length : Int)) &&
 decide ((if 8 < (↑q0.length : Int) then 8 else (↑q0.length : Int)) ≤ (↑q0.length : Int)))
 (bi (Bool.true && decide (0 ≤ if 8 < (↑q1.length : Int) then 8 else (↑q1.length : Int)) &&
 decide ((if 8 < (↑q1.length : Int) then 8 else (↑q1.length : Int)) ≤ (↑q1.length : Int)))
 (bi (decide
 (0 + (List.take ((if 8 < (↑q0.length : Int) then 8 else (↑q0.length : Int)).toNat - 0) (List.drop 0 q0)).length ≤
 3518437208883))
 ((cL_Post K r1.fst r1.snd
 ([] ++ List.take ((if 8 < (↑q0.length : Int) then 8 else (↑q0.length : Int)).toNat - 0) (List.drop 0 q0))).bind fun r3 => (bi (r3.fst != 0)
 (some Bool.true)
 (bi (decide
 (0 + (List.take ((if 8 < (↑q1.length : Int) then 8 else (↑q1.length : Int)).toNat - 0) (List.drop 0 q1)).length ≤
 3518437208883))
 ((cL_Post K r3.snd.fst r3.snd.snd
 ([] ++ List.take ((if 8 < (↑q1.length : Int) then 8 else (↑q1.length : Int)).toNat - 0) (List.drop 0 q1))).bind fun r4 => (bi (r4.fst != 0)
 (some Bool.true)
 (bi (decide
 (0 + (List.take ((if 8 < (↑q0.length : Int) then 8 else (↑q0.length : Int)).toNat - 0) (List.drop 0 q0)).length ≤
 3518437208883))
 (bi (decide
 (([] ++ List.take ((if 8 < (↑q0.length : Int) then 8 else (↑q0.length : Int)).toNat - 0) (List.drop 0 q0)).length +
 (List.take ((if 8 < (↑q1.length : Int) then 8 else (↑q1.length : Int)).toNat - 0) (List.drop 0 q1)).length ≤
 3518437208883))
 ((cL_Post K r2.fst r2.snd
 ([] ++ List.take ((if 8 < (↑q0.length : Int) then 8 else (↑q0.length : Int)).toNat - 0) (List.drop 0 q0) ++
 List.take ((if 8 < (↑q1.length : Int) then 8 else (↑q1.length : Int)).toNat - 0) (List.drop 0 q1))).bind fun r5 => (bi (r5.fst == 0)
 ((cL_Trial K r4.snd.fst r4.snd.snd).bind fun r6 => ((cL_Trial K r5.snd.fst r5.snd.snd).bind fun r7 => ((ref13_Same K r6.fst
 (D.l
 (List.map
 (fun r =>
 [D.i (nth 0 r 0),
 D.i (nth 0 r 1),
 D.i (nth 0 r 2),
 D.i (nth 0 r 3),
 D.i (nth 0 r 4)])
 r7.fst)).toL).bind fun r8 => (bi (r8)
 ((cL_Entries K r6.snd.fst r6.snd.snd).bind fun r9 => (bi (r9.fst == 2)
 ((cL_Entries K r7.snd.fst r7.snd.snd).bind fun r10 => (some (r10.fst == 1)))
 (some Bool.false)))
 (some Bool.false)))))
 (some Bool.false)))
 none)
 none)))
 none)))
 none)
 none)
 none)))))
theorem law13_ChartParts_eq (K : Nat) (q0 : List (List Int)) (q1 : List (List Int)) : (runFK Try.prog (env_law13_awake K) (lenv0) Try.f6 [.one (.recs [.i64, .i64, .i64, .u64, .i64] false), .one (.recs [.i64, .i64, .i64, .u64, .i64] false)] [.one (.bool)] law13_ChartParts_dec [.rr q0, .rr q1]).den2 = law13_ChartParts K q0 q1 := by kernel_rfl
def law13_ChartParts_w (K : Nat) : List U → Option (Bool) := fun us => match us with | [.rr q0, .rr q1] => law13_ChartParts K q0 q1 | _ => none
def law13_ChartParts_spec (K : Nat) : Vm.Spec := ⟨[.one (.recs [.i64, .i64, .i64, .u64, .i64] false), .one (.recs [.i64, .i64, .i64, .u64, .i64] false)], [.one (.bool)], Bool, law13_ChartParts_w K, law13_ChartParts_enc⟩
theorem law13_ChartParts_ok (K : Nat) : FnOk Try.prog 6 (law13_ChartParts_spec K) := fn_okK' hmix (env_law13_awake_ok K) (lenv := lenv0) (args := [.one (.recs [.i64, .i64, .i64, .u64, .i64] false), .one (.recs [.i64, .i64, .i64, .u64, .i64] false)]) (res := [.one (.bool)]) (G := law13_ChartParts_w K) (enc := law13_ChartParts_enc) Try.func6 (lps_fn (l := []) (by kernel_rfl) trivial) (dec := law13_ChartParts_dec) (fun u r h => by unfold law13_ChartParts_dec at h; split at h; (cases h; rfl); cases h) (fun us r h => by unfold law13_ChartParts_w at h; split at h; exact ((den2_eq _).symm.trans (law13_ChartParts_eq K _ _)).trans h; cases h)
def env_law13_ChartParts (K : Nat) : FuncId → Option Vm.Spec := addS (env_law13_awake K) 6 (law13_ChartParts_spec K)
theorem env_law13_ChartParts_ok (K : Nat) : EnvOk Try.prog (env_law13_ChartParts K) := addS_ok (env_law13_awake_ok K) (.inl ⟨callable Try.func6 (by kernel_rfl) (by kernel_rfl), law13_ChartParts_ok K⟩)
end
end Go.Proofs.Ytimhhefngigfeaa.F
