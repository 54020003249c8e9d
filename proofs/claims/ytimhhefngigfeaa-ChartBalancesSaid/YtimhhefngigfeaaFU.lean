import Derived.Test.YtimhhefngigfeaaVmY
import Derived.Test.YtimhhefngigfeaaVmRc
import Derived.Test.YtimhhefngigfeaaVmMq
import Derived.Test.YtimhhefngigfeaaProg
import Derived.Test.YtimhhefngigfeaaFM
namespace Go.Proofs.Ytimhhefngigfeaa.F
open Go Go.Proofs.Ytimhhefngigfeaa.Vm
set_option maxRecDepth 1000000
set_option linter.unusedVariables false
set_option linter.unusedSimpArgs false
noncomputable section
def law13_ChartBalances_l5_pre : Vm.Pat := ⟨148, [(1, .pv (.one (.int .i64))), (2, .pv (.one (.int .i64))), (29, .pv (.one (.ro [.sl [.int .i64, .int .i64, .int .i64, .int .u64, .int .i64]]))), (30, .pv (.one (.int .i64))), (31, .pv (.one (.int .i64))), (7, .box 0 0), (8, .mem 1 0 RLs)], [.cells [.map [.i64, .i64] [.i64, .u64, .i64], .int .i64], .mem RLs], []⟩
def law13_ChartBalances_l5_post0 : Vm.Pat := ⟨148, [(1, .pv (.one (.int .i64))), (2, .pv (.one (.int .i64))), (7, .box 0 0), (8, .mem 1 0 RLs)], [.cells [.map [.i64, .i64] [.i64, .u64, .i64], .int .i64], .mem RLs], []⟩
def law13_ChartBalances_l5_enc0 : Int × Int × MpT × Int × List D → List U := fun r => [.i r.1, .i r.2.1, .m r.2.2.1, .i r.2.2.2.1, .ds r.2.2.2.2]
def law13_ChartBalances_l5_dec0 : List U → Option (Int × Int × MpT × Int × List D) := fun | [.i x1, .i x2, .m m7_0, .i x7_1, .ds e8] => some (x1, x2, m7_0, x7_1, e8) | _ => none
def law13_ChartBalances_l5 (K : Nat) : Nat → Int → Int → List (List D) → Int → Int → MpT → Int → List D → Option (Int × Int × MpT × Int × List D)
 | 0, _, _, _, _, _, _, _, _ => none
 | k + 1, x1, x2, dd29, x30, x31, m7_0, x7_1, e8 => (bi (decide (x31 < x30))
 (bi (decide (0 ≤ x31) && decide (x31 < (↑dd29.length : Int)))
 (bi (decide (x31 ≥ 30))
 (some ((x1, x2, m7_0, x7_1, e8)))
 (bi (decide
 (0 +
 (List.map
 (fun r =>
 [(nth d0 r 0).toI,
 (nth d0 r 1).toI,
 (nth d0 r 2).toI,
 (nth d0 r 3).toI,
 (nth d0 r 4).toI])
 (nth d0
 (nth [] dd29 x31.toNat) 0).toL).length ≤
 3518437208883))
 ((cL_Post K m7_0 x7_1
 ([] ++
 List.map
 (fun r =>
 [(nth d0 r 0).toI,
 (nth d0 r 1).toI,
 (nth d0 r 2).toI,
 (nth d0 r 3).toI,
 (nth d0 r 4).toI])
 (nth d0
 (nth [] dd29 x31.toNat) 0).toL)).bind fun r0 => ((r13_DocPost K e8
 (D.l
 (nth d0
 (nth [] dd29 x31.toNat) 0).toL).toL).bind fun r1 => (law13_ChartBalances_l5 K k (x1) (x2) ((D.l dd29).toL) (x30) (IntKind.i64.wrap (x31 + 1)) (r0.snd.fst) (r0.snd.snd) (r1.snd))))
 none))
 none)
 (some ((x1, x2, m7_0, x7_1, e8))))
def law13_ChartBalances_l5_w (K k : Nat) : List U → Option (Int × Int × MpT × Int × List D) := fun | [.i x1, .i x2, .d dd29, .i x30, .i x31, .m m7_0, .i x7_1, .ds e8] => law13_ChartBalances_l5 K k x1 x2 dd29 x30 x31 m7_0 x7_1 e8 | _ => none
theorem law13_ChartBalances_l5_eq (K k : Nat) (x1 : Int) (x2 : Int) (dd29 : List (List D)) (x30 : Int) (x31 : Int) (m7_0 : MpT) (x7_1 : Int) (e8 : List D) : (round1K Try.prog (env_cL_Total_ro K) (lenv0) (lp (bodyOf Try.f7) 0) law13_ChartBalances_l5_pre (.exit 0) law13_ChartBalances_l5_post0 law13_ChartBalances_l5_dec0 (law13_ChartBalances_l5_w K k) [.i x1, .i x2, .d dd29, .i x30, .i x31, .m m7_0, .i x7_1, .ds e8]).den2 = law13_ChartBalances_l5 K (k + 1) x1 x2 dd29 x30 x31 m7_0 x7_1 e8 := by kernel_rfl
def law13_ChartBalances_l5_s (K : Nat) : Vm.LS := .one law13_ChartBalances_l5_pre _ (.exit 0) law13_ChartBalances_l5_post0 (law13_ChartBalances_l5_w K K) law13_ChartBalances_l5_enc0
theorem law13_ChartBalances_l5_ok (K : Nat) : LoopOk Try.prog (lp (bodyOf Try.f7) 0) (law13_ChartBalances_l5_s K) := loop_oneK hmix (env_cL_Total_ro_ok K) (lenv := lenv0) (L := law13_ChartBalances_l5_w K) (enc := law13_ChartBalances_l5_enc0) (dec := law13_ChartBalances_l5_dec0) (lps_ok (l := []) (by kernel_rfl) trivial) (fun u r h => by unfold law13_ChartBalances_l5_dec0 at h; split at h; (cases h; rfl); cases h) (fun us => by unfold law13_ChartBalances_l5_w; split <;> first | rfl | (simp only [law13_ChartBalances_l5])) (fun k us r h => by unfold law13_ChartBalances_l5_w at h; split at h; exact ((den2_eq _).symm.trans (law13_ChartBalances_l5_eq K k _ _ _ _ _ _ _ _)).trans h; cases h) K
def law13_ChartBalances_v5 (K : Nat) : Nat → Option Vm.LS := addL (lenv0) 5 (law13_ChartBalances_l5_s K)
def law13_ChartBalances_dec : List U → Option (Bool) := fun | [.b c0] => some (c0) | _ => none
def law13_ChartBalances_enc : (Bool) → List U := fun r => [.b r]
def law13_ChartBalances (K : Nat) (dd0 : List (List D)) (x1 : Int) (x2 : Int) : Option (Bool) := ((law13_awake K).bind fun r0 => (bi (!r0)
 (some false)
 ((ct_New K).bind fun r1 => ((law13_ChartBalances_l5 K K x1 x2 (D.l dd0).toL
 (↑dd0.length : Int) 0 r1.fst r1.snd
 [D.b false, D.l [],
 D.b false, D.l [],
 D.b false, D.l [],
 D.b false, D.l [],
 D.b false, D.l [],
 D.b false, D.l [],
 D.b false, D.l [],
 D.b false, D.l [],
 D.b false, D.l [],
 D.b false, D.l [],
 D.b false, D.l [],
 D.b false, D.l [],
 D.b false, D.l [],
 D.b false, D.l [],
 D.b false, D.l [],
 D.b false, D.l [],
 D.b false, D.l [],
 D.b false, D.l [],
 D.b false, D.l [],
 D.b false, D.l [],
 D.b false, D.l [],
 D.b false, D.l [],
 D.b false, D.l [],
 D.b false, D.l [],
 D.b false, D.l [],
 D.b false, D.l [],
 D.b false, D.l [],
 D.b false, D.l [],
 D.b false, D.l [],
 D.b false, D.l [],
 D.b false, D.l [],
 D.b false, D.l [],
 D.b false, D.l [],
 D.b false, D.l [],
 D.b false, D.l [],
 D.b false, D.l [],
 D.i 0]).bind fun r2 => ((cL_Balance K r2.snd.snd.fst r2.snd.snd.snd.fst r2.fst r2.snd.fst).bind fun r3 => ((r13_DocBalance K r2.snd.snd.snd.snd r2.fst r2.snd.fst).bind fun r4 => ((cL_Balance_ro K r2.fst r2.snd.fst).bind fun r5 => ((r13_DocBalance_ro K r2.fst r2.snd.fst).bind fun r6 => ((cL_Total K r3.snd.snd.snd.snd.fst r3.snd.snd.snd.snd.snd r2.snd.fst).bind fun r7 => ((cL_Total_ro K r2.snd.fst).bind fun r8 => (bi (!(r3.fst == r4.fst && (r3.snd.fst == r4.snd.fst && (r3.snd.snd.fst == r4.snd.snd.fst && true))))
 (some false)
 (bi (r3.snd.snd.snd.fst != r4.snd.snd.snd.fst)
 (some false)
 (bi (!(r5.fst == r6.fst && (r5.snd.fst == r6.snd.fst && (r5.snd.snd.fst == r6.snd.snd.fst && true))))
 (some false)
 (bi (r5.snd.snd.snd != r6.snd.snd.snd)
 (some false)
 ((cL_Trial_ro K).bind fun r9 => (bi ((↑(List.length r9) : Int) != 0)
 (some false)
 ((cL_Entries_ro K).bind fun r10 => (bi (r10 != 0)
 (some false)
 (bi (!(r8.fst == 0 && (r8.snd.fst == 0 && (r8.snd.snd.fst == 0 && true))))
 (some false)
 (bi (decide (r2.snd.fst < 0))
 (bi (r7.snd.snd.snd.fst == 1)
 (bi (r8.snd.snd.snd == 1)
 (some (r7.fst == 0 && (r7.snd.fst == 0 && (r7.snd.snd.fst == 0 && true))))
 (some false))
 (some false))
 (bi (decide (r2.snd.fst > 3))
 (bi (r7.snd.snd.snd.fst == 1)
 (bi (r8.snd.snd.snd == 1)
 (some (r7.fst == 0 && (r7.snd.fst == 0 && (r7.snd.snd.fst == 0 && true))))
 (some false))
 (some false))
 (bi (r7.snd.snd.snd.fst == 0)
 (bi (r8.snd.snd.snd == 7)
 (some (r7.fst == 0 && (r7.snd.fst == 0 && (r7.snd.snd.fst == 12 && true))))
 (some false))
 (some false)))))))))))))))))))))))
theorem law13_ChartBalances_eq (K : Nat) (dd0 : List (List D)) (x1 : Int) (x2 : Int) : (runFK Try.prog (env_cL_Total_ro K) (law13_ChartBalances_v5 K) Try.f7 [.one (.ro [.sl [.int .i64, .int .i64, .int .i64, .int .u64, .int .i64]]), .one (.int .i64), .one (.int .i64)] [.one (.bool)] law13_ChartBalances_dec [.d dd0, .i x1, .i x2]).den2 = law13_ChartBalances K dd0 x1 x2 := by kernel_rfl
def law13_ChartBalances_w (K : Nat) : List U → Option (Bool) := fun | [.d dd0, .i x1, .i x2] => law13_ChartBalances K dd0 x1 x2 | _ => none
def law13_ChartBalances_spec (K : Nat) : Vm.Spec := ⟨[.one (.ro [.sl [.int .i64, .int .i64, .int .i64, .int .u64, .int .i64]]), .one (.int .i64), .one (.int .i64)], [.one (.bool)], Bool, law13_ChartBalances_w K, law13_ChartBalances_enc⟩
theorem law13_ChartBalances_ok (K : Nat) : FnOk Try.prog 7 (law13_ChartBalances_spec K) := fn_okK' hmix (env_cL_Total_ro_ok K) (lenv := law13_ChartBalances_v5 K) (args := [.one (.ro [.sl [.int .i64, .int .i64, .int .i64, .int .u64, .int .i64]]), .one (.int .i64), .one (.int .i64)]) (res := [.one (.bool)]) (G := law13_ChartBalances_w K) (enc := law13_ChartBalances_enc) Try.func7 (lps_fn (l := [lp (bodyOf Try.f7) 0]) (by kernel_rfl) ⟨⟨5, law13_ChartBalances_l5_s K, by kernel_rfl, by kernel_rfl, law13_ChartBalances_l5_ok K⟩, trivial⟩) (dec := law13_ChartBalances_dec) (fun u r h => by unfold law13_ChartBalances_dec at h; split at h; (cases h; rfl); cases h) (fun us r h => by unfold law13_ChartBalances_w at h; split at h; exact ((den2_eq _).symm.trans (law13_ChartBalances_eq K _ _ _)).trans h; cases h)
def env_law13_ChartBalances (K : Nat) : FuncId → Option Vm.Spec := addS (env_cL_Total_ro K) 7 (law13_ChartBalances_spec K)
theorem env_law13_ChartBalances_ok (K : Nat) : EnvOk Try.prog (env_law13_ChartBalances K) := addS_ok (env_cL_Total_ro_ok K) (.inl ⟨callable Try.func7 (by kernel_rfl) (by kernel_rfl), law13_ChartBalances_ok K⟩)
end
end Go.Proofs.Ytimhhefngigfeaa.F
