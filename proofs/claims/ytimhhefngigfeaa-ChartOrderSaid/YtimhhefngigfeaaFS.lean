import Derived.Test.YtimhhefngigfeaaVmY
import Derived.Test.YtimhhefngigfeaaVmRc
import Derived.Test.YtimhhefngigfeaaVmMq
import Derived.Test.YtimhhefngigfeaaProg
import Derived.Test.YtimhhefngigfeaaFO
namespace Go.Proofs.Ytimhhefngigfeaa.F
open Go Go.Proofs.Ytimhhefngigfeaa.Vm
set_option maxRecDepth 1000000
set_option linter.unusedVariables false
set_option linter.unusedSimpArgs false
noncomputable section
def law13_ChartOrder_l23_pre : Vm.Pat := ⟨136, [(13, .pv (.one (.recs [.i64, .i64, .i64, .u64, .i64] false))), (16, .pv (.one (.recs [.i64, .i64, .i64, .u64, .i64] true))), (105, .pv (.one (.recs [.i64, .i64, .i64, .u64, .i64] false))), (106, .pv (.one (.int .i64))), (107, .pv (.one (.int .i64))), (9, .box 0 0)], [.cells [.map [.i64, .i64] [.i64, .u64, .i64], .int .i64]], []⟩
def law13_ChartOrder_l23_post0 : Vm.Pat := ⟨136, [(13, .pv (.one (.recs [.i64, .i64, .i64, .u64, .i64] false))), (16, .pv (.one (.recs [.i64, .i64, .i64, .u64, .i64] true))), (9, .box 0 0)], [.cells [.map [.i64, .i64] [.i64, .u64, .i64], .int .i64]], []⟩
def law13_ChartOrder_l23_enc0 : List (List Int) × List (List Int) × List (List Int × List Int) × Int → List U := fun r => [.rr r.1, .rr r.2.1, .m r.2.2.1, .i r.2.2.2]
def law13_ChartOrder_l23_dec0 : List U → Option (List (List Int) × List (List Int) × List (List Int × List Int) × Int) := fun u => match u with | [.rr q13, .rr q16, .m m9_0, .i x9_1] => some (q13, q16, m9_0, x9_1) | _ => none
def law13_ChartOrder_l23_post1 : Vm.Pat := ⟨136, [(8, .pv (.one (.bool)))], [], []⟩
def law13_ChartOrder_l23_enc1 : Bool → List U := fun r => [.b r]
def law13_ChartOrder_l23_dec1 : List U → Option (Bool) := fun u => match u with | [.b c8] => some (c8) | _ => none
def law13_ChartOrder_l23 (K : Nat) : Nat → List (List Int) → List (List Int) → List (List Int) → Int → Int → List (List Int × List Int) → Int → Option ((List (List Int) × List (List Int) × List (List Int × List Int) × Int) ⊕ (Bool))
 | 0, _, _, _, _, _, _, _ => none
 | k + 1, q13, q16, q105, x106, x107, m9_0, x9_1 => (bi (decide (x107 < x106))
 (bi (decide (0 ≤ x107) && decide (x107 < (↑q105.length : Int)))
 ((dec_Neg K
 (nth 0 (nth [] q105 x107.toNat) 2)
 (nth 0 (nth [] q105 x107.toNat) 3)
 (nth 0 (nth [] q105 x107.toNat) 4)).bind fun r0 => (bi (r0.snd.snd.snd != 0)
 (some (Sum.inr Bool.false))
 (bi (decide (q16.length + 1 ≤ 3518437208883))
 (law13_ChartOrder_l23 K k (q13) (q16 ++
 [[nth 0 (nth [] q105 x107.toNat) 0,
 nth 0 (nth [] q105 x107.toNat) 1, r0.fst, r0.snd.fst,
 r0.snd.snd.fst]]) (q105) (x106) (IntKind.i64.wrap (x107 + 1)) (m9_0) (x9_1))
 none)))
 none)
 (some (Sum.inl (q13, q16, m9_0, x9_1))))
def law13_ChartOrder_l23_w (K k : Nat) : List U → Option ((List (List Int) × List (List Int) × List (List Int × List Int) × Int) ⊕ (Bool)) := fun us => match us with | [.rr q13, .rr q16, .rr q105, .i x106, .i x107, .m m9_0, .i x9_1] => law13_ChartOrder_l23 K k q13 q16 q105 x106 x107 m9_0 x9_1 | _ => none
theorem law13_ChartOrder_l23_eq (K k : Nat) (q13 : List (List Int)) (q16 : List (List Int)) (q105 : List (List Int)) (x106 : Int) (x107 : Int) (m9_0 : List (List Int × List Int)) (x9_1 : Int) : (round2K Try.prog (env_law13_awake K) (lenv0) (lp (bodyOf Try.f5) 1) law13_ChartOrder_l23_pre (.exit 2) law13_ChartOrder_l23_post0 .ret law13_ChartOrder_l23_post1 law13_ChartOrder_l23_dec0 law13_ChartOrder_l23_dec1 (law13_ChartOrder_l23_w K k) [.rr q13, .rr q16, .rr q105, .i x106, .i x107, .m m9_0, .i x9_1]).den2 = law13_ChartOrder_l23 K (k + 1) q13 q16 q105 x106 x107 m9_0 x9_1 := by kernel_rfl
def law13_ChartOrder_l23_s (K : Nat) : Vm.LS := .two law13_ChartOrder_l23_pre _ _ (.exit 2) law13_ChartOrder_l23_post0 .ret law13_ChartOrder_l23_post1 (law13_ChartOrder_l23_w K K) law13_ChartOrder_l23_enc0 law13_ChartOrder_l23_enc1
theorem law13_ChartOrder_l23_ok (K : Nat) : LoopOk Try.prog (lp (bodyOf Try.f5) 1) (law13_ChartOrder_l23_s K) := loop_twoK hmix (env_law13_awake_ok K) (lenv := lenv0) (L := law13_ChartOrder_l23_w K) (enc := law13_ChartOrder_l23_enc0) (dec := law13_ChartOrder_l23_dec0) (enc' := law13_ChartOrder_l23_enc1) (dec' := law13_ChartOrder_l23_dec1) (lps_ok (l := []) (by kernel_rfl) trivial) (fun u r h => by unfold law13_ChartOrder_l23_dec0 at h; split at h; (cases h; rfl); cases h) (fun u r h => by unfold law13_ChartOrder_l23_dec1 at h; split at h; (cases h; rfl); cases h) (fun us => by unfold law13_ChartOrder_l23_w; split <;> first | rfl | (simp only [law13_ChartOrder_l23])) (fun k us r h => by unfold law13_ChartOrder_l23_w at h; split at h; exact ((den2_eq _).symm.trans (law13_ChartOrder_l23_eq K k _ _ _ _ _ _ _)).trans h; cases h) K
def law13_ChartOrder_v23 (K : Nat) : Nat → Option Vm.LS := addL (lenv0) 23 (law13_ChartOrder_l23_s K)
def law13_ChartOrder_l5_pre : Vm.Pat := ⟨136, [(1, .pv (.one (.recs [.i64, .i64, .i64, .u64, .i64] false))), (2, .pv (.one (.int .i64))), (3, .pv (.one (.int .i64))), (25, .pv (.one (.ro [.sl [.int .i64, .int .i64, .int .i64, .int .u64, .int .i64]]))), (26, .pv (.one (.int .i64))), (27, .pv (.one (.int .i64))), (9, .box 0 0), (10, .box 1 0)], [.cells [.map [.i64, .i64] [.i64, .u64, .i64], .int .i64], .cells [.map [.i64, .i64] [.i64, .u64, .i64], .int .i64]], []⟩
def law13_ChartOrder_l5_post0 : Vm.Pat := ⟨136, [(1, .pv (.one (.recs [.i64, .i64, .i64, .u64, .i64] false))), (2, .pv (.one (.int .i64))), (3, .pv (.one (.int .i64))), (9, .box 0 0), (10, .box 1 0)], [.cells [.map [.i64, .i64] [.i64, .u64, .i64], .int .i64], .cells [.map [.i64, .i64] [.i64, .u64, .i64], .int .i64]], []⟩
def law13_ChartOrder_l5_enc0 : List (List Int) × Int × Int × List (List Int × List Int) × Int × List (List Int × List Int) × Int → List U := fun r => [.rr r.1, .i r.2.1, .i r.2.2.1, .m r.2.2.2.1, .i r.2.2.2.2.1, .m r.2.2.2.2.2.1, .i r.2.2.2.2.2.2]
def law13_ChartOrder_l5_dec0 : List U → Option (List (List Int) × Int × Int × List (List Int × List Int) × Int × List (List Int × List Int) × Int) := fun u => match u with | [.rr q1, .i x2, .i x3, .m m9_0, .i x9_1, .m m10_0, .i x10_1] => some (q1, x2, x3, m9_0, x9_1, m10_0, x10_1) | _ => none
def law13_ChartOrder_l5 (K : Nat) : Nat → List (List Int) → Int → Int → List (List D) → Int → Int → List (List Int × List Int) → Int → List (List Int × List Int) → Int → Option (List (List Int) × Int × Int × List (List Int × List Int) × Int × List (List Int × List Int) × Int)
 | 0, _, _, _, _, _, _, _, _, _, _ => none
 | k + 1, q1, x2, x3, dd25, x26, x27, m9_0, x9_1, m10_0, x10_1 => (bi (decide (x27 < x26))
 (bi (decide (0 ≤ x27) && decide (x27 < (↑dd25.length : Int)))
 (bi (decide (x27 ≥ 20))
 (some ((q1, x2, x3, m9_0, x9_1, m10_0, x10_1)))
 (bi (decide
 (0 +
 (List.map
 (fun r =>
 [(nth d0 r 0).toI,
 (nth d0 r 1).toI,
 (nth d0 r 2).toI,
 (nth d0 r 3).toI,
 (nth d0 r 4).toI])
 (nth d0
 (nth [] dd25 x27.toNat) 0).toL).length ≤
 3518437208883))
 ((cL_Post K m9_0 x9_1
 ([] ++
 List.map
 (fun r =>
 [(nth d0 r 0).toI,
 (nth d0 r 1).toI,
 (nth d0 r 2).toI,
 (nth d0 r 3).toI,
 (nth d0 r 4).toI])
 (nth d0
 (nth [] dd25 x27.toNat) 0).toL)).bind fun r0 => (bi (decide
 (0 +
 (List.map
 (fun r =>
 [(nth d0 r 0).toI,
 (nth d0 r 1).toI,
 (nth d0 r 2).toI,
 (nth d0 r 3).toI,
 (nth d0 r 4).toI])
 (nth d0
 (nth [] dd25 x27.toNat) 0).toL).length ≤
 3518437208883))
 ((cL_Post K m10_0 x10_1
 ([] ++
 List.map
 (fun r =>
 [(nth d0 r 0).toI,
 (nth d0 r 1).toI,
 (nth d0 r 2).toI,
 (nth d0 r 3).toI,
 (nth d0 r 4).toI])
 (nth d0
 (nth [] dd25 x27.toNat) 0).toL)).bind fun r1 => (law13_ChartOrder_l5 K k (q1) (x2) (x3) ((D.l dd25).toL) (x26) (IntKind.i64.wrap (x27 + 1)) (r0.snd.fst) (r0.snd.snd) (r1.snd.fst) (r1.snd.snd)))
 none))
 none))
 none)
 (some ((q1, x2, x3, m9_0, x9_1, m10_0, x10_1))))
def law13_ChartOrder_l5_w (K k : Nat) : List U → Option (List (List Int) × Int × Int × List (List Int × List Int) × Int × List (List Int × List Int) × Int) := fun us => match us with | [.rr q1, .i x2, .i x3, .d dd25, .i x26, .i x27, .m m9_0, .i x9_1, .m m10_0, .i x10_1] => law13_ChartOrder_l5 K k q1 x2 x3 dd25 x26 x27 m9_0 x9_1 m10_0 x10_1 | _ => none
theorem law13_ChartOrder_l5_eq (K k : Nat) (q1 : List (List Int)) (x2 : Int) (x3 : Int) (dd25 : List (List D)) (x26 : Int) (x27 : Int) (m9_0 : List (List Int × List Int)) (x9_1 : Int) (m10_0 : List (List Int × List Int)) (x10_1 : Int) : (round1K Try.prog (env_law13_awake K) (law13_ChartOrder_v23 K) (lp (bodyOf Try.f5) 0) law13_ChartOrder_l5_pre (.exit 0) law13_ChartOrder_l5_post0 law13_ChartOrder_l5_dec0 (law13_ChartOrder_l5_w K k) [.rr q1, .i x2, .i x3, .d dd25, .i x26, .i x27, .m m9_0, .i x9_1, .m m10_0, .i x10_1]).den2 = law13_ChartOrder_l5 K (k + 1) q1 x2 x3 dd25 x26 x27 m9_0 x9_1 m10_0 x10_1 := by kernel_rfl
def law13_ChartOrder_l5_s (K : Nat) : Vm.LS := .one law13_ChartOrder_l5_pre _ (.exit 0) law13_ChartOrder_l5_post0 (law13_ChartOrder_l5_w K K) law13_ChartOrder_l5_enc0
theorem law13_ChartOrder_l5_ok (K : Nat) : LoopOk Try.prog (lp (bodyOf Try.f5) 0) (law13_ChartOrder_l5_s K) := loop_oneK hmix (env_law13_awake_ok K) (lenv := law13_ChartOrder_v23 K) (L := law13_ChartOrder_l5_w K) (enc := law13_ChartOrder_l5_enc0) (dec := law13_ChartOrder_l5_dec0) (lps_ok (l := []) (by kernel_rfl) trivial) (fun u r h => by unfold law13_ChartOrder_l5_dec0 at h; split at h; (cases h; rfl); cases h) (fun us => by unfold law13_ChartOrder_l5_w; split <;> first | rfl | (simp only [law13_ChartOrder_l5])) (fun k us r h => by unfold law13_ChartOrder_l5_w at h; split at h; exact ((den2_eq _).symm.trans (law13_ChartOrder_l5_eq K k _ _ _ _ _ _ _ _ _ _)).trans h; cases h) K
def law13_ChartOrder_v5 (K : Nat) : Nat → Option Vm.LS := addL (law13_ChartOrder_v23 K) 5 (law13_ChartOrder_l5_s K)
def law13_ChartOrder_dec : List U → Option (Bool) := fun u => match u with | [.b c0] => some (c0) | _ => none
def law13_ChartOrder_enc : (Bool) → List U := fun r => [.b r]
def law13_ChartOrder (K : Nat) (dd0 : List (List D)) (q1 : List (List Int)) (x2 : Int) (x3 : Int) : Option (Bool) := ((law13_awake K).bind fun r0 => (bi (!r0)
 (some Bool.false)
 ((chart_New K).bind fun r1 => ((chart_New K).bind fun r2 => ((law13_ChartOrder_l5 K K q1 x2 x3 (D.l dd0).toL
 (↑dd0.length : Int) 0 r1.fst r1.snd r2.fst r2.snd).bind fun r3 => ((cL_Trial K r3.snd.snd.snd.fst r3.snd.snd.snd.snd.fst).bind fun r4 => (bi (decide (0 + r3.fst.length ≤ 3518437208883))
 (bi (decide ((↑([] ++ r3.fst).length : Int) > 0))
 (bi (decide (IntKind.u64.wrap (↑([] ++ r3.fst).length : Int) = 0))
 none
 (bi (decide (IntKind.u64.wrap (↑([] ++ r3.fst).length : Int) = 0))
 none
 (bi (decide
 (0 ≤
 IntKind.i64.wrap
 ((IntKind.u64.wrap r3.snd.snd.fst).tmod (IntKind.u64.wrap (↑([] ++ r3.fst).length : Int)))) &&
 decide
 (IntKind.i64.wrap
 ((IntKind.u64.wrap r3.snd.snd.fst).tmod (IntKind.u64.wrap (↑([] ++ r3.fst).length : Int))) <
 (↑([] ++ r3.fst).length : Int)))
 (bi (decide
 (0 ≤
 IntKind.i64.wrap
 ((IntKind.u64.wrap r3.snd.fst).tmod (IntKind.u64.wrap (↑([] ++ r3.fst).length : Int)))) &&
 decide
 (IntKind.i64.wrap ((IntKind.u64.wrap r3.snd.fst).tmod (IntKind.u64.wrap (↑([] ++ r3.fst).length : Int))) <
 (↑([] ++ r3.fst).length : Int)))
 (bi (decide
 (0 ≤
 IntKind.i64.wrap
 ((IntKind.u64.wrap r3.snd.fst).tmod (IntKind.u64.wrap (↑([] ++ r3.fst).length : Int)))) &&
 decide
 (IntKind.i64.wrap ((IntKind.u64.wrap r3.snd.fst).tmod (IntKind.u64.wrap (↑([] ++ r3.fst).length : Int))) <
 (↑([] ++ r3.fst).length : Int)))
 (bi (decide
 (0 ≤
 IntKind.i64.wrap
 ((IntKind.u64.wrap r3.snd.snd.fst).tmod (IntKind.u64.wrap (↑([] ++ r3.fst).length : Int)))) &&
 decide
 (IntKind.i64.wrap
 ((IntKind.u64.wrap r3.snd.snd.fst).tmod (IntKind.u64.wrap (↑([] ++ r3.fst).length : Int))) <
 (↑(([] ++ r3.fst).set
 (IntKind.i64.wrap
 ((IntKind.u64.wrap r3.snd.fst).tmod (IntKind.u64.wrap (↑([] ++ r3.fst).length : Int)))).toNat
 [nth 0
 (nth [] ([] ++ r3.fst)
 (IntKind.i64.wrap
 ((IntKind.u64.wrap r3.snd.snd.fst).tmod
 (IntKind.u64.wrap (↑([] ++ r3.fst).length : Int)))).toNat)
 0,
 nth 0
 (nth [] ([] ++ r3.fst)
 (IntKind.i64.wrap
 ((IntKind.u64.wrap r3.snd.snd.fst).tmod
 (IntKind.u64.wrap (↑([] ++ r3.fst).length : Int)))).toNat)
 1,
 nth 0
 (nth [] ([] ++ r3.fst)
 (IntKind.i64.wrap
 ((IntKind.u64.wrap r3.snd.snd.fst).tmod
 (IntKind.u64.wrap (↑([] ++ r3.fst).length : Int)))).toNat)
 2,
 nth 0
 (nth [] ([] ++ r3.fst)
 (IntKind.i64.wrap
 ((IntKind.u64.wrap r3.snd.snd.fst).tmod
 (IntKind.u64.wrap (↑([] ++ r3.fst).length : Int)))).toNat)
 3,
 nth 0
 (nth [] ([] ++ r3.fst)
 (IntKind.i64.wrap
 ((IntKind.u64.wrap r3.snd.snd.fst).tmod
 (IntKind.u64.wrap (↑([] ++ r3.fst).length : Int)))).toNat)
 4]).length :
 Int)))
 (bi (decide (0 + r3.fst.length ≤ 3518437208883))
 ((cL_Post K r4.snd.fst r4.snd.snd ([] ++ r3.fst)).bind fun r5 => ((cL_Post K r3.snd.snd.snd.snd.snd.fst r3.snd.snd.snd.snd.snd.snd
 ((([] ++ r3.fst).set
 (IntKind.i64.wrap
 ((IntKind.u64.wrap r3.snd.fst).tmod (IntKind.u64.wrap (↑([] ++ r3.fst).length : Int)))).toNat
 [nth 0
 (nth [] ([] ++ r3.fst)
 (IntKind.i64.wrap
 ((IntKind.u64.wrap r3.snd.snd.fst).tmod
 (IntKind.u64.wrap (↑([] ++ r3.fst).length : Int)))).toNat)
 0,
 nth 0
 (nth [] ([] ++ r3.fst)
 (IntKind.i64.wrap
 ((IntKind.u64.wrap r3.snd.snd.fst).tmod
 (IntKind.u64.wrap (↑([] ++ r3.fst).length : Int)))).toNat)
 1,
 nth 0
 (nth [] ([] ++ r3.fst)
 (IntKind.i64.wrap
 ((IntKind.u64.wrap r3.snd.snd.fst).tmod
 (IntKind.u64.wrap (↑([] ++ r3.fst).length : Int)))).toNat)
 2,
 nth 0
 (nth [] ([] ++ r3.fst)
 (IntKind.i64.wrap
 ((IntKind.u64.wrap r3.snd.snd.fst).tmod
 (IntKind.u64.wrap (↑([] ++ r3.fst).length : Int)))).toNat)
 3,
 nth 0
 (nth [] ([] ++ r3.fst)
 (IntKind.i64.wrap
 ((IntKind.u64.wrap r3.snd.snd.fst).tmod
 (IntKind.u64.wrap (↑([] ++ r3.fst).length : Int)))).toNat)
 4]).set
 (IntKind.i64.wrap
 ((IntKind.u64.wrap r3.snd.snd.fst).tmod (IntKind.u64.wrap (↑([] ++ r3.fst).length : Int)))).toNat
 [nth 0
 (nth [] ([] ++ r3.fst)
 (IntKind.i64.wrap
 ((IntKind.u64.wrap r3.snd.fst).tmod (IntKind.u64.wrap (↑([] ++ r3.fst).length : Int)))).toNat)
 0,
 nth 0
 (nth [] ([] ++ r3.fst)
 (IntKind.i64.wrap
 ((IntKind.u64.wrap r3.snd.fst).tmod (IntKind.u64.wrap (↑([] ++ r3.fst).length : Int)))).toNat)
 1,
 nth 0
 (nth [] ([] ++ r3.fst)
 (IntKind.i64.wrap
 ((IntKind.u64.wrap r3.snd.fst).tmod (IntKind.u64.wrap (↑([] ++ r3.fst).length : Int)))).toNat)
 2,
 nth 0
 (nth [] ([] ++ r3.fst)
 (IntKind.i64.wrap
 ((IntKind.u64.wrap r3.snd.fst).tmod (IntKind.u64.wrap (↑([] ++ r3.fst).length : Int)))).toNat)
 3,
 nth 0
 (nth [] ([] ++ r3.fst)
 (IntKind.i64.wrap
 ((IntKind.u64.wrap r3.snd.fst).tmod (IntKind.u64.wrap (↑([] ++ r3.fst).length : Int)))).toNat)
 4])).bind fun r6 => (bi (r5.fst != r6.fst)
 (some Bool.false)
 ((cL_Trial K r5.snd.fst r5.snd.snd).bind fun r7 => ((cL_Trial K r6.snd.fst r6.snd.snd).bind fun r8 => ((ref13_Same K r7.fst
 (D.l
 (List.map
 (fun r =>
 [D.i (nth 0 r 0),
 D.i (nth 0 r 1),
 D.i (nth 0 r 2),
 D.i (nth 0 r 3),
 D.i (nth 0 r 4)])
 r8.fst)).toL).bind fun r9 => (bi (!r9)
 (some Bool.false)
 (bi (r5.fst != 0)
 ((cL_Trial K r7.snd.fst r7.snd.snd).bind fun r10 => ((ref13_Same K r10.fst
 (D.l
 (List.map
 (fun r =>
 [D.i (nth 0 r 0),
 D.i (nth 0 r 1),
 D.i (nth 0 r 2),
 D.i (nth 0 r 3),
 D.i (nth 0 r 4)])
 r4.fst)).toL).bind fun r11 => (some r11)))
 (casO (law13_ChartOrder_l23 K K r4.fst [] r3.fst (↑r3.fst.length : Int) 0 r7.snd.fst r7.snd.snd) (fun r12 => ((cL_Post K r12.snd.snd.fst r12.snd.snd.snd r12.snd.fst).bind fun r13 => (bi (r13.fst == 0)
 ((cL_Trial K r13.snd.fst r13.snd.snd).bind fun r14 => ((ref13_Same K r14.fst
 (D.l
 (List.map
 (fun r =>
 [D.i (nth 0 r 0),
 D.i (nth 0 r 1),
 D.i (nth 0 r 2),
 D.i (nth 0 r 3),
 D.i (nth 0 r 4)])
 r12.fst)).toL).bind fun r15 => (some r15)))
 (some Bool.false)))) (fun r16 => (some r16)))))))))))
 none)
 none)
 none)
 none)
 none)))
 (bi (decide (0 + r3.fst.length ≤ 3518437208883))
 ((cL_Post K r4.snd.fst r4.snd.snd ([] ++ r3.fst)).bind fun r17 => ((cL_Post K r3.snd.snd.snd.snd.snd.fst r3.snd.snd.snd.snd.snd.snd ([] ++ r3.fst)).bind fun r18 => (bi (r17.fst != r18.fst)
 (some Bool.false)
 ((cL_Trial K r17.snd.fst r17.snd.snd).bind fun r19 => ((cL_Trial K r18.snd.fst r18.snd.snd).bind fun r20 => ((ref13_Same K r19.fst
 (D.l
 (List.map
 (fun r =>
 [D.i (nth 0 r 0),
 D.i (nth 0 r 1),
 D.i (nth 0 r 2),
 D.i (nth 0 r 3),
 D.i (nth 0 r 4)])
 r20.fst)).toL).bind fun r21 => (bi (!r21)
 (some Bool.false)
 (bi (r17.fst != 0)
 ((cL_Trial K r19.snd.fst r19.snd.snd).bind fun r22 => ((ref13_Same K r22.fst
 (D.l
 (List.map
 (fun r =>
 [D.i (nth 0 r 0),
 D.i (nth 0 r 1),
 D.i (nth 0 r 2),
 D.i (nth 0 r 3),
 D.i (nth 0 r 4)])
 r4.fst)).toL).bind fun r23 => (some r23)))
 (casO (law13_ChartOrder_l23 K K r4.fst [] r3.fst (↑r3.fst.length : Int) 0 r19.snd.fst r19.snd.snd) (fun r24 => ((cL_Post K r24.snd.snd.fst r24.snd.snd.snd r24.snd.fst).bind fun r25 => (bi (r25.fst == 0)
 ((cL_Trial K r25.snd.fst r25.snd.snd).bind fun r26 => ((ref13_Same K r26.fst
 (D.l
 (List.map
 (fun r =>
 [D.i (nth 0 r 0),
 D.i (nth 0 r 1),
 D.i (nth 0 r 2),
 D.i (nth 0 r 3),
 D.i (nth 0 r 4)])
 r24.fst)).toL).bind fun r27 => (some r27)))
 (some Bool.false)))) (fun r28 => (some r28)))))))))))
 none))
 none)))))))
theorem law13_ChartOrder_eq (K : Nat) (dd0 : List (List D)) (q1 : List (List Int)) (x2 : Int) (x3 : Int) : (runFK Try.prog (env_law13_awake K) (law13_ChartOrder_v5 K) Try.f5 [.one (.ro [.sl [.int .i64, .int .i64, .int .i64, .int .u64, .int .i64]]), .one (.recs [.i64, .i64, .i64, .u64, .i64] false), .one (.int .i64), .one (.int .i64)] [.one (.bool)] law13_ChartOrder_dec [.d dd0, .rr q1, .i x2, .i x3]).den2 = law13_ChartOrder K dd0 q1 x2 x3 := by kernel_rfl
def law13_ChartOrder_w (K : Nat) : List U → Option (Bool) := fun us => match us with | [.d dd0, .rr q1, .i x2, .i x3] => law13_ChartOrder K dd0 q1 x2 x3 | _ => none
def law13_ChartOrder_spec (K : Nat) : Vm.Spec := ⟨[.one (.ro [.sl [.int .i64, .int .i64, .int .i64, .int .u64, .int .i64]]), .one (.recs [.i64, .i64, .i64, .u64, .i64] false), .one (.int .i64), .one (.int .i64)], [.one (.bool)], Bool, law13_ChartOrder_w K, law13_ChartOrder_enc⟩
theorem law13_ChartOrder_ok (K : Nat) : FnOk Try.prog 5 (law13_ChartOrder_spec K) := fn_okK' hmix (env_law13_awake_ok K) (lenv := law13_ChartOrder_v5 K) (args := [.one (.ro [.sl [.int .i64, .int .i64, .int .i64, .int .u64, .int .i64]]), .one (.recs [.i64, .i64, .i64, .u64, .i64] false), .one (.int .i64), .one (.int .i64)]) (res := [.one (.bool)]) (G := law13_ChartOrder_w K) (enc := law13_ChartOrder_enc) Try.func5 (lps_fn (l := [lp (bodyOf Try.f5) 0, lp (bodyOf Try.f5) 1]) (by kernel_rfl) ⟨⟨5, law13_ChartOrder_l5_s K, by kernel_rfl, by kernel_rfl, law13_ChartOrder_l5_ok K⟩, ⟨⟨23, law13_ChartOrder_l23_s K, by kernel_rfl, by kernel_rfl, law13_ChartOrder_l23_ok K⟩, trivial⟩⟩) (dec := law13_ChartOrder_dec) (fun u r h => by unfold law13_ChartOrder_dec at h; split at h; (cases h; rfl); cases h) (fun us r h => by unfold law13_ChartOrder_w at h; split at h; exact ((den2_eq _).symm.trans (law13_ChartOrder_eq K _ _ _ _)).trans h; cases h)
def env_law13_ChartOrder (K : Nat) : FuncId → Option Vm.Spec := addS (env_law13_awake K) 5 (law13_ChartOrder_spec K)
theorem env_law13_ChartOrder_ok (K : Nat) : EnvOk Try.prog (env_law13_ChartOrder K) := addS_ok (env_law13_awake_ok K) (.inl ⟨callable Try.func5 (by kernel_rfl) (by kernel_rfl), law13_ChartOrder_ok K⟩)
end
end Go.Proofs.Ytimhhefngigfeaa.F
