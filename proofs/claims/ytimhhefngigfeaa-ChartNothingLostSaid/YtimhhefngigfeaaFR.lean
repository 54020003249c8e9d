import Derived.Test.YtimhhefngigfeaaVmY
import Derived.Test.YtimhhefngigfeaaVmRc
import Derived.Test.YtimhhefngigfeaaVmMq
import Derived.Test.YtimhhefngigfeaaProg
import Derived.Test.YtimhhefngigfeaaFO
namespace Go.Proofs.Ytimhhefngigfeaa.F
open Go Go.Proofs.Ytimhhefngigfeaa.Vm
set_option maxRecDepth 1000000
set_option linter.unusedVariables false
set_option linter.unusedSimpArgs false
noncomputable section
def law13_ChartNothingLost_l16_pre : Vm.Pat := ⟨77, [(6, .pv (.one (.int .i64))), (8, .pv (.one (.int .i64))), (32, .pv (.one (.int .i64))), (43, .pv (.one (.recs [.i64, .i64, .i64, .u64, .i64] false))), (44, .pv (.one (.int .i64))), (45, .pv (.one (.int .i64))), (3, .box 0 0), (7, .box 1 0), (9, .box 2 0)], [.cells [.map [.i64, .i64] [.i64, .u64, .i64], .int .i64], .cells [.int .i64, .int .u64, .int .i64], .cells [.int .i64, .int .u64, .int .i64]], []⟩
def law13_ChartNothingLost_l16_post0 : Vm.Pat := ⟨77, [(8, .pv (.one (.int .i64))), (32, .pv (.one (.int .i64))), (3, .box 0 0), (7, .box 1 0), (9, .box 2 0)], [.cells [.map [.i64, .i64] [.i64, .u64, .i64], .int .i64], .cells [.int .i64, .int .u64, .int .i64], .cells [.int .i64, .int .u64, .int .i64]], []⟩
def law13_ChartNothingLost_l16_enc0 : Int × Int × List (List Int × List Int) × Int × Int × Int × Int × Int × Int × Int → List U := fun r => [.i r.1, .i r.2.1, .m r.2.2.1, .i r.2.2.2.1, .i r.2.2.2.2.1, .i r.2.2.2.2.2.1, .i r.2.2.2.2.2.2.1, .i r.2.2.2.2.2.2.2.1, .i r.2.2.2.2.2.2.2.2.1, .i r.2.2.2.2.2.2.2.2.2]
def law13_ChartNothingLost_l16_dec0 : List U → Option (Int × Int × List (List Int × List Int) × Int × Int × Int × Int × Int × Int × Int) := fun u => match u with | [.i x8, .i x32, .m m3_0, .i x3_1, .i x7_0, .i x7_1, .i x7_2, .i x9_0, .i x9_1, .i x9_2] => some (x8, x32, m3_0, x3_1, x7_0, x7_1, x7_2, x9_0, x9_1, x9_2) | _ => none
def law13_ChartNothingLost_l16_post1 : Vm.Pat := ⟨77, [(2, .pv (.one (.bool)))], [], []⟩
def law13_ChartNothingLost_l16_enc1 : Bool → List U := fun r => [.b r]
def law13_ChartNothingLost_l16_dec1 : List U → Option (Bool) := fun u => match u with | [.b c2] => some (c2) | _ => none
def law13_ChartNothingLost_l16 (K : Nat) : Nat → Int → Int → Int → List (List Int) → Int → Int → List (List Int × List Int) → Int → Int → Int → Int → Int → Int → Int → Option ((Int × Int × List (List Int × List Int) × Int × Int × Int × Int × Int × Int × Int) ⊕ (Bool))
 | 0, _, _, _, _, _, _, _, _, _, _, _, _, _, _ => none
 | k + 1, x6, x8, x32, q43, x44, x45, m3_0, x3_1, x7_0, x7_1, x7_2, x9_0, x9_1, x9_2 => (bi (decide (x45 < x44))
 (bi (decide (0 ≤ x45) && decide (x45 < (↑q43.length : Int)))
 (bi (nth 0 (nth [] q43 x45.toNat) 1 == x6)
 ((dec_Add K x9_0 x9_1 x9_2
 (nth 0 (nth [] q43 x45.toNat) 2)
 (nth 0 (nth [] q43 x45.toNat) 3)
 (nth 0 (nth [] q43 x45.toNat) 4)).bind fun r0 => (bi (r0.snd.snd.snd != 0)
 (some (Sum.inr Bool.false))
 (law13_ChartNothingLost_l16 K k (x6) (x8) (x32) (q43) (x44) (IntKind.i64.wrap (x45 + 1)) (m3_0) (x3_1) (x7_0) (x7_1) (x7_2) (r0.fst) (r0.snd.fst) (r0.snd.snd.fst))))
 (law13_ChartNothingLost_l16 K k (x6) (x8) (x32) (q43) (x44) (IntKind.i64.wrap (x45 + 1)) (m3_0) (x3_1) (x7_0) (x7_1) (x7_2) (x9_0) (x9_1) (x9_2)))
 none)
 (some (Sum.inl (x8, x32, m3_0, x3_1, x7_0, x7_1, x7_2, x9_0, x9_1, x9_2))))
def law13_ChartNothingLost_l16_w (K k : Nat) : List U → Option ((Int × Int × List (List Int × List Int) × Int × Int × Int × Int × Int × Int × Int) ⊕ (Bool)) := fun us => match us with | [.i x6, .i x8, .i x32, .rr q43, .i x44, .i x45, .m m3_0, .i x3_1, .i x7_0, .i x7_1, .i x7_2, .i x9_0, .i x9_1, .i x9_2] => law13_ChartNothingLost_l16 K k x6 x8 x32 q43 x44 x45 m3_0 x3_1 x7_0 x7_1 x7_2 x9_0 x9_1 x9_2 | _ => none
theorem law13_ChartNothingLost_l16_eq (K k : Nat) (x6 : Int) (x8 : Int) (x32 : Int) (q43 : List (List Int)) (x44 : Int) (x45 : Int) (m3_0 : List (List Int × List Int)) (x3_1 : Int) (x7_0 : Int) (x7_1 : Int) (x7_2 : Int) (x9_0 : Int) (x9_1 : Int) (x9_2 : Int) : (round2K Try.prog (env_law13_awake K) (lenv0) (lp (lp (bodyOf Try.f8) 1) 0) law13_ChartNothingLost_l16_pre (.exit 4) law13_ChartNothingLost_l16_post0 .ret law13_ChartNothingLost_l16_post1 law13_ChartNothingLost_l16_dec0 law13_ChartNothingLost_l16_dec1 (law13_ChartNothingLost_l16_w K k) [.i x6, .i x8, .i x32, .rr q43, .i x44, .i x45, .m m3_0, .i x3_1, .i x7_0, .i x7_1, .i x7_2, .i x9_0, .i x9_1, .i x9_2]).den2 = law13_ChartNothingLost_l16 K (k + 1) x6 x8 x32 q43 x44 x45 m3_0 x3_1 x7_0 x7_1 x7_2 x9_0 x9_1 x9_2 := by kernel_rfl
def law13_ChartNothingLost_l16_s (K : Nat) : Vm.LS := .two law13_ChartNothingLost_l16_pre _ _ (.exit 4) law13_ChartNothingLost_l16_post0 .ret law13_ChartNothingLost_l16_post1 (law13_ChartNothingLost_l16_w K K) law13_ChartNothingLost_l16_enc0 law13_ChartNothingLost_l16_enc1
theorem law13_ChartNothingLost_l16_ok (K : Nat) : LoopOk Try.prog (lp (lp (bodyOf Try.f8) 1) 0) (law13_ChartNothingLost_l16_s K) := loop_twoK hmix (env_law13_awake_ok K) (lenv := lenv0) (L := law13_ChartNothingLost_l16_w K) (enc := law13_ChartNothingLost_l16_enc0) (dec := law13_ChartNothingLost_l16_dec0) (enc' := law13_ChartNothingLost_l16_enc1) (dec' := law13_ChartNothingLost_l16_dec1) (lps_ok (l := []) (by kernel_rfl) trivial) (fun u r h => by unfold law13_ChartNothingLost_l16_dec0 at h; split at h; (cases h; rfl); cases h) (fun u r h => by unfold law13_ChartNothingLost_l16_dec1 at h; split at h; (cases h; rfl); cases h) (fun us => by unfold law13_ChartNothingLost_l16_w; split <;> first | rfl | (simp only [law13_ChartNothingLost_l16])) (fun k us r h => by unfold law13_ChartNothingLost_l16_w at h; split at h; exact ((den2_eq _).symm.trans (law13_ChartNothingLost_l16_eq K k _ _ _ _ _ _ _ _ _ _ _ _ _ _)).trans h; cases h) K
def law13_ChartNothingLost_v16 (K : Nat) : Nat → Option Vm.LS := addL (lenv0) 16 (law13_ChartNothingLost_l16_s K)
def law13_ChartNothingLost_l11_pre : Vm.Pat := ⟨77, [(32, .pv (.one (.int .i64))), (3, .box 0 0)], [.cells [.map [.i64, .i64] [.i64, .u64, .i64], .int .i64]], []⟩
def law13_ChartNothingLost_l11_post0 : Vm.Pat := ⟨77, [], [], []⟩
def law13_ChartNothingLost_l11_enc0 : Unit → List U := fun _ => []
def law13_ChartNothingLost_l11_dec0 : List U → Option (Unit) := fun u => match u with | [] => some () | _ => none
def law13_ChartNothingLost_l11_post1 : Vm.Pat := ⟨77, [(2, .pv (.one (.bool)))], [], []⟩
def law13_ChartNothingLost_l11_enc1 : Bool → List U := fun r => [.b r]
def law13_ChartNothingLost_l11_dec1 : List U → Option (Bool) := fun u => match u with | [.b c2] => some (c2) | _ => none
def law13_ChartNothingLost_l11 (K : Nat) : Nat → Int → List (List Int × List Int) → Int → Option ((Unit) ⊕ (Bool))
 | 0, _, _, _ => none
 | k + 1, x32, m3_0, x3_1 => (bi (decide (x32 < 4))
 ((cL_Total K m3_0 x3_1 x32).bind fun r0 => ((cL_Trial K r0.snd.snd.snd.snd.fst r0.snd.snd.snd.snd.snd).bind fun r1 => (casO (law13_ChartNothingLost_l16 K K x32 r0.snd.snd.snd.fst x32 r1.fst (↑r1.fst.length : Int) 0
 r1.snd.fst r1.snd.snd r0.fst r0.snd.fst r0.snd.snd.fst 0 0 12) (fun r2 => (bi (r2.fst != 0)
 (some (Sum.inr Bool.false))
 (bi (!(r2.snd.snd.snd.snd.fst == 0 &&
 (r2.snd.snd.snd.snd.snd.fst == 0 && (r2.snd.snd.snd.snd.snd.snd.fst == 12 && Bool.true))))
 (some (Sum.inr Bool.false))
 (bi (!(r2.snd.snd.snd.snd.snd.snd.snd.fst == r2.snd.snd.snd.snd.fst &&
 (r2.snd.snd.snd.snd.snd.snd.snd.snd.fst == r2.snd.snd.snd.snd.snd.fst &&
 (r2.snd.snd.snd.snd.snd.snd.snd.snd.snd == r2.snd.snd.snd.snd.snd.snd.fst && Bool.true))))
 (some (Sum.inr Bool.false))
 (law13_ChartNothingLost_l11 K k (IntKind.i64.wrap (r2.snd.fst + 1)) (r2.snd.snd.fst) (r2.snd.snd.snd.fst)))))) (fun r3 => (some (Sum.inr r3))))))
 (some (Sum.inl ())))
def law13_ChartNothingLost_l11_w (K k : Nat) : List U → Option ((Unit) ⊕ (Bool)) := fun us => match us with | [.i x32, .m m3_0, .i x3_1] => law13_ChartNothingLost_l11 K k x32 m3_0 x3_1 | _ => none
theorem law13_ChartNothingLost_l11_eq (K k : Nat) (x32 : Int) (m3_0 : List (List Int × List Int)) (x3_1 : Int) : (round2K Try.prog (env_law13_awake K) (law13_ChartNothingLost_v16 K) (lp (bodyOf Try.f8) 1) law13_ChartNothingLost_l11_pre (.exit 2) law13_ChartNothingLost_l11_post0 .ret law13_ChartNothingLost_l11_post1 law13_ChartNothingLost_l11_dec0 law13_ChartNothingLost_l11_dec1 (law13_ChartNothingLost_l11_w K k) [.i x32, .m m3_0, .i x3_1]).den2 = law13_ChartNothingLost_l11 K (k + 1) x32 m3_0 x3_1 := by kernel_rfl
def law13_ChartNothingLost_l11_s (K : Nat) : Vm.LS := .two law13_ChartNothingLost_l11_pre _ _ (.exit 2) law13_ChartNothingLost_l11_post0 .ret law13_ChartNothingLost_l11_post1 (law13_ChartNothingLost_l11_w K K) law13_ChartNothingLost_l11_enc0 law13_ChartNothingLost_l11_enc1
theorem law13_ChartNothingLost_l11_ok (K : Nat) : LoopOk Try.prog (lp (bodyOf Try.f8) 1) (law13_ChartNothingLost_l11_s K) := loop_twoK hmix (env_law13_awake_ok K) (lenv := law13_ChartNothingLost_v16 K) (L := law13_ChartNothingLost_l11_w K) (enc := law13_ChartNothingLost_l11_enc0) (dec := law13_ChartNothingLost_l11_dec0) (enc' := law13_ChartNothingLost_l11_enc1) (dec' := law13_ChartNothingLost_l11_dec1) (lps_ok (l := [lp (lp (bodyOf Try.f8) 1) 0]) (by kernel_rfl) ⟨⟨16, law13_ChartNothingLost_l16_s K, by kernel_rfl, by kernel_rfl, law13_ChartNothingLost_l16_ok K⟩, trivial⟩) (fun u r h => by unfold law13_ChartNothingLost_l11_dec0 at h; split at h; (cases h; rfl); cases h) (fun u r h => by unfold law13_ChartNothingLost_l11_dec1 at h; split at h; (cases h; rfl); cases h) (fun us => by unfold law13_ChartNothingLost_l11_w; split <;> first | rfl | (simp only [law13_ChartNothingLost_l11])) (fun k us r h => by unfold law13_ChartNothingLost_l11_w at h; split at h; exact ((den2_eq _).symm.trans (law13_ChartNothingLost_l11_eq K k _ _ _)).trans h; cases h) K
def law13_ChartNothingLost_v11 (K : Nat) : Nat → Option Vm.LS := addL (law13_ChartNothingLost_v16 K) 11 (law13_ChartNothingLost_l11_s K)
def law13_ChartNothingLost_l5_pre : Vm.Pat := ⟨77, [(17, .pv (.one (.ro [.sl [.int .i64, .int .i64, .int .i64, .int .u64, .int .i64]]))), (18, .pv (.one (.int .i64))), (19, .pv (.one (.int .i64))), (3, .box 0 0)], [.cells [.map [.i64, .i64] [.i64, .u64, .i64], .int .i64]], []⟩
def law13_ChartNothingLost_l5_post0 : Vm.Pat := ⟨77, [(3, .box 0 0)], [.cells [.map [.i64, .i64] [.i64, .u64, .i64], .int .i64]], []⟩
def law13_ChartNothingLost_l5_enc0 : List (List Int × List Int) × Int → List U := fun r => [.m r.1, .i r.2]
def law13_ChartNothingLost_l5_dec0 : List U → Option (List (List Int × List Int) × Int) := fun u => match u with | [.m m3_0, .i x3_1] => some (m3_0, x3_1) | _ => none
def law13_ChartNothingLost_l5 (K : Nat) : Nat → List (List D) → Int → Int → List (List Int × List Int) → Int → Option (List (List Int × List Int) × Int)
 | 0, _, _, _, _, _ => none
 | k + 1, dd17, x18, x19, m3_0, x3_1 => (bi (decide (x19 < x18))
 (bi (decide (0 ≤ x19) && decide (x19 < (↑dd17.length : Int)))
 (bi (decide (x19 ≥ 60))
 (some ((m3_0, x3_1)))
 (bi (decide
 (0 +
 (List.map
 (fun r =>
 [(nth d0 r 0).toI,
 (nth d0 r 1).toI,
 (nth d0 r 2).toI,
 (nth d0 r 3).toI,
 (nth d0 r 4).toI])
 (nth d0
 (nth [] dd17 x19.toNat) 0).toL).length ≤
 3518437208883))
 ((cL_Post K m3_0 x3_1
 ([] ++
 List.map
 (fun r =>
 [(nth d0 r 0).toI,
 (nth d0 r 1).toI,
 (nth d0 r 2).toI,
 (nth d0 r 3).toI,
 (nth d0 r 4).toI])
 (nth d0
 (nth [] dd17 x19.toNat) 0).toL)).bind fun r0 => (law13_ChartNothingLost_l5 K k ((D.l dd17).toL) (x18) (IntKind.i64.wrap (x19 + 1)) (r0.snd.fst) (r0.snd.snd)))
 none))
 none)
 (some ((m3_0, x3_1))))
def law13_ChartNothingLost_l5_w (K k : Nat) : List U → Option (List (List Int × List Int) × Int) := fun us => match us with | [.d dd17, .i x18, .i x19, .m m3_0, .i x3_1] => law13_ChartNothingLost_l5 K k dd17 x18 x19 m3_0 x3_1 | _ => none
theorem law13_ChartNothingLost_l5_eq (K k : Nat) (dd17 : List (List D)) (x18 : Int) (x19 : Int) (m3_0 : List (List Int × List Int)) (x3_1 : Int) : (round1K Try.prog (env_law13_awake K) (law13_ChartNothingLost_v11 K) (lp (bodyOf Try.f8) 0) law13_ChartNothingLost_l5_pre (.exit 0) law13_ChartNothingLost_l5_post0 law13_ChartNothingLost_l5_dec0 (law13_ChartNothingLost_l5_w K k) [.d dd17, .i x18, .i x19, .m m3_0, .i x3_1]).den2 = law13_ChartNothingLost_l5 K (k + 1) dd17 x18 x19 m3_0 x3_1 := by kernel_rfl
def law13_ChartNothingLost_l5_s (K : Nat) : Vm.LS := .one law13_ChartNothingLost_l5_pre _ (.exit 0) law13_ChartNothingLost_l5_post0 (law13_ChartNothingLost_l5_w K K) law13_ChartNothingLost_l5_enc0
theorem law13_ChartNothingLost_l5_ok (K : Nat) : LoopOk Try.prog (lp (bodyOf Try.f8) 0) (law13_ChartNothingLost_l5_s K) := loop_oneK hmix (env_law13_awake_ok K) (lenv := law13_ChartNothingLost_v11 K) (L := law13_ChartNothingLost_l5_w K) (enc := law13_ChartNothingLost_l5_enc0) (dec := law13_ChartNothingLost_l5_dec0) (lps_ok (l := []) (by kernel_rfl) trivial) (fun u r h => by unfold law13_ChartNothingLost_l5_dec0 at h; split at h; (cases h; rfl); cases h) (fun us => by unfold law13_ChartNothingLost_l5_w; split <;> first | rfl | (simp only [law13_ChartNothingLost_l5])) (fun k us r h => by unfold law13_ChartNothingLost_l5_w at h; split at h; exact ((den2_eq _).symm.trans (law13_ChartNothingLost_l5_eq K k _ _ _ _ _)).trans h; cases h) K
def law13_ChartNothingLost_v5 (K : Nat) : Nat → Option Vm.LS := addL (law13_ChartNothingLost_v11 K) 5 (law13_ChartNothingLost_l5_s K)
def law13_ChartNothingLost_dec : List U → Option (Bool) := fun u => match u with | [.b c0] => some (c0) | _ => none
def law13_ChartNothingLost_enc : (Bool) → List U := fun r => [.b r]
def law13_ChartNothingLost (K : Nat) (dd0 : List (List D)) : Option (Bool) := ((law13_awake K).bind fun r0 => (bi (!r0)
 (some Bool.false)
 ((chart_New K).bind fun r1 => ((law13_ChartNothingLost_l5 K K (D.l dd0).toL
 (↑dd0.length : Int) 0 r1.fst r1.snd).bind fun r2 => (casO (law13_ChartNothingLost_l11 K K 0 r2.fst r2.snd) (fun r3 => (some Bool.true)) (fun r4 => (some r4)))))))
theorem law13_ChartNothingLost_eq (K : Nat) (dd0 : List (List D)) : (runFK Try.prog (env_law13_awake K) (law13_ChartNothingLost_v5 K) Try.f8 [.one (.ro [.sl [.int .i64, .int .i64, .int .i64, .int .u64, .int .i64]])] [.one (.bool)] law13_ChartNothingLost_dec [.d dd0]).den2 = law13_ChartNothingLost K dd0 := by kernel_rfl
def law13_ChartNothingLost_w (K : Nat) : List U → Option (Bool) := fun us => match us with | [.d dd0] => law13_ChartNothingLost K dd0 | _ => none
def law13_ChartNothingLost_spec (K : Nat) : Vm.Spec := ⟨[.one (.ro [.sl [.int .i64, .int .i64, .int .i64, .int .u64, .int .i64]])], [.one (.bool)], Bool, law13_ChartNothingLost_w K, law13_ChartNothingLost_enc⟩
theorem law13_ChartNothingLost_ok (K : Nat) : FnOk Try.prog 8 (law13_ChartNothingLost_spec K) := fn_okK' hmix (env_law13_awake_ok K) (lenv := law13_ChartNothingLost_v5 K) (args := [.one (.ro [.sl [.int .i64, .int .i64, .int .i64, .int .u64, .int .i64]])]) (res := [.one (.bool)]) (G := law13_ChartNothingLost_w K) (enc := law13_ChartNothingLost_enc) Try.func8 (lps_fn (l := [lp (bodyOf Try.f8) 0, lp (bodyOf Try.f8) 1]) (by kernel_rfl) ⟨⟨5, law13_ChartNothingLost_l5_s K, by kernel_rfl, by kernel_rfl, law13_ChartNothingLost_l5_ok K⟩, ⟨⟨11, law13_ChartNothingLost_l11_s K, by kernel_rfl, by kernel_rfl, law13_ChartNothingLost_l11_ok K⟩, trivial⟩⟩) (dec := law13_ChartNothingLost_dec) (fun u r h => by unfold law13_ChartNothingLost_dec at h; split at h; (cases h; rfl); cases h) (fun us r h => by unfold law13_ChartNothingLost_w at h; split at h; exact ((den2_eq _).symm.trans (law13_ChartNothingLost_eq K _)).trans h; cases h)
def env_law13_ChartNothingLost (K : Nat) : FuncId → Option Vm.Spec := addS (env_law13_awake K) 8 (law13_ChartNothingLost_spec K)
theorem env_law13_ChartNothingLost_ok (K : Nat) : EnvOk Try.prog (env_law13_ChartNothingLost K) := addS_ok (env_law13_awake_ok K) (.inl ⟨callable Try.func8 (by kernel_rfl) (by kernel_rfl), law13_ChartNothingLost_ok K⟩)
end
end Go.Proofs.Ytimhhefngigfeaa.F
