import Derived.Test.YtimhhefngigfeaaVmY
import Derived.Test.YtimhhefngigfeaaVmRc
import Derived.Test.YtimhhefngigfeaaVmMq
import Derived.Test.YtimhhefngigfeaaProg
import Derived.Test.YtimhhefngigfeaaFK
namespace Go.Proofs.Ytimhhefngigfeaa.F
open Go Go.Proofs.Ytimhhefngigfeaa.Vm
set_option maxRecDepth 1000000
set_option linter.unusedVariables false
set_option linter.unusedSimpArgs false
noncomputable section
def cL_Trial_ro_l8_pre : Vm.Pat := ⟨36, [(0, .pv (.one (.nilp))), (3, .pv (.one (.recs [.i64, .i64, .i64, .u64, .i64] true))), (4, .pv (.one (.int .i64))), (5, .pv (.one (.int .i64)))], [], []⟩
def cL_Trial_ro_l8_post0 : Vm.Pat := ⟨36, [(0, .pv (.one (.nilp))), (3, .pv (.one (.recs [.i64, .i64, .i64, .u64, .i64] true))), (4, .pv (.one (.int .i64)))], [], []⟩
def cL_Trial_ro_l8_enc0 : List (List Int) × Int → List U := fun r => [.n, .rr r.1, .i r.2]
def cL_Trial_ro_l8_dec0 : List U → Option (List (List Int) × Int) := fun | [.n, .rr q3, .i x4] => some (q3, x4) | _ => none
def cL_Trial_ro_l8 (K : Nat) : Nat → List (List Int) → Int → Int → Option (List (List Int) × Int)
 | 0, _, _, _ => none
 | k + 1, q3, x4, x5 => (bi (decide (x5 ≤ 3))
 none
 (some ((q3, x4))))
def cL_Trial_ro_l8_w (K k : Nat) : List U → Option (List (List Int) × Int) := fun | [.n, .rr q3, .i x4, .i x5] => cL_Trial_ro_l8 K k q3 x4 x5 | _ => none
theorem cL_Trial_ro_l8_eq (K k : Nat) (q3 : List (List Int)) (x4 : Int) (x5 : Int) : (round1K Try.prog (env_r13_DocPost K) (lenv0) (lp (lp (bodyOf Try.f15) 0) 0) cL_Trial_ro_l8_pre (.exit 2) cL_Trial_ro_l8_post0 cL_Trial_ro_l8_dec0 (cL_Trial_ro_l8_w K k) [.n, .rr q3, .i x4, .i x5]).den2 = cL_Trial_ro_l8 K (k + 1) q3 x4 x5 := by kernel_rfl
def cL_Trial_ro_l8_s (K : Nat) : Vm.LS := .one cL_Trial_ro_l8_pre _ (.exit 2) cL_Trial_ro_l8_post0 (cL_Trial_ro_l8_w K K) cL_Trial_ro_l8_enc0
theorem cL_Trial_ro_l8_ok (K : Nat) : LoopOk Try.prog (lp (lp (bodyOf Try.f15) 0) 0) (cL_Trial_ro_l8_s K) := loop_oneK hmix (env_r13_DocPost_ok K) (lenv := lenv0) (L := cL_Trial_ro_l8_w K) (enc := cL_Trial_ro_l8_enc0) (dec := cL_Trial_ro_l8_dec0) (lps_ok (l := []) (by kernel_rfl) trivial) (fun u r h => by unfold cL_Trial_ro_l8_dec0 at h; split at h; (cases h; rfl); cases h) (fun us => by unfold cL_Trial_ro_l8_w; split <;> first | rfl | (simp only [cL_Trial_ro_l8])) (fun k us r h => by unfold cL_Trial_ro_l8_w at h; split at h; exact ((den2_eq _).symm.trans (cL_Trial_ro_l8_eq K k _ _ _)).trans h; cases h) K
def cL_Trial_ro_v8 (K : Nat) : Nat → Option Vm.LS := addL (lenv0) 8 (cL_Trial_ro_l8_s K)
def cL_Trial_ro_l5_pre : Vm.Pat := ⟨36, [(0, .pv (.one (.nilp))), (3, .pv (.one (.recs [.i64, .i64, .i64, .u64, .i64] true))), (4, .pv (.one (.int .i64)))], [], []⟩
def cL_Trial_ro_l5_post0 : Vm.Pat := ⟨36, [(3, .pv (.one (.recs [.i64, .i64, .i64, .u64, .i64] true)))], [], []⟩
def cL_Trial_ro_l5_enc0 : List (List Int) → List U := fun r => [.rr r]
def cL_Trial_ro_l5_dec0 : List U → Option (List (List Int)) := fun | [.rr q3] => some (q3) | _ => none
def cL_Trial_ro_l5 (K : Nat) : Nat → List (List Int) → Int → Option (List (List Int))
 | 0, _, _ => none
 | k + 1, q3, x4 => (bi (decide (x4 ≤ 8))
 ((cL_Trial_ro_l8 K K q3 x4 0).bind fun r0 => (cL_Trial_ro_l5 K k (r0.fst) (IntKind.i64.wrap (r0.snd + 1))))
 (some q3))
def cL_Trial_ro_l5_w (K k : Nat) : List U → Option (List (List Int)) := fun | [.n, .rr q3, .i x4] => cL_Trial_ro_l5 K k q3 x4 | _ => none
theorem cL_Trial_ro_l5_eq (K k : Nat) (q3 : List (List Int)) (x4 : Int) : (round1K Try.prog (env_r13_DocPost K) (cL_Trial_ro_v8 K) (lp (bodyOf Try.f15) 0) cL_Trial_ro_l5_pre (.exit 0) cL_Trial_ro_l5_post0 cL_Trial_ro_l5_dec0 (cL_Trial_ro_l5_w K k) [.n, .rr q3, .i x4]).den2 = cL_Trial_ro_l5 K (k + 1) q3 x4 := by kernel_rfl
def cL_Trial_ro_l5_s (K : Nat) : Vm.LS := .one cL_Trial_ro_l5_pre _ (.exit 0) cL_Trial_ro_l5_post0 (cL_Trial_ro_l5_w K K) cL_Trial_ro_l5_enc0
theorem cL_Trial_ro_l5_ok (K : Nat) : LoopOk Try.prog (lp (bodyOf Try.f15) 0) (cL_Trial_ro_l5_s K) := loop_oneK hmix (env_r13_DocPost_ok K) (lenv := cL_Trial_ro_v8 K) (L := cL_Trial_ro_l5_w K) (enc := cL_Trial_ro_l5_enc0) (dec := cL_Trial_ro_l5_dec0) (lps_ok (l := [lp (lp (bodyOf Try.f15) 0) 0]) (by kernel_rfl) ⟨⟨8, cL_Trial_ro_l8_s K, by kernel_rfl, by kernel_rfl, cL_Trial_ro_l8_ok K⟩, trivial⟩) (fun u r h => by unfold cL_Trial_ro_l5_dec0 at h; split at h; (cases h; rfl); cases h) (fun us => by unfold cL_Trial_ro_l5_w; split <;> first | rfl | (simp only [cL_Trial_ro_l5])) (fun k us r h => by unfold cL_Trial_ro_l5_w at h; split at h; exact ((den2_eq _).symm.trans (cL_Trial_ro_l5_eq K k _ _)).trans h; cases h) K
def cL_Trial_ro_v5 (K : Nat) : Nat → Option Vm.LS := addL (cL_Trial_ro_v8 K) 5 (cL_Trial_ro_l5_s K)
def cL_Trial_ro_dec : List U → Option (List (List Int)) := fun | [.rr q0] => some (q0) | _ => none
def cL_Trial_ro_enc : (List (List Int)) → List U := fun r => [.rr r]
def cL_Trial_ro (K : Nat)  : Option (List (List Int)) := (some ([]))
theorem cL_Trial_ro_eq (K : Nat)  : (runFK Try.prog (env_r13_DocPost K) (cL_Trial_ro_v5 K) Try.f15 [.one (.nilp)] [.one (.recs [.i64, .i64, .i64, .u64, .i64] false)] cL_Trial_ro_dec [.n]).den2 = cL_Trial_ro K  := by kernel_rfl
def cL_Trial_ro_w (K : Nat) : List U → Option (List (List Int)) := fun | [.n] => cL_Trial_ro K  | _ => none
def cL_Trial_ro_spec (K : Nat) : Vm.Spec := ⟨[.one (.nilp)], [.one (.recs [.i64, .i64, .i64, .u64, .i64] false)], List (List Int), cL_Trial_ro_w K, cL_Trial_ro_enc⟩
theorem cL_Trial_ro_ok (K : Nat) : FnOk Try.prog 15 (cL_Trial_ro_spec K) := fn_okK' hmix (env_r13_DocPost_ok K) (lenv := cL_Trial_ro_v5 K) (args := [.one (.nilp)]) (res := [.one (.recs [.i64, .i64, .i64, .u64, .i64] false)]) (G := cL_Trial_ro_w K) (enc := cL_Trial_ro_enc) Try.func15 (lps_fn (l := [lp (bodyOf Try.f15) 0]) (by kernel_rfl) ⟨⟨5, cL_Trial_ro_l5_s K, by kernel_rfl, by kernel_rfl, cL_Trial_ro_l5_ok K⟩, trivial⟩) (dec := cL_Trial_ro_dec) (fun u r h => by unfold cL_Trial_ro_dec at h; split at h; (cases h; rfl); cases h) (fun us r h => by unfold cL_Trial_ro_w at h; split at h; exact ((den2_eq _).symm.trans (cL_Trial_ro_eq K)).trans h; cases h)
def env_cL_Trial_ro (K : Nat) : FuncId → Option Vm.Spec := addS (env_r13_DocPost K) 1000015 (cL_Trial_ro_spec K)
theorem env_cL_Trial_ro_ok (K : Nat) : EnvOk Try.prog (env_cL_Trial_ro K) := addS_ok (env_r13_DocPost_ok K) (.inl ⟨callable Try.func15 (by kernel_rfl) (by kernel_rfl), cL_Trial_ro_ok K⟩)
def cL_Entries_ro_dec : List U → Option (Int) := fun | [.i x0] => some (x0) | _ => none
def cL_Entries_ro_enc : (Int) → List U := fun r => [.i r]
def cL_Entries_ro (K : Nat)  : Option (Int) := (some (0))
theorem cL_Entries_ro_eq (K : Nat)  : (runFK Try.prog (env_cL_Trial_ro K) (lenv0) Try.f17 [.one (.nilp)] [.one (.int .i64)] cL_Entries_ro_dec [.n]).den2 = cL_Entries_ro K  := by kernel_rfl
def cL_Entries_ro_w (K : Nat) : List U → Option (Int) := fun | [.n] => cL_Entries_ro K  | _ => none
def cL_Entries_ro_spec (K : Nat) : Vm.Spec := ⟨[.one (.nilp)], [.one (.int .i64)], Int, cL_Entries_ro_w K, cL_Entries_ro_enc⟩
theorem cL_Entries_ro_ok (K : Nat) : FnOk Try.prog 17 (cL_Entries_ro_spec K) := fn_okK' hmix (env_cL_Trial_ro_ok K) (lenv := lenv0) (args := [.one (.nilp)]) (res := [.one (.int .i64)]) (G := cL_Entries_ro_w K) (enc := cL_Entries_ro_enc) Try.func17 (lps_fn (l := []) (by kernel_rfl) trivial) (dec := cL_Entries_ro_dec) (fun u r h => by unfold cL_Entries_ro_dec at h; split at h; (cases h; rfl); cases h) (fun us r h => by unfold cL_Entries_ro_w at h; split at h; exact ((den2_eq _).symm.trans (cL_Entries_ro_eq K)).trans h; cases h)
def env_cL_Entries_ro (K : Nat) : FuncId → Option Vm.Spec := addS (env_cL_Trial_ro K) 1000017 (cL_Entries_ro_spec K)
theorem env_cL_Entries_ro_ok (K : Nat) : EnvOk Try.prog (env_cL_Entries_ro K) := addS_ok (env_cL_Trial_ro_ok K) (.inl ⟨callable Try.func17 (by kernel_rfl) (by kernel_rfl), cL_Entries_ro_ok K⟩)
def cL_Balance_ro_dec : List U → Option (Int × Int × Int × Int) := fun | [.i x0_0, .i x0_1, .i x0_2, .i x1] => some (x0_0, x0_1, x0_2, x1) | _ => none
def cL_Balance_ro_enc : (Int × Int × Int × Int) → List U := fun r => [.i r.1, .i r.2.1, .i r.2.2.1, .i r.2.2.2]
def cL_Balance_ro (K : Nat) (x1 : Int) (x2 : Int) : Option (Int × Int × Int × Int) := ((ct_is K x1 x2).bind fun r0 => (bi (!r0)
 (some ((0, 0, 0, 1)))
 (some ((0, 0, 0, 7)))))
theorem cL_Balance_ro_eq (K : Nat) (x1 : Int) (x2 : Int) : (runFK Try.prog (env_cL_Entries_ro K) (lenv0) Try.f18 [.one (.nilp), .one (.int .i64), .one (.int .i64)] [.agg [.int .i64, .int .u64, .int .i64], .one (.int .i64)] cL_Balance_ro_dec [.n, .i x1, .i x2]).den2 = cL_Balance_ro K x1 x2 := by kernel_rfl
def cL_Balance_ro_w (K : Nat) : List U → Option (Int × Int × Int × Int) := fun | [.n, .i x1, .i x2] => cL_Balance_ro K x1 x2 | _ => none
def cL_Balance_ro_spec (K : Nat) : Vm.Spec := ⟨[.one (.nilp), .one (.int .i64), .one (.int .i64)], [.agg [.int .i64, .int .u64, .int .i64], .one (.int .i64)], Int × Int × Int × Int, cL_Balance_ro_w K, cL_Balance_ro_enc⟩
theorem cL_Balance_ro_ok (K : Nat) : FnOk Try.prog 18 (cL_Balance_ro_spec K) := fn_okK' hmix (env_cL_Entries_ro_ok K) (lenv := lenv0) (args := [.one (.nilp), .one (.int .i64), .one (.int .i64)]) (res := [.agg [.int .i64, .int .u64, .int .i64], .one (.int .i64)]) (G := cL_Balance_ro_w K) (enc := cL_Balance_ro_enc) Try.func18 (lps_fn (l := []) (by kernel_rfl) trivial) (dec := cL_Balance_ro_dec) (fun u r h => by unfold cL_Balance_ro_dec at h; split at h; (cases h; rfl); cases h) (fun us r h => by unfold cL_Balance_ro_w at h; split at h; exact ((den2_eq _).symm.trans (cL_Balance_ro_eq K _ _)).trans h; cases h)
def env_cL_Balance_ro (K : Nat) : FuncId → Option Vm.Spec := addS (env_cL_Entries_ro K) 1000018 (cL_Balance_ro_spec K)
theorem env_cL_Balance_ro_ok (K : Nat) : EnvOk Try.prog (env_cL_Balance_ro K) := addS_ok (env_cL_Entries_ro_ok K) (.inl ⟨callable Try.func18 (by kernel_rfl) (by kernel_rfl), cL_Balance_ro_ok K⟩)
def r13_DocBalance_ro_dec : List U → Option (Int × Int × Int × Int) := fun | [.i x0_0, .i x0_1, .i x0_2, .i x1] => some (x0_0, x0_1, x0_2, x1) | _ => none
def r13_DocBalance_ro_enc : (Int × Int × Int × Int) → List U := fun r => [.i r.1, .i r.2.1, .i r.2.2.1, .i r.2.2.2]
def r13_DocBalance_ro (K : Nat) (x1 : Int) (x2 : Int) : Option (Int × Int × Int × Int) := ((r13_Is K x1 x2).bind fun r0 => (bi (!r0)
 (some ((0, 0, 0, 1)))
 (some ((0, 0, 0, 7)))))
theorem r13_DocBalance_ro_eq (K : Nat) (x1 : Int) (x2 : Int) : (runFK Try.prog (env_cL_Balance_ro K) (lenv0) Try.f19 [.one (.nilp), .one (.int .i64), .one (.int .i64)] [.agg [.int .i64, .int .u64, .int .i64], .one (.int .i64)] r13_DocBalance_ro_dec [.n, .i x1, .i x2]).den2 = r13_DocBalance_ro K x1 x2 := by kernel_rfl
def r13_DocBalance_ro_w (K : Nat) : List U → Option (Int × Int × Int × Int) := fun | [.n, .i x1, .i x2] => r13_DocBalance_ro K x1 x2 | _ => none
def r13_DocBalance_ro_spec (K : Nat) : Vm.Spec := ⟨[.one (.nilp), .one (.int .i64), .one (.int .i64)], [.agg [.int .i64, .int .u64, .int .i64], .one (.int .i64)], Int × Int × Int × Int, r13_DocBalance_ro_w K, r13_DocBalance_ro_enc⟩
theorem r13_DocBalance_ro_ok (K : Nat) : FnOk Try.prog 19 (r13_DocBalance_ro_spec K) := fn_okK' hmix (env_cL_Balance_ro_ok K) (lenv := lenv0) (args := [.one (.nilp), .one (.int .i64), .one (.int .i64)]) (res := [.agg [.int .i64, .int .u64, .int .i64], .one (.int .i64)]) (G := r13_DocBalance_ro_w K) (enc := r13_DocBalance_ro_enc) Try.func19 (lps_fn (l := []) (by kernel_rfl) trivial) (dec := r13_DocBalance_ro_dec) (fun u r h => by unfold r13_DocBalance_ro_dec at h; split at h; (cases h; rfl); cases h) (fun us r h => by unfold r13_DocBalance_ro_w at h; split at h; exact ((den2_eq _).symm.trans (r13_DocBalance_ro_eq K _ _)).trans h; cases h)
def env_r13_DocBalance_ro (K : Nat) : FuncId → Option Vm.Spec := addS (env_cL_Balance_ro K) 1000019 (r13_DocBalance_ro_spec K)
theorem env_r13_DocBalance_ro_ok (K : Nat) : EnvOk Try.prog (env_r13_DocBalance_ro K) := addS_ok (env_cL_Balance_ro_ok K) (.inl ⟨callable Try.func19 (by kernel_rfl) (by kernel_rfl), r13_DocBalance_ro_ok K⟩)
def cL_Total_ro_l3_pre : Vm.Pat := ⟨33, [(0, .pv (.one (.nilp))), (1, .pv (.one (.int .i64))), (7, .pv (.one (.int .i64))), (4, .box 0 0), (6, .box 1 0)], [.cells [.int .i64, .int .u64, .int .i64], .cells [.int .i64, .int .u64, .int .i64]], []⟩
def cL_Total_ro_l3_post0 : Vm.Pat := ⟨33, [(4, .box 0 0), (6, .box 1 0)], [.cells [.int .i64, .int .u64, .int .i64], .cells [.int .i64, .int .u64, .int .i64]], []⟩
def cL_Total_ro_l3_enc0 : Int × Int × Int × Int × Int × Int → List U := fun r => [.i r.1, .i r.2.1, .i r.2.2.1, .i r.2.2.2.1, .i r.2.2.2.2.1, .i r.2.2.2.2.2]
def cL_Total_ro_l3_dec0 : List U → Option (Int × Int × Int × Int × Int × Int) := fun | [.i x4_0, .i x4_1, .i x4_2, .i x6_0, .i x6_1, .i x6_2] => some (x4_0, x4_1, x4_2, x6_0, x6_1, x6_2) | _ => none
def cL_Total_ro_l3_post1 : Vm.Pat := ⟨33, [(5, .pv (.one (.int .i64))), (4, .box 0 0)], [.cells [.int .i64, .int .u64, .int .i64]], []⟩
def cL_Total_ro_l3_enc1 : Int × Int × Int × Int → List U := fun r => [.i r.1, .i r.2.1, .i r.2.2.1, .i r.2.2.2]
def cL_Total_ro_l3_dec1 : List U → Option (Int × Int × Int × Int) := fun | [.i x5, .i x4_0, .i x4_1, .i x4_2] => some (x5, x4_0, x4_1, x4_2) | _ => none
def cL_Total_ro_l3 (K : Nat) : Nat → Int → Int → Int → Int → Int → Int → Int → Int → Option ((Int × Int × Int × Int × Int × Int) ⊕ (Int × Int × Int × Int))
 | 0, _, _, _, _, _, _, _, _ => none
 | k + 1, x1, x7, x4_0, x4_1, x4_2, x6_0, x6_1, x6_2 => (bi (decide (x7 ≤ 8))
 ((cL_Balance_ro K x7 x1).bind fun r0 => (bi (r0.snd.snd.snd != 0)
 (some (Sum.inr (r0.snd.snd.snd, 0, 0, 0)))
 ((dec_Add K x6_0 x6_1 x6_2 r0.fst r0.snd.fst r0.snd.snd.fst).bind fun r1 => (cL_Total_ro_l3 K k (x1) (IntKind.i64.wrap (x7 + 1)) (x4_0) (x4_1) (x4_2) (r1.fst) (r1.snd.fst) (r1.snd.snd.fst)))))
 (some (Sum.inl (x4_0, x4_1, x4_2, x6_0, x6_1, x6_2))))
def cL_Total_ro_l3_w (K k : Nat) : List U → Option ((Int × Int × Int × Int × Int × Int) ⊕ (Int × Int × Int × Int)) := fun | [.n, .i x1, .i x7, .i x4_0, .i x4_1, .i x4_2, .i x6_0, .i x6_1, .i x6_2] => cL_Total_ro_l3 K k x1 x7 x4_0 x4_1 x4_2 x6_0 x6_1 x6_2 | _ => none
theorem cL_Total_ro_l3_eq (K k : Nat) (x1 : Int) (x7 : Int) (x4_0 : Int) (x4_1 : Int) (x4_2 : Int) (x6_0 : Int) (x6_1 : Int) (x6_2 : Int) : (round2K Try.prog (env_r13_DocBalance_ro K) (lenv0) (lp (bodyOf Try.f20) 0) cL_Total_ro_l3_pre (.exit 0) cL_Total_ro_l3_post0 .ret cL_Total_ro_l3_post1 cL_Total_ro_l3_dec0 cL_Total_ro_l3_dec1 (cL_Total_ro_l3_w K k) [.n, .i x1, .i x7, .i x4_0, .i x4_1, .i x4_2, .i x6_0, .i x6_1, .i x6_2]).den2 = cL_Total_ro_l3 K (k + 1) x1 x7 x4_0 x4_1 x4_2 x6_0 x6_1 x6_2 := by kernel_rfl
def cL_Total_ro_l3_s (K : Nat) : Vm.LS := .two cL_Total_ro_l3_pre _ _ (.exit 0) cL_Total_ro_l3_post0 .ret cL_Total_ro_l3_post1 (cL_Total_ro_l3_w K K) cL_Total_ro_l3_enc0 cL_Total_ro_l3_enc1
theorem cL_Total_ro_l3_ok (K : Nat) : LoopOk Try.prog (lp (bodyOf Try.f20) 0) (cL_Total_ro_l3_s K) := loop_twoK hmix (env_r13_DocBalance_ro_ok K) (lenv := lenv0) (L := cL_Total_ro_l3_w K) (enc := cL_Total_ro_l3_enc0) (dec := cL_Total_ro_l3_dec0) (enc' := cL_Total_ro_l3_enc1) (dec' := cL_Total_ro_l3_dec1) (lps_ok (l := []) (by kernel_rfl) trivial) (fun u r h => by unfold cL_Total_ro_l3_dec0 at h; split at h; (cases h; rfl); cases h) (fun u r h => by unfold cL_Total_ro_l3_dec1 at h; split at h; (cases h; rfl); cases h) (fun us => by unfold cL_Total_ro_l3_w; split <;> first | rfl | (simp only [cL_Total_ro_l3])) (fun k us r h => by unfold cL_Total_ro_l3_w at h; split at h; exact ((den2_eq _).symm.trans (cL_Total_ro_l3_eq K k _ _ _ _ _ _ _ _)).trans h; cases h) K
def cL_Total_ro_v3 (K : Nat) : Nat → Option Vm.LS := addL (lenv0) 3 (cL_Total_ro_l3_s K)
def cL_Total_ro_dec : List U → Option (Int × Int × Int × Int) := fun | [.i x0_0, .i x0_1, .i x0_2, .i x1] => some (x0_0, x0_1, x0_2, x1) | _ => none
def cL_Total_ro_enc : (Int × Int × Int × Int) → List U := fun r => [.i r.1, .i r.2.1, .i r.2.2.1, .i r.2.2.2]
def cL_Total_ro (K : Nat) (x1 : Int) : Option (Int × Int × Int × Int) := ((ct_nought K).bind fun r0 => (casO (cL_Total_ro_l3 K K x1 1 0 0 0 r0.fst r0.snd.fst r0.snd.snd) (fun r1 => (some ((r1.snd.snd.snd.fst, r1.snd.snd.snd.snd.fst, r1.snd.snd.snd.snd.snd, 0)))) (fun r2 => (some ((r2.snd.fst, r2.snd.snd.fst, r2.snd.snd.snd, r2.fst))))))
theorem cL_Total_ro_eq (K : Nat) (x1 : Int) : (runFK Try.prog (env_r13_DocBalance_ro K) (cL_Total_ro_v3 K) Try.f20 [.one (.nilp), .one (.int .i64)] [.agg [.int .i64, .int .u64, .int .i64], .one (.int .i64)] cL_Total_ro_dec [.n, .i x1]).den2 = cL_Total_ro K x1 := by kernel_rfl
def cL_Total_ro_w (K : Nat) : List U → Option (Int × Int × Int × Int) := fun | [.n, .i x1] => cL_Total_ro K x1 | _ => none
def cL_Total_ro_spec (K : Nat) : Vm.Spec := ⟨[.one (.nilp), .one (.int .i64)], [.agg [.int .i64, .int .u64, .int .i64], .one (.int .i64)], Int × Int × Int × Int, cL_Total_ro_w K, cL_Total_ro_enc⟩
theorem cL_Total_ro_ok (K : Nat) : FnOk Try.prog 20 (cL_Total_ro_spec K) := fn_okK' hmix (env_r13_DocBalance_ro_ok K) (lenv := cL_Total_ro_v3 K) (args := [.one (.nilp), .one (.int .i64)]) (res := [.agg [.int .i64, .int .u64, .int .i64], .one (.int .i64)]) (G := cL_Total_ro_w K) (enc := cL_Total_ro_enc) Try.func20 (lps_fn (l := [lp (bodyOf Try.f20) 0]) (by kernel_rfl) ⟨⟨3, cL_Total_ro_l3_s K, by kernel_rfl, by kernel_rfl, cL_Total_ro_l3_ok K⟩, trivial⟩) (dec := cL_Total_ro_dec) (fun u r h => by unfold cL_Total_ro_dec at h; split at h; (cases h; rfl); cases h) (fun us r h => by unfold cL_Total_ro_w at h; split at h; exact ((den2_eq _).symm.trans (cL_Total_ro_eq K _)).trans h; cases h)
def env_cL_Total_ro (K : Nat) : FuncId → Option Vm.Spec := addS (env_r13_DocBalance_ro K) 1000020 (cL_Total_ro_spec K)
theorem env_cL_Total_ro_ok (K : Nat) : EnvOk Try.prog (env_cL_Total_ro K) := addS_ok (env_r13_DocBalance_ro_ok K) (.inl ⟨callable Try.func20 (by kernel_rfl) (by kernel_rfl), cL_Total_ro_ok K⟩)
end
end Go.Proofs.Ytimhhefngigfeaa.F
