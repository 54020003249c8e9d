import Derived.WalkKit
import Derived.MapKept
import Derived.Laws.Externs
import Derived.Test.YtimhhefngigfeaaVmY
import Derived.Test.YtimhhefngigfeaaVmRc
import Derived.Test.YtimhhefngigfeaaVmMq
import Derived.Test.YtimhhefngigfeaaProg
import Derived.Test.YtimhhefngigfeaaFB
namespace Go.Proofs.Ytimhhefngigfeaa.F
open Go Go.Proofs.Ytimhhefngigfeaa.Vm
abbrev MpT := List (List Int × List Int)
set_option maxRecDepth 1000000
set_option linter.unusedVariables false
set_option linter.unusedSimpArgs false
noncomputable section
def money_name_dec : List U → Option (ByteArray) := fun | [.s s0] => some (s0) | _ => none
def money_name_enc : (ByteArray) → List U := fun r => [.s r]
def money_name (K : Nat) (x0 : Int) : Option (ByteArray) := (bi (x0 == 0)
 (some ((ByteArray.mk #[69, 85, 82])))
 (bi (x0 == 1)
 (some ((ByteArray.mk #[85, 83, 68])))
 (bi (x0 == 2)
 (some ((ByteArray.mk #[74, 80, 89])))
 (bi (x0 == 3)
 (some ((ByteArray.mk #[75, 87, 68])))
 (some ((ByteArray.mk #[])))))))
theorem money_name_eq (K : Nat) (x0 : Int) : (runF Try.prog (env_r1_At K) (lenv0) Try.f69 [.one (.int .i64)] [.one (.str)] money_name_dec [.i x0]).den2 = money_name K x0 := by kernel_rfl
def money_name_w (K : Nat) : List U → Option (ByteArray) := fun | [.i x0] => money_name K x0 | _ => none
def money_name_spec (K : Nat) : Vm.Spec := ⟨[.one (.int .i64)], [.one (.str)], ByteArray, money_name_w K, money_name_enc⟩
theorem money_name_ok (K : Nat) : FnOk Try.prog 69 (money_name_spec K) := fn_ok' hmix (env_r1_At_ok K) (lenv := lenv0) (args := [.one (.int .i64)]) (res := [.one (.str)]) (G := money_name_w K) (enc := money_name_enc) Try.func69 (lps_fn (l := []) (by kernel_rfl) trivial) (dec := money_name_dec) (fun u r h => by unfold money_name_dec at h; split at h; (cases h; rfl); cases h) (fun us r h => by unfold money_name_w at h; split at h; exact ((den2_eq _).symm.trans (money_name_eq K _)).trans h; cases h)
def env_money_name (K : Nat) : FuncId → Option Vm.Spec := addS (env_r1_At K) 69 (money_name_spec K)
theorem env_money_name_ok (K : Nat) : EnvOk Try.prog (env_money_name K) := addS_ok (env_r1_At_ok K) (.inl ⟨callable Try.func69 (by kernel_rfl) (by kernel_rfl), money_name_ok K⟩)
def money_figures_dec : List U → Option (Int) := fun | [.i x0] => some (x0) | _ => none
def money_figures_enc : (Int) → List U := fun r => [.i r]
def money_figures (K : Nat) (x0 : Int) : Option (Int) := (bi (x0 == 2)
 (some (0))
 (bi (x0 == 3)
 (some (3))
 (some (2))))
theorem money_figures_eq (K : Nat) (x0 : Int) : (runF Try.prog (env_money_name K) (lenv0) Try.f70 [.one (.int .i64)] [.one (.int .i64)] money_figures_dec [.i x0]).den2 = money_figures K x0 := by kernel_rfl
def money_figures_w (K : Nat) : List U → Option (Int) := fun | [.i x0] => money_figures K x0 | _ => none
def money_figures_spec (K : Nat) : Vm.Spec := ⟨[.one (.int .i64)], [.one (.int .i64)], Int, money_figures_w K, money_figures_enc⟩
theorem money_figures_ok (K : Nat) : FnOk Try.prog 70 (money_figures_spec K) := fn_ok' hmix (env_money_name_ok K) (lenv := lenv0) (args := [.one (.int .i64)]) (res := [.one (.int .i64)]) (G := money_figures_w K) (enc := money_figures_enc) Try.func70 (lps_fn (l := []) (by kernel_rfl) trivial) (dec := money_figures_dec) (fun u r h => by unfold money_figures_dec at h; split at h; (cases h; rfl); cases h) (fun us r h => by unfold money_figures_w at h; split at h; exact ((den2_eq _).symm.trans (money_figures_eq K _)).trans h; cases h)
def env_money_figures (K : Nat) : FuncId → Option Vm.Spec := addS (env_money_name K) 70 (money_figures_spec K)
theorem env_money_figures_ok (K : Nat) : EnvOk Try.prog (env_money_figures K) := addS_ok (env_money_name_ok K) (.inl ⟨callable Try.func70 (by kernel_rfl) (by kernel_rfl), money_figures_ok K⟩)
def money_Digits_dec : List U → Option (Int × Int) := fun | [.i x0, .i x1] => some (x0, x1) | _ => none
def money_Digits_enc : (Int × Int) → List U := fun r => [.i r.1, .i r.2]
def money_Digits (K : Nat) (x0 : Int) : Option (Int × Int) := ((money_name K x0).bind fun r0 => (bi (sEq r0 (ByteArray.mk #[]))
 (some ((0, 1)))
 ((money_figures K x0).bind fun r1 => (some ((r1, 0))))))
theorem money_Digits_eq (K : Nat) (x0 : Int) : (runF Try.prog (env_money_figures K) (lenv0) Try.f56 [.one (.int .i64)] [.one (.int .i64), .one (.int .i64)] money_Digits_dec [.i x0]).den2 = money_Digits K x0 := by kernel_rfl
def money_Digits_w (K : Nat) : List U → Option (Int × Int) := fun | [.i x0] => money_Digits K x0 | _ => none
def money_Digits_spec (K : Nat) : Vm.Spec := ⟨[.one (.int .i64)], [.one (.int .i64), .one (.int .i64)], Int × Int, money_Digits_w K, money_Digits_enc⟩
theorem money_Digits_ok (K : Nat) : FnOk Try.prog 56 (money_Digits_spec K) := fn_ok' hmix (env_money_figures_ok K) (lenv := lenv0) (args := [.one (.int .i64)]) (res := [.one (.int .i64), .one (.int .i64)]) (G := money_Digits_w K) (enc := money_Digits_enc) Try.func56 (lps_fn (l := []) (by kernel_rfl) trivial) (dec := money_Digits_dec) (fun u r h => by unfold money_Digits_dec at h; split at h; (cases h; rfl); cases h) (fun us r h => by unfold money_Digits_w at h; split at h; exact ((den2_eq _).symm.trans (money_Digits_eq K _)).trans h; cases h)
def env_money_Digits (K : Nat) : FuncId → Option Vm.Spec := addS (env_money_figures K) 56 (money_Digits_spec K)
theorem env_money_Digits_ok (K : Nat) : EnvOk Try.prog (env_money_Digits K) := addS_ok (env_money_figures_ok K) (.inl ⟨callable Try.func56 (by kernel_rfl) (by kernel_rfl), money_Digits_ok K⟩)
def ref05_Cur_dec : List U → Option (Bool) := fun | [.b c0] => some (c0) | _ => none
def ref05_Cur_enc : (Bool) → List U := fun r => [.b r]
def ref05_Cur (K : Nat) (x0 : Int) : Option (Bool) := (bi (decide (x0 ≥ 0))
 (some (decide (x0 < 4)))
 (some false))
theorem ref05_Cur_eq (K : Nat) (x0 : Int) : (runF Try.prog (env_money_Digits K) (lenv0) Try.f47 [.one (.int .i64)] [.one (.bool)] ref05_Cur_dec [.i x0]).den2 = ref05_Cur K x0 := by kernel_rfl
def ref05_Cur_w (K : Nat) : List U → Option (Bool) := fun | [.i x0] => ref05_Cur K x0 | _ => none
def ref05_Cur_spec (K : Nat) : Vm.Spec := ⟨[.one (.int .i64)], [.one (.bool)], Bool, ref05_Cur_w K, ref05_Cur_enc⟩
theorem ref05_Cur_ok (K : Nat) : FnOk Try.prog 47 (ref05_Cur_spec K) := fn_ok' hmix (env_money_Digits_ok K) (lenv := lenv0) (args := [.one (.int .i64)]) (res := [.one (.bool)]) (G := ref05_Cur_w K) (enc := ref05_Cur_enc) Try.func47 (lps_fn (l := []) (by kernel_rfl) trivial) (dec := ref05_Cur_dec) (fun u r h => by unfold ref05_Cur_dec at h; split at h; (cases h; rfl); cases h) (fun us r h => by unfold ref05_Cur_w at h; split at h; exact ((den2_eq _).symm.trans (ref05_Cur_eq K _)).trans h; cases h)
def env_ref05_Cur (K : Nat) : FuncId → Option Vm.Spec := addS (env_money_Digits K) 47 (ref05_Cur_spec K)
theorem env_ref05_Cur_ok (K : Nat) : EnvOk Try.prog (env_ref05_Cur K) := addS_ok (env_money_Digits_ok K) (.inl ⟨callable Try.func47 (by kernel_rfl) (by kernel_rfl), ref05_Cur_ok K⟩)
def ct_nought_dec : List U → Option (Int × Int × Int) := fun | [.i x0_0, .i x0_1, .i x0_2] => some (x0_0, x0_1, x0_2) | _ => none
def ct_nought_enc : (Int × Int × Int) → List U := fun r => [.i r.1, .i r.2.1, .i r.2.2]
def ct_nought (K : Nat)  : Option (Int × Int × Int) := (some ((0, 0, 12)))
theorem ct_nought_eq (K : Nat)  : (runFK Try.prog (env_ref05_Cur K) (lenv0) Try.f35 [] [.agg [.int .i64, .int .u64, .int .i64]] ct_nought_dec []).den2 = ct_nought K  := by kernel_rfl
def ct_nought_w (K : Nat) : List U → Option (Int × Int × Int) := fun | [] => ct_nought K  | _ => none
def ct_nought_spec (K : Nat) : Vm.Spec := ⟨[], [.agg [.int .i64, .int .u64, .int .i64]], Int × Int × Int, ct_nought_w K, ct_nought_enc⟩
theorem ct_nought_ok (K : Nat) : FnOk Try.prog 35 (ct_nought_spec K) := fn_okK' hmix (env_ref05_Cur_ok K) (lenv := lenv0) (args := []) (res := [.agg [.int .i64, .int .u64, .int .i64]]) (G := ct_nought_w K) (enc := ct_nought_enc) Try.func35 (lps_fn (l := []) (by kernel_rfl) trivial) (dec := ct_nought_dec) (fun u r h => by unfold ct_nought_dec at h; split at h; (cases h; rfl); cases h) (fun us r h => by unfold ct_nought_w at h; split at h; exact ((den2_eq _).symm.trans (ct_nought_eq K)).trans h; cases h)
def env_ct_nought (K : Nat) : FuncId → Option Vm.Spec := addS (env_ref05_Cur K) 35 (ct_nought_spec K)
theorem env_ct_nought_ok (K : Nat) : EnvOk Try.prog (env_ct_nought K) := addS_ok (env_ref05_Cur_ok K) (.inl ⟨callable Try.func35 (by kernel_rfl) (by kernel_rfl), ct_nought_ok K⟩)
def ct_is_dec : List U → Option (Bool) := fun | [.b c0] => some (c0) | _ => none
def ct_is_enc : (Bool) → List U := fun r => [.b r]
def ct_is (K : Nat) (x0 : Int) (x1 : Int) : Option (Bool) := ((money_Digits K x1).bind fun r0 => (bi (decide (x0 ≥ 1))
 (bi (decide (x0 ≤ 8))
 (some (r0.snd == 0))
 (some false))
 (some false)))
theorem ct_is_eq (K : Nat) (x0 : Int) (x1 : Int) : (runFK Try.prog (env_ct_nought K) (lenv0) Try.f39 [.one (.int .i64), .one (.int .i64)] [.one (.bool)] ct_is_dec [.i x0, .i x1]).den2 = ct_is K x0 x1 := by kernel_rfl
def ct_is_w (K : Nat) : List U → Option (Bool) := fun | [.i x0, .i x1] => ct_is K x0 x1 | _ => none
def ct_is_spec (K : Nat) : Vm.Spec := ⟨[.one (.int .i64), .one (.int .i64)], [.one (.bool)], Bool, ct_is_w K, ct_is_enc⟩
theorem ct_is_ok (K : Nat) : FnOk Try.prog 39 (ct_is_spec K) := fn_okK' hmix (env_ct_nought_ok K) (lenv := lenv0) (args := [.one (.int .i64), .one (.int .i64)]) (res := [.one (.bool)]) (G := ct_is_w K) (enc := ct_is_enc) Try.func39 (lps_fn (l := []) (by kernel_rfl) trivial) (dec := ct_is_dec) (fun u r h => by unfold ct_is_dec at h; split at h; (cases h; rfl); cases h) (fun us r h => by unfold ct_is_w at h; split at h; exact ((den2_eq _).symm.trans (ct_is_eq K _ _)).trans h; cases h)
def env_ct_is (K : Nat) : FuncId → Option Vm.Spec := addS (env_ct_nought K) 39 (ct_is_spec K)
theorem env_ct_is_ok (K : Nat) : EnvOk Try.prog (env_ct_is K) := addS_ok (env_ct_nought_ok K) (.inl ⟨callable Try.func39 (by kernel_rfl) (by kernel_rfl), ct_is_ok K⟩)
def ct_power_l3_pre : Vm.Pat := ⟨16, [(5, .pv (.one (.int .i64))), (6, .pv (.one (.int .i64))), (2, .box 0 0), (3, .box 1 0)], [.cells [.int .i64, .int .u64, .int .i64], .cells [.int .i64, .int .u64, .int .i64]], []⟩
def ct_power_l3_post0 : Vm.Pat := ⟨16, [(2, .box 0 0), (3, .box 1 0)], [.cells [.int .i64, .int .u64, .int .i64], .cells [.int .i64, .int .u64, .int .i64]], []⟩
def ct_power_l3_enc0 : Int × Int × Int × Int × Int × Int → List U := fun r => [.i r.1, .i r.2.1, .i r.2.2.1, .i r.2.2.2.1, .i r.2.2.2.2.1, .i r.2.2.2.2.2]
def ct_power_l3_dec0 : List U → Option (Int × Int × Int × Int × Int × Int) := fun | [.i x2_0, .i x2_1, .i x2_2, .i x3_0, .i x3_1, .i x3_2] => some (x2_0, x2_1, x2_2, x3_0, x3_1, x3_2) | _ => none
def ct_power_l3 (K : Nat) : Nat → Int → Int → Int → Int → Int → Int → Int → Int → Option (Int × Int × Int × Int × Int × Int)
 | 0, _, _, _, _, _, _, _, _ => none
 | k + 1, x5, x6, x2_0, x2_1, x2_2, x3_0, x3_1, x3_2 => (bi (decide (x6 < x5))
 ((dec_Mul K x3_0 x3_1 x3_2 0 10 0 0 0).bind fun r0 => (ct_power_l3 K k (x5) (IntKind.i64.wrap (x6 + 1)) (x2_0) (x2_1) (x2_2) (r0.fst) (r0.snd.fst) (r0.snd.snd.fst)))
 (some ((x2_0, x2_1, x2_2, x3_0, x3_1, x3_2))))
def ct_power_l3_w (K k : Nat) : List U → Option (Int × Int × Int × Int × Int × Int) := fun | [.i x5, .i x6, .i x2_0, .i x2_1, .i x2_2, .i x3_0, .i x3_1, .i x3_2] => ct_power_l3 K k x5 x6 x2_0 x2_1 x2_2 x3_0 x3_1 x3_2 | _ => none
theorem ct_power_l3_eq (K k : Nat) (x5 : Int) (x6 : Int) (x2_0 : Int) (x2_1 : Int) (x2_2 : Int) (x3_0 : Int) (x3_1 : Int) (x3_2 : Int) : (round1K Try.prog (env_ct_is K) (lenv0) (lp (bodyOf Try.f45) 0) ct_power_l3_pre (.exit 0) ct_power_l3_post0 ct_power_l3_dec0 (ct_power_l3_w K k) [.i x5, .i x6, .i x2_0, .i x2_1, .i x2_2, .i x3_0, .i x3_1, .i x3_2]).den2 = ct_power_l3 K (k + 1) x5 x6 x2_0 x2_1 x2_2 x3_0 x3_1 x3_2 := by kernel_rfl
def ct_power_l3_s (K : Nat) : Vm.LS := .one ct_power_l3_pre _ (.exit 0) ct_power_l3_post0 (ct_power_l3_w K K) ct_power_l3_enc0
theorem ct_power_l3_ok (K : Nat) : LoopOk Try.prog (lp (bodyOf Try.f45) 0) (ct_power_l3_s K) := loop_oneK hmix (env_ct_is_ok K) (lenv := lenv0) (L := ct_power_l3_w K) (enc := ct_power_l3_enc0) (dec := ct_power_l3_dec0) (lps_ok (l := []) (by kernel_rfl) trivial) (fun u r h => by unfold ct_power_l3_dec0 at h; split at h; (cases h; rfl); cases h) (fun us => by unfold ct_power_l3_w; split <;> first | rfl | (simp only [ct_power_l3])) (fun k us r h => by unfold ct_power_l3_w at h; split at h; exact ((den2_eq _).symm.trans (ct_power_l3_eq K k _ _ _ _ _ _ _ _)).trans h; cases h) K
def ct_power_v3 (K : Nat) : Nat → Option Vm.LS := addL (lenv0) 3 (ct_power_l3_s K)
def ct_power_dec : List U → Option (Int × Int × Int) := fun | [.i x0_0, .i x0_1, .i x0_2] => some (x0_0, x0_1, x0_2) | _ => none
def ct_power_enc : (Int × Int × Int) → List U := fun r => [.i r.1, .i r.2.1, .i r.2.2]
def ct_power (K : Nat) (x0 : Int) : Option (Int × Int × Int) := ((ct_power_l3 K K x0 0 0 0 0 0 1 0).bind fun r0 => (some ((r0.snd.snd.snd.fst, r0.snd.snd.snd.snd.fst, r0.snd.snd.snd.snd.snd))))
theorem ct_power_eq (K : Nat) (x0 : Int) : (runFK Try.prog (env_ct_is K) (ct_power_v3 K) Try.f45 [.one (.int .i64)] [.agg [.int .i64, .int .u64, .int .i64]] ct_power_dec [.i x0]).den2 = ct_power K x0 := by kernel_rfl
def ct_power_w (K : Nat) : List U → Option (Int × Int × Int) := fun | [.i x0] => ct_power K x0 | _ => none
def ct_power_spec (K : Nat) : Vm.Spec := ⟨[.one (.int .i64)], [.agg [.int .i64, .int .u64, .int .i64]], Int × Int × Int, ct_power_w K, ct_power_enc⟩
theorem ct_power_ok (K : Nat) : FnOk Try.prog 45 (ct_power_spec K) := fn_okK' hmix (env_ct_is_ok K) (lenv := ct_power_v3 K) (args := [.one (.int .i64)]) (res := [.agg [.int .i64, .int .u64, .int .i64]]) (G := ct_power_w K) (enc := ct_power_enc) Try.func45 (lps_fn (l := [lp (bodyOf Try.f45) 0]) (by kernel_rfl) ⟨⟨3, ct_power_l3_s K, by kernel_rfl, by kernel_rfl, ct_power_l3_ok K⟩, trivial⟩) (dec := ct_power_dec) (fun u r h => by unfold ct_power_dec at h; split at h; (cases h; rfl); cases h) (fun us r h => by unfold ct_power_w at h; split at h; exact ((den2_eq _).symm.trans (ct_power_eq K _)).trans h; cases h)
def env_ct_power (K : Nat) : FuncId → Option Vm.Spec := addS (env_ct_is K) 45 (ct_power_spec K)
theorem env_ct_power_ok (K : Nat) : EnvOk Try.prog (env_ct_power K) := addS_ok (env_ct_is_ok K) (.inl ⟨callable Try.func45 (by kernel_rfl) (by kernel_rfl), ct_power_ok K⟩)
def ct_within_dec : List U → Option (Bool) := fun | [.b c0] => some (c0) | _ => none
def ct_within_enc : (Bool) → List U := fun r => [.b r]
def ct_within (K : Nat) (x0_0 : Int) (x0_1 : Int) (x0_2 : Int) (x1 : Int) : Option (Bool) := ((ct_power K x1).bind fun r0 => ((dec_Neg K r0.fst r0.snd.fst r0.snd.snd).bind fun r1 => ((dec_Cmp K x0_0 x0_1 x0_2 r0.fst r0.snd.fst r0.snd.snd).bind fun r2 => ((dec_Cmp K r1.fst r1.snd.fst r1.snd.snd.fst x0_0 x0_1 x0_2).bind fun r3 => (bi (decide (r2.fst ≤ 0))
 (some (decide (r3.fst ≤ 0)))
 (some false))))))
theorem ct_within_eq (K : Nat) (x0_0 : Int) (x0_1 : Int) (x0_2 : Int) (x1 : Int) : (runFK Try.prog (env_ct_power K) (lenv0) Try.f25 [.agg [.int .i64, .int .u64, .int .i64], .one (.int .i64)] [.one (.bool)] ct_within_dec [.i x0_0, .i x0_1, .i x0_2, .i x1]).den2 = ct_within K x0_0 x0_1 x0_2 x1 := by kernel_rfl
def ct_within_w (K : Nat) : List U → Option (Bool) := fun | [.i x0_0, .i x0_1, .i x0_2, .i x1] => ct_within K x0_0 x0_1 x0_2 x1 | _ => none
def ct_within_spec (K : Nat) : Vm.Spec := ⟨[.agg [.int .i64, .int .u64, .int .i64], .one (.int .i64)], [.one (.bool)], Bool, ct_within_w K, ct_within_enc⟩
theorem ct_within_ok (K : Nat) : FnOk Try.prog 25 (ct_within_spec K) := fn_okK' hmix (env_ct_power_ok K) (lenv := lenv0) (args := [.agg [.int .i64, .int .u64, .int .i64], .one (.int .i64)]) (res := [.one (.bool)]) (G := ct_within_w K) (enc := ct_within_enc) Try.func25 (lps_fn (l := []) (by kernel_rfl) trivial) (dec := ct_within_dec) (fun u r h => by unfold ct_within_dec at h; split at h; (cases h; rfl); cases h) (fun us r h => by unfold ct_within_w at h; split at h; exact ((den2_eq _).symm.trans (ct_within_eq K _ _ _ _)).trans h; cases h)
def env_ct_within (K : Nat) : FuncId → Option Vm.Spec := addS (env_ct_power K) 25 (ct_within_spec K)
theorem env_ct_within_ok (K : Nat) : EnvOk Try.prog (env_ct_within K) := addS_ok (env_ct_power_ok K) (.inl ⟨callable Try.func25 (by kernel_rfl) (by kernel_rfl), ct_within_ok K⟩)
def ct_check_l3_pre : Vm.Pat := ⟨39, [(0, .pv (.one (.recs [.i64, .i64, .i64, .u64, .i64] false))), (3, .pv (.one (.int .i64))), (6, .pv (.one (.recs [.i64, .i64, .i64, .u64, .i64] false))), (7, .pv (.one (.int .i64))), (8, .pv (.one (.int .i64)))], [], []⟩
def ct_check_l3_post0 : Vm.Pat := ⟨39, [(0, .pv (.one (.recs [.i64, .i64, .i64, .u64, .i64] false))), (3, .pv (.one (.int .i64)))], [], []⟩
def ct_check_l3_enc0 : List (List Int) × Int → List U := fun r => [.rr r.1, .i r.2]
def ct_check_l3_dec0 : List U → Option (List (List Int) × Int) := fun | [.rr q0, .i x3] => some (q0, x3) | _ => none
def ct_check_l3_post1 : Vm.Pat := ⟨39, [(2, .pv (.one (.int .i64)))], [], []⟩
def ct_check_l3_enc1 : Int → List U := fun r => [.i r]
def ct_check_l3_dec1 : List U → Option (Int) := fun | [.i x2] => some (x2) | _ => none
def ct_check_l3 (K : Nat) : Nat → List (List Int) → Int → List (List Int) → Int → Int → Option ((List (List Int) × Int) ⊕ (Int))
 | 0, _, _, _, _, _ => none
 | k + 1, q0, x3, q6, x7, x8 => (bi (decide (x8 < x7))
 (bi (decide (0 ≤ x8) && decide (x8 < (↑q6.length : Int)))
 ((ct_is K
 (nth 0 (nth [] q6 x8.toNat) 0)
 (nth 0 (nth [] q6 x8.toNat) 1)).bind fun r0 => (bi (!r0)
 (some (Sum.inr 1))
 ((dec_Check K
 (nth 0 (nth [] q6 x8.toNat) 2)
 (nth 0 (nth [] q6 x8.toNat) 3)
 (nth 0 (nth [] q6 x8.toNat) 4)).bind fun r1 => (bi (r1 != 0)
 (ct_check_l3 K k (q0) (3) (q6) (x7) (IntKind.i64.wrap (x8 + 1)))
 (bi (decide (nth 0 (nth [] q6 x8.toNat) 4 > 12))
 (ct_check_l3 K k (q0) (3) (q6) (x7) (IntKind.i64.wrap (x8 + 1)))
 ((ct_within K
 (nth 0 (nth [] q6 x8.toNat) 2)
 (nth 0 (nth [] q6 x8.toNat) 3)
 (nth 0 (nth [] q6 x8.toNat) 4) 20).bind fun r2 => (bi (!r2)
 (ct_check_l3 K k (q0) (3) (q6) (x7) (IntKind.i64.wrap (x8 + 1)))
 (ct_check_l3 K k (q0) (x3) (q6) (x7) (IntKind.i64.wrap (x8 + 1))))))))))
 none)
 (some (Sum.inl (q0, x3))))
def ct_check_l3_w (K k : Nat) : List U → Option ((List (List Int) × Int) ⊕ (Int)) := fun | [.rr q0, .i x3, .rr q6, .i x7, .i x8] => ct_check_l3 K k q0 x3 q6 x7 x8 | _ => none
theorem ct_check_l3_eq (K k : Nat) (q0 : List (List Int)) (x3 : Int) (q6 : List (List Int)) (x7 : Int) (x8 : Int) : (round2K Try.prog (env_ct_within K) (lenv0) (lp (bodyOf Try.f23) 0) ct_check_l3_pre (.exit 0) ct_check_l3_post0 .ret ct_check_l3_post1 ct_check_l3_dec0 ct_check_l3_dec1 (ct_check_l3_w K k) [.rr q0, .i x3, .rr q6, .i x7, .i x8]).den2 = ct_check_l3 K (k + 1) q0 x3 q6 x7 x8 := by kernel_rfl
def ct_check_l3_s (K : Nat) : Vm.LS := .two ct_check_l3_pre _ _ (.exit 0) ct_check_l3_post0 .ret ct_check_l3_post1 (ct_check_l3_w K K) ct_check_l3_enc0 ct_check_l3_enc1
theorem ct_check_l3_ok (K : Nat) : LoopOk Try.prog (lp (bodyOf Try.f23) 0) (ct_check_l3_s K) := loop_twoK hmix (env_ct_within_ok K) (lenv := lenv0) (L := ct_check_l3_w K) (enc := ct_check_l3_enc0) (dec := ct_check_l3_dec0) (enc' := ct_check_l3_enc1) (dec' := ct_check_l3_dec1) (lps_ok (l := []) (by kernel_rfl) trivial) (fun u r h => by unfold ct_check_l3_dec0 at h; split at h; (cases h; rfl); cases h) (fun u r h => by unfold ct_check_l3_dec1 at h; split at h; (cases h; rfl); cases h) (fun us => by unfold ct_check_l3_w; split <;> first | rfl | (simp only [ct_check_l3])) (fun k us r h => by unfold ct_check_l3_w at h; split at h; exact ((den2_eq _).symm.trans (ct_check_l3_eq K k _ _ _ _ _)).trans h; cases h) K
def ct_check_v3 (K : Nat) : Nat → Option Vm.LS := addL (lenv0) 3 (ct_check_l3_s K)
def ct_check_dec : List U → Option (Int) := fun | [.i x0] => some (x0) | _ => none
def ct_check_enc : (Int) → List U := fun r => [.i r]
def ct_check (K : Nat) (q0 : List (List Int)) : Option (Int) := (casO (ct_check_l3 K K q0 0 q0 (↑q0.length : Int) 0) (fun r0 => (bi (decide ((↑r0.fst.length : Int) > 16))
 (some (2))
 (some (r0.snd)))) (fun r1 => (some r1)))
theorem ct_check_eq (K : Nat) (q0 : List (List Int)) : (runFK Try.prog (env_ct_within K) (ct_check_v3 K) Try.f23 [.one (.recs [.i64, .i64, .i64, .u64, .i64] false)] [.one (.int .i64)] ct_check_dec [.rr q0]).den2 = ct_check K q0 := by kernel_rfl
def ct_check_w (K : Nat) : List U → Option (Int) := fun | [.rr q0] => ct_check K q0 | _ => none
def ct_check_spec (K : Nat) : Vm.Spec := ⟨[.one (.recs [.i64, .i64, .i64, .u64, .i64] false)], [.one (.int .i64)], Int, ct_check_w K, ct_check_enc⟩
theorem ct_check_ok (K : Nat) : FnOk Try.prog 23 (ct_check_spec K) := fn_okK' hmix (env_ct_within_ok K) (lenv := ct_check_v3 K) (args := [.one (.recs [.i64, .i64, .i64, .u64, .i64] false)]) (res := [.one (.int .i64)]) (G := ct_check_w K) (enc := ct_check_enc) Try.func23 (lps_fn (l := [lp (bodyOf Try.f23) 0]) (by kernel_rfl) ⟨⟨3, ct_check_l3_s K, by kernel_rfl, by kernel_rfl, ct_check_l3_ok K⟩, trivial⟩) (dec := ct_check_dec) (fun u r h => by unfold ct_check_dec at h; split at h; (cases h; rfl); cases h) (fun us r h => by unfold ct_check_w at h; split at h; exact ((den2_eq _).symm.trans (ct_check_eq K _)).trans h; cases h)
def env_ct_check (K : Nat) : FuncId → Option Vm.Spec := addS (env_ct_within K) 23 (ct_check_spec K)
theorem env_ct_check_ok (K : Nat) : EnvOk Try.prog (env_ct_check K) := addS_ok (env_ct_within_ok K) (.inl ⟨callable Try.func23 (by kernel_rfl) (by kernel_rfl), ct_check_ok K⟩)
def ct_at_dec : List U → Option (Int × Int × Int × MpT) := fun | [.i x0_0, .i x0_1, .i x0_2, .m m1] => some (x0_0, x0_1, x0_2, m1) | _ => none
def ct_at_enc : (Int × Int × Int × MpT) → List U := fun r => [.i r.1, .i r.2.1, .i r.2.2.1, .m r.2.2.2]
def ct_at (K : Nat) (m0 : MpT) (x1_0 : Int) (x1_1 : Int) : Option (Int × Int × Int × MpT) := (bi (mhas m0 [x1_0, x1_1])
 (some ((nth 0 (mget m0 [x1_0, x1_1] [0, 0, 0]) 0,
 nth 0 (mget m0 [x1_0, x1_1] [0, 0, 0]) 1,
 nth 0 (mget m0 [x1_0, x1_1] [0, 0, 0]) 2, m0)))
 ((ct_nought K).bind fun r0 => (some ((r0.fst, r0.snd.fst, r0.snd.snd, m0)))))
theorem ct_at_eq (K : Nat) (m0 : MpT) (x1_0 : Int) (x1_1 : Int) : (runFK Try.prog (env_ct_check K) (lenv0) Try.f34 [.one (.map [.i64, .i64] [.i64, .u64, .i64]), .agg [.int .i64, .int .i64]] [.agg [.int .i64, .int .u64, .int .i64]] ct_at_dec [.m m0, .i x1_0, .i x1_1]).den2 = ct_at K m0 x1_0 x1_1 := by kernel_rfl
def ct_at_w (K : Nat) : List U → Option (Int × Int × Int × MpT) := fun | [.m m0, .i x1_0, .i x1_1] => ct_at K m0 x1_0 x1_1 | _ => none
def ct_at_spec (K : Nat) : Vm.Spec := ⟨[.one (.map [.i64, .i64] [.i64, .u64, .i64]), .agg [.int .i64, .int .i64]], [.agg [.int .i64, .int .u64, .int .i64]], Int × Int × Int × MpT, ct_at_w K, ct_at_enc⟩
theorem ct_at_ok (K : Nat) : FnOk Try.prog 34 (ct_at_spec K) := fn_okK' hmix (env_ct_check_ok K) (lenv := lenv0) (args := [.one (.map [.i64, .i64] [.i64, .u64, .i64]), .agg [.int .i64, .int .i64]]) (res := [.agg [.int .i64, .int .u64, .int .i64]]) (G := ct_at_w K) (enc := ct_at_enc) Try.func34 (lps_fn (l := []) (by kernel_rfl) trivial) (dec := ct_at_dec) (fun u r h => by unfold ct_at_dec at h; split at h; (cases h; rfl); cases h) (fun us r h => by unfold ct_at_w at h; split at h; exact ((den2_eq _).symm.trans (ct_at_eq K _ _ _)).trans h; cases h)
def env_ct_at (K : Nat) : FuncId → Option Vm.Spec := addS (env_ct_check K) 34 (ct_at_spec K)
theorem env_ct_at_ok (K : Nat) : EnvOk Try.prog (env_ct_at K) := addS_ok (env_ct_check_ok K) (.inl ⟨callable Try.func34 (by kernel_rfl) (by kernel_rfl), ct_at_ok K⟩)
def ct_balanced_l9_pre : Vm.Pat := ⟨40, [], [], []⟩
def ct_balanced_l9_enc0 : Unit → List U := fun _ => []
def ct_balanced_l9_dec0 : List U → Option (Unit) := fun | [] => some () | _ => none
def ct_balanced_l9_post1 : Vm.Pat := ⟨40, [(2, .pv (.one (.bool)))], [], []⟩
def ct_balanced_l9_enc1 : Bool → List U := fun r => [.b r]
def ct_balanced_l9_dec1 : List U → Option (Bool) := fun | [.b c2] => some (c2) | _ => none
noncomputable def ct_balanced_l9_sh : MS := msOf (mpAt 8 (bodyOf Try.f26))
def ct_balanced_l9_rd (K : Nat) (kv : E2)  : Option (List U ⊕ Bool) := ((ct_nought K).bind fun r0 => (bi (!(nth 0 kv.snd 0 == r0.fst &&
 (nth 0 kv.snd 1 == r0.snd.fst &&
 (nth 0 kv.snd 2 == r0.snd.snd && true))))
 (some (Sum.inr false))
 (some (Sum.inl ([] ++ [])))))
def ct_balanced_l9_w (K : Nat) : E2 → List U → Option (List U ⊕ Bool) := fun kv us => match us with | [] => ct_balanced_l9_rd K kv  | _ => none
def ct_balanced_l9 (K : Nat) (es : List E2)  : Option (Unit ⊕ Bool) := mapsB (ct_balanced_l9_w K) ct_balanced_l9_dec0 es []
def ct_balanced_l9L_w (K : Nat) : List E2 → List U → Option (Unit ⊕ Bool) := fun es us => match us with | [] => ct_balanced_l9 K es  | _ => none
def ct_balanced_l9_s (K : Nat) : MLS := ⟨[.i64, .i64], [.i64, .u64, .i64], ct_balanced_l9_pre, Unit, Bool, .ret, ct_balanced_l9_post1, ct_balanced_l9L_w K, ct_balanced_l9_enc0, ct_balanced_l9_enc1⟩
def ct_balanced_mv (K : Nat) : Nat → Option (MS × MLS) := menv1 8 ct_balanced_l9_sh (ct_balanced_l9_s K)
theorem ct_balanced_l9_eq (K : Nat) (kv : E2)  : (roundM Try.prog (env_ct_at K) (lenv0) ct_balanced_l9_sh [.i64, .i64] [.i64, .u64, .i64] ct_balanced_l9_pre .ret ct_balanced_l9_post1 ct_balanced_l9_dec1 kv []).den2 = ct_balanced_l9_rd K kv  := by kernel_rfl
theorem ct_balanced_l9_ok (K : Nat) : ∀ s e s', (runML Try.prog ct_balanced_l9_sh (ct_balanced_l9_s K) s).den = some (e, s') → ∀ A w0, Vm.Comes Try.prog A w0 (mpAt 8 (bodyOf Try.f26)) s e s' := mapLoop_ok hmix (env_ct_at_ok K) (lenv := lenv0) (C := mpAt 8 (bodyOf Try.f26)) (sh := ct_balanced_l9_sh) (kk := [.i64, .i64]) (vk := [.i64, .u64, .i64]) (pre := ct_balanced_l9_pre) (ex' := .ret) (post' := ct_balanced_l9_post1) (mpOf_spec (by kernel_rfl : mpOf (mpAt 8 (bodyOf Try.f26)) = some ct_balanced_l9_sh)) (lps_ok (l := []) (by kernel_rfl) trivial) (rnd := ct_balanced_l9_w K) (dec := ct_balanced_l9_dec0) (enc := ct_balanced_l9_enc0) (dec' := ct_balanced_l9_dec1) (enc' := ct_balanced_l9_enc1) (L := ct_balanced_l9L_w K) (fun k h => by cases h) (fun u r h => by unfold ct_balanced_l9_dec0 at h; split at h; (cases h; rfl); cases h) (fun u r h => by unfold ct_balanced_l9_dec1 at h; split at h; (cases h; rfl); cases h) (fun kv us x h => by unfold ct_balanced_l9_w at h; split at h; exact ((den2_eq _).symm.trans (ct_balanced_l9_eq K kv)).trans h; cases h) (fun es us r h => by unfold ct_balanced_l9L_w at h; split at h; exact h; cases h)
def ct_balanced_l3_pre : Vm.Pat := ⟨40, [(10, .pv (.one (.recs [.i64, .i64, .i64, .u64, .i64] false))), (11, .pv (.one (.int .i64))), (12, .pv (.one (.int .i64))), (3, .mapr 0)], [.map [.i64, .i64] [.i64, .u64, .i64]], []⟩
def ct_balanced_l3_post0 : Vm.Pat := ⟨40, [(3, .mapr 0)], [.map [.i64, .i64] [.i64, .u64, .i64]], []⟩
def ct_balanced_l3_enc0 : MpT → List U := fun r => [.m r]
def ct_balanced_l3_dec0 : List U → Option (MpT) := fun | [.m m3] => some (m3) | _ => none
def ct_balanced_l3 (K : Nat) : Nat → List (List Int) → Int → Int → MpT → Option (MpT)
 | 0, _, _, _, _ => none
 | k + 1, q10, x11, x12, m3 => (bi (decide (x12 < x11))
 (bi (decide (0 ≤ x12) && decide (x12 < (↑q10.length : Int)))
 ((ct_at K m3 0
 (nth 0 (nth [] q10 x12.toNat) 1)).bind fun r0 => ((dec_Add K r0.fst r0.snd.fst r0.snd.snd.fst
 (nth 0 (nth [] q10 x12.toNat) 2)
 (nth 0 (nth [] q10 x12.toNat) 3)
 (nth 0 (nth [] q10 x12.toNat) 4)).bind fun r1 => (ct_balanced_l3 K k (q10) (x11) (IntKind.i64.wrap (x12 + 1)) (mset r0.snd.snd.snd
 [0, nth 0 (nth [] q10 x12.toNat) 1]
 [r1.fst, r1.snd.fst, r1.snd.snd.fst]))))
 none)
 (some m3))
def ct_balanced_l3_w (K k : Nat) : List U → Option (MpT) := fun | [.rr q10, .i x11, .i x12, .m m3] => ct_balanced_l3 K k q10 x11 x12 m3 | _ => none
theorem ct_balanced_l3_eq (K k : Nat) (q10 : List (List Int)) (x11 : Int) (x12 : Int) (m3 : MpT) : (round1K Try.prog (env_ct_at K) (lenv0) (lp (bodyOf Try.f26) 0) ct_balanced_l3_pre (.exit 0) ct_balanced_l3_post0 ct_balanced_l3_dec0 (ct_balanced_l3_w K k) [.rr q10, .i x11, .i x12, .m m3]).den2 = ct_balanced_l3 K (k + 1) q10 x11 x12 m3 := by kernel_rfl
def ct_balanced_l3_s (K : Nat) : Vm.LS := .one ct_balanced_l3_pre _ (.exit 0) ct_balanced_l3_post0 (ct_balanced_l3_w K K) ct_balanced_l3_enc0
theorem ct_balanced_l3_ok (K : Nat) : LoopOk Try.prog (lp (bodyOf Try.f26) 0) (ct_balanced_l3_s K) := loop_oneK hmix (env_ct_at_ok K) (lenv := lenv0) (L := ct_balanced_l3_w K) (enc := ct_balanced_l3_enc0) (dec := ct_balanced_l3_dec0) (lps_ok (l := []) (by kernel_rfl) trivial) (fun u r h => by unfold ct_balanced_l3_dec0 at h; split at h; (cases h; rfl); cases h) (fun us => by unfold ct_balanced_l3_w; split <;> first | rfl | (simp only [ct_balanced_l3])) (fun k us r h => by unfold ct_balanced_l3_w at h; split at h; exact ((den2_eq _).symm.trans (ct_balanced_l3_eq K k _ _ _ _)).trans h; cases h) K
def ct_balanced_v3 (K : Nat) : Nat → Option Vm.LS := addL (lenv0) 3 (ct_balanced_l3_s K)
def ct_balanced_dec : List U → Option (Bool) := fun | [.b c0] => some (c0) | _ => none
def ct_balanced_enc : (Bool) → List U := fun r => [.b r]
def ct_balanced (K : Nat) (q0 : List (List Int)) : Option (Bool) := ((ct_balanced_l3 K K q0 (↑q0.length : Int) 0 []).bind fun r0 => (casO (ct_balanced_l9 K r0) (fun r1 => (some true)) (fun r2 => (some r2))))
theorem ct_balanced_eq (K : Nat) (q0 : List (List Int)) : (runFM Try.prog (env_ct_at K) (ct_balanced_v3 K) (ct_balanced_mv K) Try.f26 [.one (.recs [.i64, .i64, .i64, .u64, .i64] false)] [.one (.bool)] ct_balanced_dec [.rr q0]).den2 = ct_balanced K q0 := by kernel_rfl
def ct_balanced_w (K : Nat) : List U → Option (Bool) := fun | [.rr q0] => ct_balanced K q0 | _ => none
def ct_balanced_spec (K : Nat) : Vm.Spec := ⟨[.one (.recs [.i64, .i64, .i64, .u64, .i64] false)], [.one (.bool)], Bool, ct_balanced_w K, ct_balanced_enc⟩
theorem ct_balanced_ok (K : Nat) : FnOk Try.prog 26 (ct_balanced_spec K) := fn_okM hmix (env_ct_at_ok K) (lenv := ct_balanced_v3 K) (menv := ct_balanced_mv K) (args := [.one (.recs [.i64, .i64, .i64, .u64, .i64] false)]) (res := [.one (.bool)]) (G := ct_balanced_w K) (enc := ct_balanced_enc) Try.func26 (fun c hc => ⟨lps_fnM (l := [lp (bodyOf Try.f26) 0, lp (bodyOf Try.f26) 1]) (by kernel_rfl) ⟨.inr ⟨3, ct_balanced_l3_s K, by kernel_rfl, by kernel_rfl, ct_balanced_l3_ok K⟩, ⟨.inl ⟨9, by kernel_rfl, by kernel_rfl⟩, trivial⟩⟩ c hc, mpOk_fn (by kernel_rfl) (ct_balanced_l9_ok K) c hc⟩) (dec := ct_balanced_dec) (fun u r h => by unfold ct_balanced_dec at h; split at h; (cases h; rfl); cases h) (fun us r h => by unfold ct_balanced_w at h; split at h; exact ((den2_eq _).symm.trans (ct_balanced_eq K _)).trans h; cases h)
def env_ct_balanced (K : Nat) : FuncId → Option Vm.Spec := addS (env_ct_at K) 26 (ct_balanced_spec K)
theorem env_ct_balanced_ok (K : Nat) : EnvOk Try.prog (env_ct_balanced K) := addS_ok (env_ct_at_ok K) (.inl ⟨callable Try.func26 (by kernel_rfl) (by kernel_rfl), ct_balanced_ok K⟩)
namespace Cl
noncomputable abbrev P : Program := Try.prog
theorem eql_nil (w : World) (d : Nat) (p : Option Nat) : (Op.equalIn (d + 1) 60 (.map p) (.map none)).run P w = .ok p.isNone w := by
  have h : P.underlying 60 = some (.map 65 37) := by kernel_rfl
  cases p <;> simp [Op.equalIn, run_underlying h]
theorem bin_nil (w : World) (p : Option Nat) : (binOp .eql 60 (.map p) (.map none)).run P w = .ok (.bool p.isNone) w := by
  simp only [binOp]
  simp [show Op.equal 60 (.map p) (.map none) = Op.equalIn (9999 + 1) 60 (.map p) (.map none) from rfl, eql_nil w 9999 p]
theorem assert_map (w : World) (v : Value) : (Instr.typeAssert (.iface 60 v) 20 60 false).run P w = .ok v w := by
  have h : P.underlying 60 = some (.map 65 37) := by kernel_rfl
  simp [Instr.typeAssert, run_underlying h, go_sem, Result.andThen]
theorem clone_run {w : World} {r : Nat} {es : Array MapEntry} {clock : Nat} (hb : w.heap[r]? = some (.map es clock)) :
    (Extern.MapsClone.clone #[.iface 60 (.map (some r))]).run P w = .ok (.iface 60 (.map (some w.heap.size))) (w.alloc (.map es clock)) := by
  have e : Extern.MapsClone.clone #[.iface 60 (.map (some r))] = (getObj r >>= fun o => match o with
      | .map entries clock => (newObj (.map entries clock) >>= fun n => pure (.iface 60 (.map (some n))))
      | _ => stuck "maps.clone: a map expected") := rfl
  rw [e]
  simp [MapKept.run_getObj_map hb, Result.andThen, go_sem]
set_option maxHeartbeats 400000 in
theorem calls (b : Nat) (es : Array MapEntry) (clock : Nat) (w : World) (hb : w.heap[b]? = some (.map es clock)) :
    Calls P 44 #[.map (some b)] w fun e w' => e = .returned (.map (some w.heap.size)) ∧ w' = w.alloc (.map es clock) := by
  have mixed : P.follows .mixedOrders = true := hmix
  have t4 : P.underlying 4 = some .bool := by kernel_rfl
  have t20 : P.underlying 20 = some (.interface #[]) := by kernel_rfl
  have t60 : P.underlying 60 = some (.map 65 37) := by kernel_rfl
  have a60 : ∀ w, (isAgg 60).run P w = .ok false w := fun w => by simp [isAgg, run_underlying t60]
  have a20 : ∀ w, (isAgg 20).run P w = .ok false w := fun w => by simp [isAgg, run_underlying t20]
  have a4 : ∀ w, (isAgg 4).run P w = .ok false w := fun w => by simp [isAgg, run_underlying t4]
  have hq := fun w => bin_nil w (some b)
  go_enter Try.func44, Try.ntmps44
  go_wp2
  rw [run_callFunc_extern Try.func63 (by kernel_rfl) (by kernel_rfl) (by kernel_rfl) (e := Extern.MapsClone.clone) (by kernel_rfl), clone_run hb]
  simp only [Result.andThen]
  rw [Oper.upon_value]
  go_wp2
  rw [assert_map]
  simp only [Result.andThen]
  rw [Oper.upon_value]
  go_wp2
  go_ret
  exact ⟨rfl, rfl⟩
end Cl
namespace Cl
abbrev KD : PP := .one (.map [.i64, .i64] [.i64, .u64, .i64])
def G : List U → Option (List E2 × List E2) := fun | [.m es] => some (es, es) | _ => none
def enc : List E2 × List E2 → List U := fun r => [.m r.1, .m r.2]
def spec : Vm.Spec := ⟨[KD], [KD], List E2 × List E2, G, enc⟩
def dec : List U → Option (List E2 × List E2) := fun | [.m a, .m b] => some (a, b) | _ => none
theorem ok : FnOk P 44 spec := by
  intro us r hG Z γ w Vs ps es hmk hA hM
  obtain ⟨rs, rfl, rfl⟩ : ∃ rs, us = [.m rs] ∧ r = (rs, rs) := by
    have hG : G us = some r := hG
    unfold G at hG
    split at hG
    · obtain rfl := Option.some.inj hG; exact ⟨_, rfl, rfl⟩
    · cases hG
  have hmk' : some ([PV.one (.mapr 0)], [(⟨true, .map [.i64, .i64] [.i64, .u64, .i64] rs⟩ : Ent)], ([] : List U)) = some (ps, es, []) := hmk
  simp only [Option.some.injEq, Prod.mk.injEq] at hmk'
  obtain ⟨rfl, rfl, -⟩ := hmk'
  match Vs, hA with
  | [V], hA =>
  obtain ⟨hF, ⟨g, base, hg, rfl⟩, _⟩ := hA.1
  obtain ⟨ents, clock, h1, h2⟩ := hM.maps 0 true _ _ rs g base rfl hg
  refine (Cl.calls g ents clock w h1).mono ?_
  rintro e w' ⟨rfl, rfl⟩
  have R0 := entry_rel (fn := Try.f44) hA hM
  have hfn : ∀ b, b < 1 → b ≠ 1 := fun b hb => by omega
  have hB : RelB (addN ⟨fun b => b < 1, Z⟩ 1) (addG γ 1 w.heap.size 0) (updM (memOf [⟨true, .map [.i64, .i64] [.i64, .u64, .i64] rs⟩]) [(1, some ⟨true, .map [.i64, .i64] [.i64, .u64, .i64] rs⟩)]) (w.alloc (.map ents clock)) 1 (.map [.i64, .i64] [.i64, .u64, .i64] rs) := fun i j c hc => by simp [Blk.at] at hc
  have R1 := R0.put (dst := some 2) (o := ⟨.pv (.one (.mapr 1)), [(1, some ⟨true, .map [.i64, .i64] [.i64, .u64, .i64] rs⟩)]⟩) (V := .map (some w.heap.size)) (R0.mnew hfn _ _) ⟨.inr rfl, ⟨w.heap.size, 0, by simp [addG], rfl⟩, fun e he => by
        have he : some (⟨true, .map [.i64, .i64] [.i64, .u64, .i64] rs⟩ : Ent) = some e := he
        rw [← Option.some.inj he]; rfl⟩ (R0.toMem.new hfn (fun cs t h => by cases h) (fun kk' vk' es h => by
          simp only [Blk.map.injEq] at h
          obtain ⟨rfl, rfl, rfl⟩ := h
          exact ⟨ents, clock, rfl, h2⟩) hB)
  obtain ⟨v, hv, V, hV, hans⟩ := answers (fn := Try.f44) (args := spec.args) (res := spec.res) (us := [.m rs]) (ur := [.m rs, .m rs]) (r := (rs, rs)) (dec := dec) (fun u hu => by
    unfold dec at hu
    split at hu
    · obtain ⟨rfl, rfl⟩ := by simpa using hu
      rfl
    · cases hu) hmk hA (by kernel_rfl) R1 (by
      have h0 : addG γ 1 w.heap.size 0 0 = γ 0 := by simp [addG]
      show [addG γ 1 w.heap.size 0 0] = [γ 0]
      rw [h0])
  obtain rfl : v = V := by simpa using hV
  have hr : (results Try.f44 (Act.put { tmps := [Value.map (some g)].toArray ++ Array.replicate (Try.f44.ntmps - [Value.map (some g)].toArray.size) undef, defers := [] } (some 2) (.map (some w.heap.size))).tmps).run P (w.alloc (.map ents clock)) = .ok (.map (some w.heap.size)) (w.alloc (.map ents clock)) := by kernel_rfl
  have := hv.symm.trans hr
  obtain rfl : v = .map (some w.heap.size) := by simpa using this
  exact ⟨_, rfl, hans⟩
end Cl
def env_maps_Clone (K : Nat) : FuncId → Option Vm.Spec := addS (env_ct_balanced K) 44 Cl.spec
theorem env_maps_Clone_ok (K : Nat) : EnvOk Try.prog (env_maps_Clone K) := addS_ok (env_ct_balanced_ok K) (.inl ⟨callable Try.func44 (by kernel_rfl) (by kernel_rfl), Cl.ok⟩)
def ct_posted_l3_pre : Vm.Pat := ⟨35, [(11, .pv (.one (.recs [.i64, .i64, .i64, .u64, .i64] false))), (12, .pv (.one (.int .i64))), (13, .pv (.one (.int .i64))), (0, .mapr 0), (5, .mapr 1)], [.map [.i64, .i64] [.i64, .u64, .i64], .map [.i64, .i64] [.i64, .u64, .i64]], [0]⟩
def ct_posted_l3_post0 : Vm.Pat := ⟨35, [(0, .mapr 0), (5, .mapr 1)], [.map [.i64, .i64] [.i64, .u64, .i64], .map [.i64, .i64] [.i64, .u64, .i64]], [0]⟩
def ct_posted_l3_enc0 : MpT × MpT → List U := fun r => [.m r.1, .m r.2]
def ct_posted_l3_dec0 : List U → Option (MpT × MpT) := fun | [.m m0, .m m5] => some (m0, m5) | _ => none
def ct_posted_l3 (K : Nat) : Nat → List (List Int) → Int → Int → MpT → MpT → Option (MpT × MpT)
 | 0, _, _, _, _, _ => none
 | k + 1, q11, x12, x13, m0, m5 => (bi (decide (x13 < x12))
 (bi (decide (0 ≤ x13) && decide (x13 < (↑q11.length : Int)))
 ((ct_at K m5
 (nth 0 (nth [] q11 x13.toNat) 0)
 (nth 0 (nth [] q11 x13.toNat) 1)).bind fun r0 => ((dec_Add K r0.fst r0.snd.fst r0.snd.snd.fst
 (nth 0 (nth [] q11 x13.toNat) 2)
 (nth 0 (nth [] q11 x13.toNat) 3)
 (nth 0 (nth [] q11 x13.toNat) 4)).bind fun r1 => (ct_posted_l3 K k (q11) (x12) (IntKind.i64.wrap (x13 + 1)) (m0) (mset r0.snd.snd.snd
 [nth 0 (nth [] q11 x13.toNat) 0,
 nth 0 (nth [] q11 x13.toNat) 1]
 [r1.fst, r1.snd.fst, r1.snd.snd.fst]))))
 none)
 (some ((m0, m5))))
def ct_posted_l3_w (K k : Nat) : List U → Option (MpT × MpT) := fun | [.rr q11, .i x12, .i x13, .m m0, .m m5] => ct_posted_l3 K k q11 x12 x13 m0 m5 | _ => none
theorem ct_posted_l3_eq (K k : Nat) (q11 : List (List Int)) (x12 : Int) (x13 : Int) (m0 : MpT) (m5 : MpT) : (round1K Try.prog (env_maps_Clone K) (lenv0) (lp (bodyOf Try.f24) 0) ct_posted_l3_pre (.exit 0) ct_posted_l3_post0 ct_posted_l3_dec0 (ct_posted_l3_w K k) [.rr q11, .i x12, .i x13, .m m0, .m m5]).den2 = ct_posted_l3 K (k + 1) q11 x12 x13 m0 m5 := by kernel_rfl
def ct_posted_l3_s (K : Nat) : Vm.LS := .one ct_posted_l3_pre _ (.exit 0) ct_posted_l3_post0 (ct_posted_l3_w K K) ct_posted_l3_enc0
theorem ct_posted_l3_ok (K : Nat) : LoopOk Try.prog (lp (bodyOf Try.f24) 0) (ct_posted_l3_s K) := loop_oneK hmix (env_maps_Clone_ok K) (lenv := lenv0) (L := ct_posted_l3_w K) (enc := ct_posted_l3_enc0) (dec := ct_posted_l3_dec0) (lps_ok (l := []) (by kernel_rfl) trivial) (fun u r h => by unfold ct_posted_l3_dec0 at h; split at h; (cases h; rfl); cases h) (fun us => by unfold ct_posted_l3_w; split <;> first | rfl | (simp only [ct_posted_l3])) (fun k us r h => by unfold ct_posted_l3_w at h; split at h; exact ((den2_eq _).symm.trans (ct_posted_l3_eq K k _ _ _ _ _)).trans h; cases h) K
def ct_posted_v3 (K : Nat) : Nat → Option Vm.LS := addL (lenv0) 3 (ct_posted_l3_s K)
def ct_posted_dec : List U → Option (MpT × MpT) := fun | [.m m0, .m m1] => some (m0, m1) | _ => none
def ct_posted_enc : (MpT × MpT) → List U := fun r => [.m r.1, .m r.2]
def ct_posted (K : Nat) (m0 : MpT) (q1 : List (List Int)) : Option (MpT × MpT) := ((Option.some (m0, m0)).bind fun r0 => ((ct_posted_l3 K K q1 (↑q1.length : Int) 0 r0.snd r0.fst).bind fun r1 => (some ((r1.snd, r1.fst)))))
theorem ct_posted_eq (K : Nat) (m0 : MpT) (q1 : List (List Int)) : (runFK Try.prog (env_maps_Clone K) (ct_posted_v3 K) Try.f24 [.one (.map [.i64, .i64] [.i64, .u64, .i64]), .one (.recs [.i64, .i64, .i64, .u64, .i64] false)] [.one (.map [.i64, .i64] [.i64, .u64, .i64])] ct_posted_dec [.m m0, .rr q1]).den2 = ct_posted K m0 q1 := by kernel_rfl
def ct_posted_w (K : Nat) : List U → Option (MpT × MpT) := fun | [.m m0, .rr q1] => ct_posted K m0 q1 | _ => none
def ct_posted_spec (K : Nat) : Vm.Spec := ⟨[.one (.map [.i64, .i64] [.i64, .u64, .i64]), .one (.recs [.i64, .i64, .i64, .u64, .i64] false)], [.one (.map [.i64, .i64] [.i64, .u64, .i64])], MpT × MpT, ct_posted_w K, ct_posted_enc⟩
theorem ct_posted_ok (K : Nat) : FnOk Try.prog 24 (ct_posted_spec K) := fn_okK' hmix (env_maps_Clone_ok K) (lenv := ct_posted_v3 K) (args := [.one (.map [.i64, .i64] [.i64, .u64, .i64]), .one (.recs [.i64, .i64, .i64, .u64, .i64] false)]) (res := [.one (.map [.i64, .i64] [.i64, .u64, .i64])]) (G := ct_posted_w K) (enc := ct_posted_enc) Try.func24 (lps_fn (l := [lp (bodyOf Try.f24) 0]) (by kernel_rfl) ⟨⟨3, ct_posted_l3_s K, by kernel_rfl, by kernel_rfl, ct_posted_l3_ok K⟩, trivial⟩) (dec := ct_posted_dec) (fun u r h => by unfold ct_posted_dec at h; split at h; (cases h; rfl); cases h) (fun us r h => by unfold ct_posted_w at h; split at h; exact ((den2_eq _).symm.trans (ct_posted_eq K _ _)).trans h; cases h)
def env_ct_posted (K : Nat) : FuncId → Option Vm.Spec := addS (env_maps_Clone K) 24 (ct_posted_spec K)
theorem env_ct_posted_ok (K : Nat) : EnvOk Try.prog (env_ct_posted K) := addS_ok (env_maps_Clone_ok K) (.inl ⟨callable Try.func24 (by kernel_rfl) (by kernel_rfl), ct_posted_ok K⟩)
def cL_Post_l8_pre : Vm.Pat := ⟨45, [(1, .pv (.one (.recs [.i64, .i64, .i64, .u64, .i64] false))), (0, .box 0 0)], [.cells [.map [.i64, .i64] [.i64, .u64, .i64], .int .i64]], [0]⟩
def cL_Post_l8_enc0 : List (List Int) × MpT × Int → List U := fun r => [.rr r.1, .m r.2.1, .i r.2.2]
def cL_Post_l8_dec0 : List U → Option (List (List Int) × MpT × Int) := fun | [.rr q1, .m m0_0, .i x0_1] => some (q1, m0_0, x0_1) | _ => none
def cL_Post_l8_post1 : Vm.Pat := ⟨45, [(4, .pv (.one (.int .i64))), (0, .box 0 0)], [.cells [.map [.i64, .i64] [.i64, .u64, .i64], .int .i64]], [0]⟩
def cL_Post_l8_enc1 : Int × MpT × Int → List U := fun r => [.i r.1, .m r.2.1, .i r.2.2]
def cL_Post_l8_dec1 : List U → Option (Int × MpT × Int) := fun | [.i x4, .m m0_0, .i x0_1] => some (x4, m0_0, x0_1) | _ => none
noncomputable def cL_Post_l8_sh : MS := msOf (mpAt 7 (bodyOf Try.f11))
def cL_Post_l8_rd (K : Nat) (kv : E2) (q1 : List (List Int)) (m0_0 : MpT) (x0_1 : Int) : Option (List U ⊕ Int × MpT × Int) := ((ct_within K (nth 0 kv.snd 0)
 (nth 0 kv.snd 1) (nth 0 kv.snd 2) 24).bind fun r0 => (bi (!r0)
 (some (Sum.inr (4, m0_0, x0_1)))
 (some (Sum.inl
 ([U.rr q1] ++ [] ++
 ([U.m m0_0, U.i x0_1] ++ []))))))
def cL_Post_l8_w (K : Nat) : E2 → List U → Option (List U ⊕ Int × MpT × Int) := fun kv us => match us with | [.rr q1, .m m0_0, .i x0_1] => cL_Post_l8_rd K kv q1 m0_0 x0_1 | _ => none
def cL_Post_l8 (K : Nat) (es : List E2) (q1 : List (List Int)) (m0_0 : MpT) (x0_1 : Int) : Option (List (List Int) × MpT × Int ⊕ Int × MpT × Int) := mapsB (cL_Post_l8_w K) cL_Post_l8_dec0 es [.rr q1, .m m0_0, .i x0_1]
def cL_Post_l8L_w (K : Nat) : List E2 → List U → Option (List (List Int) × MpT × Int ⊕ Int × MpT × Int) := fun es us => match us with | [.rr q1, .m m0_0, .i x0_1] => cL_Post_l8 K es q1 m0_0 x0_1 | _ => none
def cL_Post_l8_s (K : Nat) : MLS := ⟨[.i64, .i64], [.i64, .u64, .i64], cL_Post_l8_pre, List (List Int) × MpT × Int, Int × MpT × Int, .ret, cL_Post_l8_post1, cL_Post_l8L_w K, cL_Post_l8_enc0, cL_Post_l8_enc1⟩
def cL_Post_mv (K : Nat) : Nat → Option (MS × MLS) := menv1 7 cL_Post_l8_sh (cL_Post_l8_s K)
theorem cL_Post_l8_eq (K : Nat) (kv : E2) (q1 : List (List Int)) (m0_0 : MpT) (x0_1 : Int) : (roundM Try.prog (env_ct_posted K) (lenv0) cL_Post_l8_sh [.i64, .i64] [.i64, .u64, .i64] cL_Post_l8_pre .ret cL_Post_l8_post1 cL_Post_l8_dec1 kv [.rr q1, .m m0_0, .i x0_1]).den2 = cL_Post_l8_rd K kv q1 m0_0 x0_1 := by kernel_rfl
theorem cL_Post_l8_ok (K : Nat) : ∀ s e s', (runML Try.prog cL_Post_l8_sh (cL_Post_l8_s K) s).den = some (e, s') → ∀ A w0, Vm.Comes Try.prog A w0 (mpAt 7 (bodyOf Try.f11)) s e s' := mapLoop_ok hmix (env_ct_posted_ok K) (lenv := lenv0) (C := mpAt 7 (bodyOf Try.f11)) (sh := cL_Post_l8_sh) (kk := [.i64, .i64]) (vk := [.i64, .u64, .i64]) (pre := cL_Post_l8_pre) (ex' := .ret) (post' := cL_Post_l8_post1) (mpOf_spec (by kernel_rfl : mpOf (mpAt 7 (bodyOf Try.f11)) = some cL_Post_l8_sh)) (lps_ok (l := []) (by kernel_rfl) trivial) (rnd := cL_Post_l8_w K) (dec := cL_Post_l8_dec0) (enc := cL_Post_l8_enc0) (dec' := cL_Post_l8_dec1) (enc' := cL_Post_l8_enc1) (L := cL_Post_l8L_w K) (fun k h => by cases h) (fun u r h => by unfold cL_Post_l8_dec0 at h; split at h; (cases h; rfl); cases h) (fun u r h => by unfold cL_Post_l8_dec1 at h; split at h; (cases h; rfl); cases h) (fun kv us x h => by unfold cL_Post_l8_w at h; split at h; exact ((den2_eq _).symm.trans (cL_Post_l8_eq K kv _ _ _)).trans h; cases h) (fun es us r h => by unfold cL_Post_l8L_w at h; split at h; exact h; cases h)
def cL_Post_dec : List U → Option (Int × MpT × Int) := fun | [.i x0, .m m1_0, .i x1_1] => some (x0, m1_0, x1_1) | _ => none
def cL_Post_enc : (Int × MpT × Int) → List U := fun r => [.i r.1, .m r.2.1, .i r.2.2]
def cL_Post (K : Nat) (m0_0 : MpT) (x0_1 : Int) (q1 : List (List Int)) : Option (Int × MpT × Int) := ((ct_check K q1).bind fun r0 => (bi (r0 != 0)
 (some ((r0, m0_0, x0_1)))
 ((ct_posted K m0_0 q1).bind fun r1 => (casO (cL_Post_l8 K r1.fst q1 r1.snd x0_1) (fun r2 => ((ct_balanced K r2.fst).bind fun r3 => (bi (!r3)
 (some ((15, r2.snd.fst, r2.snd.snd)))
 (some ((0, r1.fst, IntKind.i64.wrap (r2.snd.snd + 1))))))) (fun r4 => (some ((r4.fst, r4.snd.fst, r4.snd.snd))))))))
theorem cL_Post_eq (K : Nat) (m0_0 : MpT) (x0_1 : Int) (q1 : List (List Int)) : (runFM Try.prog (env_ct_posted K) (lenv0) (cL_Post_mv K) Try.f11 [.ptr [.map [.i64, .i64] [.i64, .u64, .i64], .int .i64], .one (.recs [.i64, .i64, .i64, .u64, .i64] false)] [.one (.int .i64)] cL_Post_dec [.m m0_0, .i x0_1, .rr q1]).den2 = cL_Post K m0_0 x0_1 q1 := by kernel_rfl
def cL_Post_w (K : Nat) : List U → Option (Int × MpT × Int) := fun | [.m m0_0, .i x0_1, .rr q1] => cL_Post K m0_0 x0_1 q1 | _ => none
def cL_Post_spec (K : Nat) : Vm.Spec := ⟨[.ptr [.map [.i64, .i64] [.i64, .u64, .i64], .int .i64], .one (.recs [.i64, .i64, .i64, .u64, .i64] false)], [.one (.int .i64)], Int × MpT × Int, cL_Post_w K, cL_Post_enc⟩
theorem cL_Post_ok (K : Nat) : FnOk Try.prog 11 (cL_Post_spec K) := fn_okM hmix (env_ct_posted_ok K) (lenv := lenv0) (menv := cL_Post_mv K) (args := [.ptr [.map [.i64, .i64] [.i64, .u64, .i64], .int .i64], .one (.recs [.i64, .i64, .i64, .u64, .i64] false)]) (res := [.one (.int .i64)]) (G := cL_Post_w K) (enc := cL_Post_enc) Try.func11 (fun c hc => ⟨lps_fnM (l := [lp (bodyOf Try.f11) 0]) (by kernel_rfl) ⟨.inl ⟨8, by kernel_rfl, by kernel_rfl⟩, trivial⟩ c hc, mpOk_fn (by kernel_rfl) (cL_Post_l8_ok K) c hc⟩) (dec := cL_Post_dec) (fun u r h => by unfold cL_Post_dec at h; split at h; (cases h; rfl); cases h) (fun us r h => by unfold cL_Post_w at h; split at h; exact ((den2_eq _).symm.trans (cL_Post_eq K _ _ _)).trans h; cases h)
def env_cL_Post (K : Nat) : FuncId → Option Vm.Spec := addS (env_ct_posted K) 11 (cL_Post_spec K)
theorem env_cL_Post_ok (K : Nat) : EnvOk Try.prog (env_cL_Post K) := addS_ok (env_ct_posted_ok K) (.inl ⟨callable Try.func11 (by kernel_rfl) (by kernel_rfl), cL_Post_ok K⟩)
def ct_New_dec : List U → Option (MpT × Int) := fun | [.m m0_0, .i x0_1] => some (m0_0, x0_1) | _ => none
def ct_New_enc : (MpT × Int) → List U := fun r => [.m r.1, .i r.2]
def ct_New (K : Nat)  : Option (MpT × Int) := (some (([], 0)))
theorem ct_New_eq (K : Nat)  : (runFK Try.prog (env_cL_Post K) (lenv0) Try.f10 [] [.ptr [.map [.i64, .i64] [.i64, .u64, .i64], .int .i64]] ct_New_dec []).den2 = ct_New K  := by kernel_rfl
def ct_New_w (K : Nat) : List U → Option (MpT × Int) := fun | [] => ct_New K  | _ => none
def ct_New_spec (K : Nat) : Vm.Spec := ⟨[], [.ptr [.map [.i64, .i64] [.i64, .u64, .i64], .int .i64]], MpT × Int, ct_New_w K, ct_New_enc⟩
theorem ct_New_ok (K : Nat) : FnOk Try.prog 10 (ct_New_spec K) := fn_okK' hmix (env_cL_Post_ok K) (lenv := lenv0) (args := []) (res := [.ptr [.map [.i64, .i64] [.i64, .u64, .i64], .int .i64]]) (G := ct_New_w K) (enc := ct_New_enc) Try.func10 (lps_fn (l := []) (by kernel_rfl) trivial) (dec := ct_New_dec) (fun u r h => by unfold ct_New_dec at h; split at h; (cases h; rfl); cases h) (fun us r h => by unfold ct_New_w at h; split at h; exact ((den2_eq _).symm.trans (ct_New_eq K)).trans h; cases h)
def env_ct_New (K : Nat) : FuncId → Option Vm.Spec := addS (env_cL_Post K) 10 (ct_New_spec K)
theorem env_ct_New_ok (K : Nat) : EnvOk Try.prog (env_ct_New K) := addS_ok (env_cL_Post_ok K) (.inl ⟨callable Try.func10 (by kernel_rfl) (by kernel_rfl), ct_New_ok K⟩)
def cL_Entries_dec : List U → Option (Int × MpT × Int) := fun | [.i x0, .m m1_0, .i x1_1] => some (x0, m1_0, x1_1) | _ => none
def cL_Entries_enc : (Int × MpT × Int) → List U := fun r => [.i r.1, .m r.2.1, .i r.2.2]
def cL_Entries (K : Nat) (m0_0 : MpT) (x0_1 : Int) : Option (Int × MpT × Int) := (some ((x0_1, m0_0, x0_1)))
theorem cL_Entries_eq (K : Nat) (m0_0 : MpT) (x0_1 : Int) : (runFK Try.prog (env_ct_New K) (lenv0) Try.f17 [.ptr [.map [.i64, .i64] [.i64, .u64, .i64], .int .i64]] [.one (.int .i64)] cL_Entries_dec [.m m0_0, .i x0_1]).den2 = cL_Entries K m0_0 x0_1 := by kernel_rfl
def cL_Entries_w (K : Nat) : List U → Option (Int × MpT × Int) := fun | [.m m0_0, .i x0_1] => cL_Entries K m0_0 x0_1 | _ => none
def cL_Entries_spec (K : Nat) : Vm.Spec := ⟨[.ptr [.map [.i64, .i64] [.i64, .u64, .i64], .int .i64]], [.one (.int .i64)], Int × MpT × Int, cL_Entries_w K, cL_Entries_enc⟩
theorem cL_Entries_ok (K : Nat) : FnOk Try.prog 17 (cL_Entries_spec K) := fn_okK' hmix (env_ct_New_ok K) (lenv := lenv0) (args := [.ptr [.map [.i64, .i64] [.i64, .u64, .i64], .int .i64]]) (res := [.one (.int .i64)]) (G := cL_Entries_w K) (enc := cL_Entries_enc) Try.func17 (lps_fn (l := []) (by kernel_rfl) trivial) (dec := cL_Entries_dec) (fun u r h => by unfold cL_Entries_dec at h; split at h; (cases h; rfl); cases h) (fun us r h => by unfold cL_Entries_w at h; split at h; exact ((den2_eq _).symm.trans (cL_Entries_eq K _ _)).trans h; cases h)
def env_cL_Entries (K : Nat) : FuncId → Option Vm.Spec := addS (env_ct_New K) 17 (cL_Entries_spec K)
theorem env_cL_Entries_ok (K : Nat) : EnvOk Try.prog (env_cL_Entries K) := addS_ok (env_ct_New_ok K) (.inl ⟨callable Try.func17 (by kernel_rfl) (by kernel_rfl), cL_Entries_ok K⟩)
def cL_Balance_dec : List U → Option (Int × Int × Int × Int × MpT × Int) := fun | [.i x0_0, .i x0_1, .i x0_2, .i x1, .m m2_0, .i x2_1] => some (x0_0, x0_1, x0_2, x1, m2_0, x2_1) | _ => none
def cL_Balance_enc : (Int × Int × Int × Int × MpT × Int) → List U := fun r => [.i r.1, .i r.2.1, .i r.2.2.1, .i r.2.2.2.1, .m r.2.2.2.2.1, .i r.2.2.2.2.2]
def cL_Balance (K : Nat) (m0_0 : MpT) (x0_1 : Int) (x1 : Int) (x2 : Int) : Option (Int × Int × Int × Int × MpT × Int) := ((ct_is K x1 x2).bind fun r0 => (bi (!r0)
 (some ((0, 0, 0, 1, m0_0, x0_1)))
 ((ct_at K m0_0 x1 x2).bind fun r1 => (some ((r1.fst, r1.snd.fst, r1.snd.snd.fst, 0, r1.snd.snd.snd, x0_1))))))
theorem cL_Balance_eq (K : Nat) (m0_0 : MpT) (x0_1 : Int) (x1 : Int) (x2 : Int) : (runFK Try.prog (env_cL_Entries K) (lenv0) Try.f18 [.ptr [.map [.i64, .i64] [.i64, .u64, .i64], .int .i64], .one (.int .i64), .one (.int .i64)] [.agg [.int .i64, .int .u64, .int .i64], .one (.int .i64)] cL_Balance_dec [.m m0_0, .i x0_1, .i x1, .i x2]).den2 = cL_Balance K m0_0 x0_1 x1 x2 := by kernel_rfl
def cL_Balance_w (K : Nat) : List U → Option (Int × Int × Int × Int × MpT × Int) := fun | [.m m0_0, .i x0_1, .i x1, .i x2] => cL_Balance K m0_0 x0_1 x1 x2 | _ => none
def cL_Balance_spec (K : Nat) : Vm.Spec := ⟨[.ptr [.map [.i64, .i64] [.i64, .u64, .i64], .int .i64], .one (.int .i64), .one (.int .i64)], [.agg [.int .i64, .int .u64, .int .i64], .one (.int .i64)], Int × Int × Int × Int × MpT × Int, cL_Balance_w K, cL_Balance_enc⟩
theorem cL_Balance_ok (K : Nat) : FnOk Try.prog 18 (cL_Balance_spec K) := fn_okK' hmix (env_cL_Entries_ok K) (lenv := lenv0) (args := [.ptr [.map [.i64, .i64] [.i64, .u64, .i64], .int .i64], .one (.int .i64), .one (.int .i64)]) (res := [.agg [.int .i64, .int .u64, .int .i64], .one (.int .i64)]) (G := cL_Balance_w K) (enc := cL_Balance_enc) Try.func18 (lps_fn (l := []) (by kernel_rfl) trivial) (dec := cL_Balance_dec) (fun u r h => by unfold cL_Balance_dec at h; split at h; (cases h; rfl); cases h) (fun us r h => by unfold cL_Balance_w at h; split at h; exact ((den2_eq _).symm.trans (cL_Balance_eq K _ _ _ _)).trans h; cases h)
def env_cL_Balance (K : Nat) : FuncId → Option Vm.Spec := addS (env_cL_Entries K) 18 (cL_Balance_spec K)
theorem env_cL_Balance_ok (K : Nat) : EnvOk Try.prog (env_cL_Balance K) := addS_ok (env_cL_Entries_ok K) (.inl ⟨callable Try.func18 (by kernel_rfl) (by kernel_rfl), cL_Balance_ok K⟩)
def cL_Total_l3_pre : Vm.Pat := ⟨33, [(1, .pv (.one (.int .i64))), (7, .pv (.one (.int .i64))), (0, .box 0 0), (4, .box 1 0), (6, .box 2 0)], [.cells [.map [.i64, .i64] [.i64, .u64, .i64], .int .i64], .cells [.int .i64, .int .u64, .int .i64], .cells [.int .i64, .int .u64, .int .i64]], [0]⟩
def cL_Total_l3_post0 : Vm.Pat := ⟨33, [(0, .box 0 0), (4, .box 1 0), (6, .box 2 0)], [.cells [.map [.i64, .i64] [.i64, .u64, .i64], .int .i64], .cells [.int .i64, .int .u64, .int .i64], .cells [.int .i64, .int .u64, .int .i64]], [0]⟩
def cL_Total_l3_enc0 : MpT × Int × Int × Int × Int × Int × Int × Int → List U := fun r => [.m r.1, .i r.2.1, .i r.2.2.1, .i r.2.2.2.1, .i r.2.2.2.2.1, .i r.2.2.2.2.2.1, .i r.2.2.2.2.2.2.1, .i r.2.2.2.2.2.2.2]
def cL_Total_l3_dec0 : List U → Option (MpT × Int × Int × Int × Int × Int × Int × Int) := fun | [.m m0_0, .i x0_1, .i x4_0, .i x4_1, .i x4_2, .i x6_0, .i x6_1, .i x6_2] => some (m0_0, x0_1, x4_0, x4_1, x4_2, x6_0, x6_1, x6_2) | _ => none
def cL_Total_l3_post1 : Vm.Pat := ⟨33, [(5, .pv (.one (.int .i64))), (0, .box 0 0), (4, .box 1 0)], [.cells [.map [.i64, .i64] [.i64, .u64, .i64], .int .i64], .cells [.int .i64, .int .u64, .int .i64]], [0]⟩
def cL_Total_l3_enc1 : Int × MpT × Int × Int × Int × Int → List U := fun r => [.i r.1, .m r.2.1, .i r.2.2.1, .i r.2.2.2.1, .i r.2.2.2.2.1, .i r.2.2.2.2.2]
def cL_Total_l3_dec1 : List U → Option (Int × MpT × Int × Int × Int × Int) := fun | [.i x5, .m m0_0, .i x0_1, .i x4_0, .i x4_1, .i x4_2] => some (x5, m0_0, x0_1, x4_0, x4_1, x4_2) | _ => none
def cL_Total_l3 (K : Nat) : Nat → Int → Int → MpT → Int → Int → Int → Int → Int → Int → Int → Option ((MpT × Int × Int × Int × Int × Int × Int × Int) ⊕ (Int × MpT × Int × Int × Int × Int))
 | 0, _, _, _, _, _, _, _, _, _, _ => none
 | k + 1, x1, x7, m0_0, x0_1, x4_0, x4_1, x4_2, x6_0, x6_1, x6_2 => (bi (decide (x7 ≤ 8))
 ((cL_Balance K m0_0 x0_1 x7 x1).bind fun r0 => (bi (r0.snd.snd.snd.fst != 0)
 (some (Sum.inr (r0.snd.snd.snd.fst, r0.snd.snd.snd.snd.fst, r0.snd.snd.snd.snd.snd, 0, 0, 0)))
 ((dec_Add K x6_0 x6_1 x6_2 r0.fst r0.snd.fst r0.snd.snd.fst).bind fun r1 => (cL_Total_l3 K k (x1) (IntKind.i64.wrap (x7 + 1)) (r0.snd.snd.snd.snd.fst) (r0.snd.snd.snd.snd.snd) (x4_0) (x4_1) (x4_2) (r1.fst) (r1.snd.fst) (r1.snd.snd.fst)))))
 (some (Sum.inl (m0_0, x0_1, x4_0, x4_1, x4_2, x6_0, x6_1, x6_2))))
def cL_Total_l3_w (K k : Nat) : List U → Option ((MpT × Int × Int × Int × Int × Int × Int × Int) ⊕ (Int × MpT × Int × Int × Int × Int)) := fun | [.i x1, .i x7, .m m0_0, .i x0_1, .i x4_0, .i x4_1, .i x4_2, .i x6_0, .i x6_1, .i x6_2] => cL_Total_l3 K k x1 x7 m0_0 x0_1 x4_0 x4_1 x4_2 x6_0 x6_1 x6_2 | _ => none
theorem cL_Total_l3_eq (K k : Nat) (x1 : Int) (x7 : Int) (m0_0 : MpT) (x0_1 : Int) (x4_0 : Int) (x4_1 : Int) (x4_2 : Int) (x6_0 : Int) (x6_1 : Int) (x6_2 : Int) : (round2K Try.prog (env_cL_Balance K) (lenv0) (lp (bodyOf Try.f20) 0) cL_Total_l3_pre (.exit 0) cL_Total_l3_post0 .ret cL_Total_l3_post1 cL_Total_l3_dec0 cL_Total_l3_dec1 (cL_Total_l3_w K k) [.i x1, .i x7, .m m0_0, .i x0_1, .i x4_0, .i x4_1, .i x4_2, .i x6_0, .i x6_1, .i x6_2]).den2 = cL_Total_l3 K (k + 1) x1 x7 m0_0 x0_1 x4_0 x4_1 x4_2 x6_0 x6_1 x6_2 := by kernel_rfl
def cL_Total_l3_s (K : Nat) : Vm.LS := .two cL_Total_l3_pre _ _ (.exit 0) cL_Total_l3_post0 .ret cL_Total_l3_post1 (cL_Total_l3_w K K) cL_Total_l3_enc0 cL_Total_l3_enc1
theorem cL_Total_l3_ok (K : Nat) : LoopOk Try.prog (lp (bodyOf Try.f20) 0) (cL_Total_l3_s K) := loop_twoK hmix (env_cL_Balance_ok K) (lenv := lenv0) (L := cL_Total_l3_w K) (enc := cL_Total_l3_enc0) (dec := cL_Total_l3_dec0) (enc' := cL_Total_l3_enc1) (dec' := cL_Total_l3_dec1) (lps_ok (l := []) (by kernel_rfl) trivial) (fun u r h => by unfold cL_Total_l3_dec0 at h; split at h; (cases h; rfl); cases h) (fun u r h => by unfold cL_Total_l3_dec1 at h; split at h; (cases h; rfl); cases h) (fun us => by unfold cL_Total_l3_w; split <;> first | rfl | (simp only [cL_Total_l3])) (fun k us r h => by unfold cL_Total_l3_w at h; split at h; exact ((den2_eq _).symm.trans (cL_Total_l3_eq K k _ _ _ _ _ _ _ _ _ _)).trans h; cases h) K
def cL_Total_v3 (K : Nat) : Nat → Option Vm.LS := addL (lenv0) 3 (cL_Total_l3_s K)
def cL_Total_dec : List U → Option (Int × Int × Int × Int × MpT × Int) := fun | [.i x0_0, .i x0_1, .i x0_2, .i x1, .m m2_0, .i x2_1] => some (x0_0, x0_1, x0_2, x1, m2_0, x2_1) | _ => none
def cL_Total_enc : (Int × Int × Int × Int × MpT × Int) → List U := fun r => [.i r.1, .i r.2.1, .i r.2.2.1, .i r.2.2.2.1, .m r.2.2.2.2.1, .i r.2.2.2.2.2]
def cL_Total (K : Nat) (m0_0 : MpT) (x0_1 : Int) (x1 : Int) : Option (Int × Int × Int × Int × MpT × Int) := ((ct_nought K).bind fun r0 => (casO (cL_Total_l3 K K x1 1 m0_0 x0_1 0 0 0 r0.fst r0.snd.fst r0.snd.snd) (fun r1 => (some ((r1.snd.snd.snd.snd.snd.fst, r1.snd.snd.snd.snd.snd.snd.fst, r1.snd.snd.snd.snd.snd.snd.snd, 0, r1.fst, r1.snd.fst)))) (fun r2 => (some ((r2.snd.snd.snd.fst, r2.snd.snd.snd.snd.fst, r2.snd.snd.snd.snd.snd, r2.fst, r2.snd.fst, r2.snd.snd.fst))))))
theorem cL_Total_eq (K : Nat) (m0_0 : MpT) (x0_1 : Int) (x1 : Int) : (runFK Try.prog (env_cL_Balance K) (cL_Total_v3 K) Try.f20 [.ptr [.map [.i64, .i64] [.i64, .u64, .i64], .int .i64], .one (.int .i64)] [.agg [.int .i64, .int .u64, .int .i64], .one (.int .i64)] cL_Total_dec [.m m0_0, .i x0_1, .i x1]).den2 = cL_Total K m0_0 x0_1 x1 := by kernel_rfl
def cL_Total_w (K : Nat) : List U → Option (Int × Int × Int × Int × MpT × Int) := fun | [.m m0_0, .i x0_1, .i x1] => cL_Total K m0_0 x0_1 x1 | _ => none
def cL_Total_spec (K : Nat) : Vm.Spec := ⟨[.ptr [.map [.i64, .i64] [.i64, .u64, .i64], .int .i64], .one (.int .i64)], [.agg [.int .i64, .int .u64, .int .i64], .one (.int .i64)], Int × Int × Int × Int × MpT × Int, cL_Total_w K, cL_Total_enc⟩
theorem cL_Total_ok (K : Nat) : FnOk Try.prog 20 (cL_Total_spec K) := fn_okK' hmix (env_cL_Balance_ok K) (lenv := cL_Total_v3 K) (args := [.ptr [.map [.i64, .i64] [.i64, .u64, .i64], .int .i64], .one (.int .i64)]) (res := [.agg [.int .i64, .int .u64, .int .i64], .one (.int .i64)]) (G := cL_Total_w K) (enc := cL_Total_enc) Try.func20 (lps_fn (l := [lp (bodyOf Try.f20) 0]) (by kernel_rfl) ⟨⟨3, cL_Total_l3_s K, by kernel_rfl, by kernel_rfl, cL_Total_l3_ok K⟩, trivial⟩) (dec := cL_Total_dec) (fun u r h => by unfold cL_Total_dec at h; split at h; (cases h; rfl); cases h) (fun us r h => by unfold cL_Total_w at h; split at h; exact ((den2_eq _).symm.trans (cL_Total_eq K _ _ _)).trans h; cases h)
def env_cL_Total (K : Nat) : FuncId → Option Vm.Spec := addS (env_cL_Balance K) 20 (cL_Total_spec K)
theorem env_cL_Total_ok (K : Nat) : EnvOk Try.prog (env_cL_Total K) := addS_ok (env_cL_Balance_ok K) (.inl ⟨callable Try.func20 (by kernel_rfl) (by kernel_rfl), cL_Total_ok K⟩)
def cL_Trial_l8_pre : Vm.Pat := ⟨36, [(3, .pv (.one (.recs [.i64, .i64, .i64, .u64, .i64] true))), (4, .pv (.one (.int .i64))), (5, .pv (.one (.int .i64))), (0, .box 0 0)], [.cells [.map [.i64, .i64] [.i64, .u64, .i64], .int .i64]], [0]⟩
def cL_Trial_l8_post0 : Vm.Pat := ⟨36, [(3, .pv (.one (.recs [.i64, .i64, .i64, .u64, .i64] true))), (4, .pv (.one (.int .i64))), (0, .box 0 0)], [.cells [.map [.i64, .i64] [.i64, .u64, .i64], .int .i64]], [0]⟩
def cL_Trial_l8_enc0 : List (List Int) × Int × MpT × Int → List U := fun r => [.rr r.1, .i r.2.1, .m r.2.2.1, .i r.2.2.2]
def cL_Trial_l8_dec0 : List U → Option (List (List Int) × Int × MpT × Int) := fun | [.rr q3, .i x4, .m m0_0, .i x0_1] => some (q3, x4, m0_0, x0_1) | _ => none
def cL_Trial_l8 (K : Nat) : Nat → List (List Int) → Int → Int → MpT → Int → Option (List (List Int) × Int × MpT × Int)
 | 0, _, _, _, _, _ => none
 | k + 1, q3, x4, x5, m0_0, x0_1 => (bi (decide (x5 ≤ 3))
 ((ct_at K m0_0 x4 x5).bind fun r0 => ((ct_nought K).bind fun r1 => (bi (!(r0.fst == r1.fst && (r0.snd.fst == r1.snd.fst && (r0.snd.snd.fst == r1.snd.snd && true))))
 (bi (decide (q3.length + 1 ≤ 3518437208883))
 (cL_Trial_l8 K k (q3 ++ [[x4, x5, r0.fst, r0.snd.fst, r0.snd.snd.fst]]) (x4) (IntKind.i64.wrap (x5 + 1)) (r0.snd.snd.snd) (x0_1))
 none)
 (cL_Trial_l8 K k (q3) (x4) (IntKind.i64.wrap (x5 + 1)) (r0.snd.snd.snd) (x0_1)))))
 (some ((q3, x4, m0_0, x0_1))))
def cL_Trial_l8_w (K k : Nat) : List U → Option (List (List Int) × Int × MpT × Int) := fun | [.rr q3, .i x4, .i x5, .m m0_0, .i x0_1] => cL_Trial_l8 K k q3 x4 x5 m0_0 x0_1 | _ => none
theorem cL_Trial_l8_eq (K k : Nat) (q3 : List (List Int)) (x4 : Int) (x5 : Int) (m0_0 : MpT) (x0_1 : Int) : (round1K Try.prog (env_cL_Total K) (lenv0) (lp (lp (bodyOf Try.f15) 0) 0) cL_Trial_l8_pre (.exit 2) cL_Trial_l8_post0 cL_Trial_l8_dec0 (cL_Trial_l8_w K k) [.rr q3, .i x4, .i x5, .m m0_0, .i x0_1]).den2 = cL_Trial_l8 K (k + 1) q3 x4 x5 m0_0 x0_1 := by kernel_rfl
def cL_Trial_l8_s (K : Nat) : Vm.LS := .one cL_Trial_l8_pre _ (.exit 2) cL_Trial_l8_post0 (cL_Trial_l8_w K K) cL_Trial_l8_enc0
theorem cL_Trial_l8_ok (K : Nat) : LoopOk Try.prog (lp (lp (bodyOf Try.f15) 0) 0) (cL_Trial_l8_s K) := loop_oneK hmix (env_cL_Total_ok K) (lenv := lenv0) (L := cL_Trial_l8_w K) (enc := cL_Trial_l8_enc0) (dec := cL_Trial_l8_dec0) (lps_ok (l := []) (by kernel_rfl) trivial) (fun u r h => by unfold cL_Trial_l8_dec0 at h; split at h; (cases h; rfl); cases h) (fun us => by unfold cL_Trial_l8_w; split <;> first | rfl | (simp only [cL_Trial_l8])) (fun k us r h => by unfold cL_Trial_l8_w at h; split at h; exact ((den2_eq _).symm.trans (cL_Trial_l8_eq K k _ _ _ _ _)).trans h; cases h) K
def cL_Trial_v8 (K : Nat) : Nat → Option Vm.LS := addL (lenv0) 8 (cL_Trial_l8_s K)
def cL_Trial_l5_pre : Vm.Pat := ⟨36, [(3, .pv (.one (.recs [.i64, .i64, .i64, .u64, .i64] true))), (4, .pv (.one (.int .i64))), (0, .box 0 0)], [.cells [.map [.i64, .i64] [.i64, .u64, .i64], .int .i64]], [0]⟩
def cL_Trial_l5_post0 : Vm.Pat := ⟨36, [(3, .pv (.one (.recs [.i64, .i64, .i64, .u64, .i64] true))), (0, .box 0 0)], [.cells [.map [.i64, .i64] [.i64, .u64, .i64], .int .i64]], [0]⟩
def cL_Trial_l5_enc0 : List (List Int) × MpT × Int → List U := fun r => [.rr r.1, .m r.2.1, .i r.2.2]
def cL_Trial_l5_dec0 : List U → Option (List (List Int) × MpT × Int) := fun | [.rr q3, .m m0_0, .i x0_1] => some (q3, m0_0, x0_1) | _ => none
def cL_Trial_l5 (K : Nat) : Nat → List (List Int) → Int → MpT → Int → Option (List (List Int) × MpT × Int)
 | 0, _, _, _, _ => none
 | k + 1, q3, x4, m0_0, x0_1 => (bi (decide (x4 ≤ 8))
 ((cL_Trial_l8 K K q3 x4 0 m0_0 x0_1).bind fun r0 => (cL_Trial_l5 K k (r0.fst) (IntKind.i64.wrap (r0.snd.fst + 1)) (r0.snd.snd.fst) (r0.snd.snd.snd)))
 (some ((q3, m0_0, x0_1))))
def cL_Trial_l5_w (K k : Nat) : List U → Option (List (List Int) × MpT × Int) := fun | [.rr q3, .i x4, .m m0_0, .i x0_1] => cL_Trial_l5 K k q3 x4 m0_0 x0_1 | _ => none
theorem cL_Trial_l5_eq (K k : Nat) (q3 : List (List Int)) (x4 : Int) (m0_0 : MpT) (x0_1 : Int) : (round1K Try.prog (env_cL_Total K) (cL_Trial_v8 K) (lp (bodyOf Try.f15) 0) cL_Trial_l5_pre (.exit 0) cL_Trial_l5_post0 cL_Trial_l5_dec0 (cL_Trial_l5_w K k) [.rr q3, .i x4, .m m0_0, .i x0_1]).den2 = cL_Trial_l5 K (k + 1) q3 x4 m0_0 x0_1 := by kernel_rfl
def cL_Trial_l5_s (K : Nat) : Vm.LS := .one cL_Trial_l5_pre _ (.exit 0) cL_Trial_l5_post0 (cL_Trial_l5_w K K) cL_Trial_l5_enc0
theorem cL_Trial_l5_ok (K : Nat) : LoopOk Try.prog (lp (bodyOf Try.f15) 0) (cL_Trial_l5_s K) := loop_oneK hmix (env_cL_Total_ok K) (lenv := cL_Trial_v8 K) (L := cL_Trial_l5_w K) (enc := cL_Trial_l5_enc0) (dec := cL_Trial_l5_dec0) (lps_ok (l := [lp (lp (bodyOf Try.f15) 0) 0]) (by kernel_rfl) ⟨⟨8, cL_Trial_l8_s K, by kernel_rfl, by kernel_rfl, cL_Trial_l8_ok K⟩, trivial⟩) (fun u r h => by unfold cL_Trial_l5_dec0 at h; split at h; (cases h; rfl); cases h) (fun us => by unfold cL_Trial_l5_w; split <;> first | rfl | (simp only [cL_Trial_l5])) (fun k us r h => by unfold cL_Trial_l5_w at h; split at h; exact ((den2_eq _).symm.trans (cL_Trial_l5_eq K k _ _ _ _)).trans h; cases h) K
def cL_Trial_v5 (K : Nat) : Nat → Option Vm.LS := addL (cL_Trial_v8 K) 5 (cL_Trial_l5_s K)
def cL_Trial_dec : List U → Option (List (List Int) × MpT × Int) := fun | [.rr q0, .m m1_0, .i x1_1] => some (q0, m1_0, x1_1) | _ => none
def cL_Trial_enc : (List (List Int) × MpT × Int) → List U := fun r => [.rr r.1, .m r.2.1, .i r.2.2]
def cL_Trial (K : Nat) (m0_0 : MpT) (x0_1 : Int) : Option (List (List Int) × MpT × Int) := ((cL_Trial_l5 K K [] 1 m0_0 x0_1).bind fun r0 => (some ((r0.fst, r0.snd.fst, r0.snd.snd))))
theorem cL_Trial_eq (K : Nat) (m0_0 : MpT) (x0_1 : Int) : (runFK Try.prog (env_cL_Total K) (cL_Trial_v5 K) Try.f15 [.ptr [.map [.i64, .i64] [.i64, .u64, .i64], .int .i64]] [.one (.recs [.i64, .i64, .i64, .u64, .i64] true)] cL_Trial_dec [.m m0_0, .i x0_1]).den2 = cL_Trial K m0_0 x0_1 := by kernel_rfl
def cL_Trial_w (K : Nat) : List U → Option (List (List Int) × MpT × Int) := fun | [.m m0_0, .i x0_1] => cL_Trial K m0_0 x0_1 | _ => none
def cL_Trial_spec (K : Nat) : Vm.Spec := ⟨[.ptr [.map [.i64, .i64] [.i64, .u64, .i64], .int .i64]], [.one (.recs [.i64, .i64, .i64, .u64, .i64] true)], List (List Int) × MpT × Int, cL_Trial_w K, cL_Trial_enc⟩
theorem cL_Trial_ok (K : Nat) : FnOk Try.prog 15 (cL_Trial_spec K) := fn_okK' hmix (env_cL_Total_ok K) (lenv := cL_Trial_v5 K) (args := [.ptr [.map [.i64, .i64] [.i64, .u64, .i64], .int .i64]]) (res := [.one (.recs [.i64, .i64, .i64, .u64, .i64] true)]) (G := cL_Trial_w K) (enc := cL_Trial_enc) Try.func15 (lps_fn (l := [lp (bodyOf Try.f15) 0]) (by kernel_rfl) ⟨⟨5, cL_Trial_l5_s K, by kernel_rfl, by kernel_rfl, cL_Trial_l5_ok K⟩, trivial⟩) (dec := cL_Trial_dec) (fun u r h => by unfold cL_Trial_dec at h; split at h; (cases h; rfl); cases h) (fun us r h => by unfold cL_Trial_w at h; split at h; exact ((den2_eq _).symm.trans (cL_Trial_eq K _ _)).trans h; cases h)
def env_cL_Trial (K : Nat) : FuncId → Option Vm.Spec := addS (env_cL_Total K) 15 (cL_Trial_spec K)
theorem env_cL_Trial_ok (K : Nat) : EnvOk Try.prog (env_cL_Trial K) := addS_ok (env_cL_Total_ok K) (.inl ⟨callable Try.func15 (by kernel_rfl) (by kernel_rfl), cL_Trial_ok K⟩)
end
end Go.Proofs.Ytimhhefngigfeaa.F
