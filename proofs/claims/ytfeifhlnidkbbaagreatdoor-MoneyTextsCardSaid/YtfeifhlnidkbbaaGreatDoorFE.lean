import Derived.Test.YtfeifhlnidkbbaaGreatDoorVmY
import Derived.Test.YtfeifhlnidkbbaaGreatDoorVmRc
import Derived.Test.YtfeifhlnidkbbaaGreatDoorProg
import Derived.Test.YtfeifhlnidkbbaaGreatDoorFD
namespace Go.Proofs.YtfeifhlnidkbbaaGreatDoor.F
open Go Go.Proofs.YtfeifhlnidkbbaaGreatDoor.Vm
set_option maxRecDepth 1000000
set_option linter.unusedVariables false
def ref05_Cur_dec : List U → Option (Bool) := fun u => match u with | [.b c0] => some (c0) | _ => none
def ref05_Cur_enc : (Bool) → List U := fun r => [.b r]
def ref05_Cur (K : Nat) (x0 : Int) : Option (Bool) := (bi (decide (x0 ≥ 0))
    (some (decide (x0 < 4)))
    (some Bool.false))
theorem ref05_Cur_eq (K : Nat) (x0 : Int) : (runF Tryz.prog (env_money_Parse K) (lenv0) Tryz.f14 [.one (.int .i64)] [.one (.bool)] ref05_Cur_dec [.i x0]).den2 = ref05_Cur K x0 := by kernel_rfl
def ref05_Cur_w (K : Nat) : List U → Option (Bool) := fun us => match us with | [.i x0] => ref05_Cur K x0 | _ => none
def ref05_Cur_spec (K : Nat) : Vm.Spec := ⟨[.one (.int .i64)], [.one (.bool)], Bool, ref05_Cur_w K, ref05_Cur_enc⟩
theorem ref05_Cur_ok (K : Nat) : FnOk Tryz.prog 14 (ref05_Cur_spec K) := fn_ok' hmix (env_money_Parse_ok K) (lenv := lenv0) (args := [.one (.int .i64)]) (res := [.one (.bool)]) (G := ref05_Cur_w K) (enc := ref05_Cur_enc) Tryz.func14 (lps_fn (l := []) (by kernel_rfl) trivial) (dec := ref05_Cur_dec) (fun u r h => by unfold ref05_Cur_dec at h; split at h; (cases h; rfl); cases h) (fun us r h => by unfold ref05_Cur_w at h; split at h; exact ((den2_eq _).symm.trans (ref05_Cur_eq K _)).trans h; cases h)
def env_ref05_Cur (K : Nat) : FuncId → Option Vm.Spec := addS (env_money_Parse K) 14 (ref05_Cur_spec K)
theorem env_ref05_Cur_ok (K : Nat) : EnvOk Tryz.prog (env_ref05_Cur K) := addS_ok (env_money_Parse_ok K) (.inl ⟨callable Tryz.func14 (by kernel_rfl) (by kernel_rfl), ref05_Cur_ok K⟩)
def ref05_Digits_dec : List U → Option (Int) := fun u => match u with | [.i x0] => some (x0) | _ => none
def ref05_Digits_enc : (Int) → List U := fun r => [.i r]
def ref05_Digits (K : Nat) (x0 : Int) : Option (Int) := (bi (decide (0 ≤ x0) && decide (x0 < 4))
    (some (IntKind.i64.wrap
  (IntKind.u8.wrap (bt (ByteArray.mk #[50, 50, 48, 51]) x0 - 48))))
    none)
theorem ref05_Digits_eq (K : Nat) (x0 : Int) : (runF Tryz.prog (env_ref05_Cur K) (lenv0) Tryz.f35 [.one (.int .i64)] [.one (.int .i64)] ref05_Digits_dec [.i x0]).den2 = ref05_Digits K x0 := by kernel_rfl
def ref05_Digits_w (K : Nat) : List U → Option (Int) := fun us => match us with | [.i x0] => ref05_Digits K x0 | _ => none
def ref05_Digits_spec (K : Nat) : Vm.Spec := ⟨[.one (.int .i64)], [.one (.int .i64)], Int, ref05_Digits_w K, ref05_Digits_enc⟩
theorem ref05_Digits_ok (K : Nat) : FnOk Tryz.prog 35 (ref05_Digits_spec K) := fn_ok' hmix (env_ref05_Cur_ok K) (lenv := lenv0) (args := [.one (.int .i64)]) (res := [.one (.int .i64)]) (G := ref05_Digits_w K) (enc := ref05_Digits_enc) Tryz.func35 (lps_fn (l := []) (by kernel_rfl) trivial) (dec := ref05_Digits_dec) (fun u r h => by unfold ref05_Digits_dec at h; split at h; (cases h; rfl); cases h) (fun us r h => by unfold ref05_Digits_w at h; split at h; exact ((den2_eq _).symm.trans (ref05_Digits_eq K _)).trans h; cases h)
def env_ref05_Digits (K : Nat) : FuncId → Option Vm.Spec := addS (env_ref05_Cur K) 35 (ref05_Digits_spec K)
theorem env_ref05_Digits_ok (K : Nat) : EnvOk Tryz.prog (env_ref05_Digits K) := addS_ok (env_ref05_Cur_ok K) (.inl ⟨callable Tryz.func35 (by kernel_rfl) (by kernel_rfl), ref05_Digits_ok K⟩)
def ref05_Amount_dec : List U → Option (Bool) := fun u => match u with | [.b c0] => some (c0) | _ => none
def ref05_Amount_enc : (Bool) → List U := fun r => [.b r]
def ref05_Amount (K : Nat) (x0 : Int) : Option (Bool) := (bi (decide (x0 ≥ -10000000000000))
    (some (decide (x0 ≤ 10000000000000)))
    (some Bool.false))
theorem ref05_Amount_eq (K : Nat) (x0 : Int) : (runF Tryz.prog (env_ref05_Digits K) (lenv0) Tryz.f15 [.one (.int .i64)] [.one (.bool)] ref05_Amount_dec [.i x0]).den2 = ref05_Amount K x0 := by kernel_rfl
def ref05_Amount_w (K : Nat) : List U → Option (Bool) := fun us => match us with | [.i x0] => ref05_Amount K x0 | _ => none
def ref05_Amount_spec (K : Nat) : Vm.Spec := ⟨[.one (.int .i64)], [.one (.bool)], Bool, ref05_Amount_w K, ref05_Amount_enc⟩
theorem ref05_Amount_ok (K : Nat) : FnOk Tryz.prog 15 (ref05_Amount_spec K) := fn_ok' hmix (env_ref05_Digits_ok K) (lenv := lenv0) (args := [.one (.int .i64)]) (res := [.one (.bool)]) (G := ref05_Amount_w K) (enc := ref05_Amount_enc) Tryz.func15 (lps_fn (l := []) (by kernel_rfl) trivial) (dec := ref05_Amount_dec) (fun u r h => by unfold ref05_Amount_dec at h; split at h; (cases h; rfl); cases h) (fun us r h => by unfold ref05_Amount_w at h; split at h; exact ((den2_eq _).symm.trans (ref05_Amount_eq K _)).trans h; cases h)
def env_ref05_Amount (K : Nat) : FuncId → Option Vm.Spec := addS (env_ref05_Digits K) 15 (ref05_Amount_spec K)
theorem env_ref05_Amount_ok (K : Nat) : EnvOk Tryz.prog (env_ref05_Amount K) := addS_ok (env_ref05_Digits_ok K) (.inl ⟨callable Tryz.func15 (by kernel_rfl) (by kernel_rfl), ref05_Amount_ok K⟩)
def ref05_Form_dec : List U → Option (Bool) := fun u => match u with | [.b c0] => some (c0) | _ => none
def ref05_Form_enc : (Bool) → List U := fun r => [.b r]
def ref05_Form (K : Nat) (x0_0 : Int) (x0_1 : Int) : Option (Bool) := ((ref05_Cur K x0_0).bind fun r0 => (bi (r0)
    ((ref05_Amount K x0_1).bind fun r1 => (some r1))
    (some Bool.false)))
theorem ref05_Form_eq (K : Nat) (x0_0 : Int) (x0_1 : Int) : (runF Tryz.prog (env_ref05_Amount K) (lenv0) Tryz.f6 [.agg [.int .i64, .int .i64]] [.one (.bool)] ref05_Form_dec [.i x0_0, .i x0_1]).den2 = ref05_Form K x0_0 x0_1 := by kernel_rfl
def ref05_Form_w (K : Nat) : List U → Option (Bool) := fun us => match us with | [.i x0_0, .i x0_1] => ref05_Form K x0_0 x0_1 | _ => none
def ref05_Form_spec (K : Nat) : Vm.Spec := ⟨[.agg [.int .i64, .int .i64]], [.one (.bool)], Bool, ref05_Form_w K, ref05_Form_enc⟩
theorem ref05_Form_ok (K : Nat) : FnOk Tryz.prog 6 (ref05_Form_spec K) := fn_ok' hmix (env_ref05_Amount_ok K) (lenv := lenv0) (args := [.agg [.int .i64, .int .i64]]) (res := [.one (.bool)]) (G := ref05_Form_w K) (enc := ref05_Form_enc) Tryz.func6 (lps_fn (l := []) (by kernel_rfl) trivial) (dec := ref05_Form_dec) (fun u r h => by unfold ref05_Form_dec at h; split at h; (cases h; rfl); cases h) (fun us r h => by unfold ref05_Form_w at h; split at h; exact ((den2_eq _).symm.trans (ref05_Form_eq K _ _)).trans h; cases h)
def env_ref05_Form (K : Nat) : FuncId → Option Vm.Spec := addS (env_ref05_Amount K) 6 (ref05_Form_spec K)
theorem env_ref05_Form_ok (K : Nat) : EnvOk Tryz.prog (env_ref05_Form K) := addS_ok (env_ref05_Amount_ok K) (.inl ⟨callable Tryz.func6 (by kernel_rfl) (by kernel_rfl), ref05_Form_ok K⟩)
def ref05_DocOf_dec : List U → Option (Int × Int × Int) := fun u => match u with | [.i x0_0, .i x0_1, .i x1] => some (x0_0, x0_1, x1) | _ => none
def ref05_DocOf_enc : (Int × Int × Int) → List U := fun r => [.i r.1, .i r.2.1, .i r.2.2]
def ref05_DocOf (K : Nat) (x0_0 : Int) (x0_1 : Int) (x0_2 : Int) (x1 : Int) (x2 : Int) : Option (Int × Int × Int) := ((ref05_Cur K x1).bind fun r0 => (bi (!r0)
    (some ((0, 0, 1)))
    (bi (decide (x2 < 0))
    (some ((0, 0, 1)))
    (bi (decide (x2 > 6))
    (some ((0, 0, 1)))
    ((ref01_Form K x0_0 x0_1 x0_2).bind fun r1 => (bi (!r1)
    (some ((0, 0, 3)))
    ((ref01_Coef K x0_0 x0_1 x0_2).bind fun r2 => ((ref05_Digits K x1).bind fun r3 => ((ref01_Ten K r3).bind fun r4 => ((ref01_Product K r2.fst r2.snd Bool.false r4).bind fun r5 => ((ref01_Ten K x0_2).bind fun r6 => ((ref01_Rounded K r5.fst r5.snd r6 x2).bind fun r7 => ((ref01_Small K r7.fst r7.snd).bind fun r8 => (bi (!r8.snd)
    (some ((0, 0, 4)))
    ((ref05_Amount K r8.fst).bind fun r9 => (bi (!r9)
    (some ((0, 0, 4)))
    (some ((x1, r8.fst, 0)))))))))))))))))))
theorem ref05_DocOf_eq (K : Nat) (x0_0 : Int) (x0_1 : Int) (x0_2 : Int) (x1 : Int) (x2 : Int) : (runF Tryz.prog (env_ref05_Form K) (lenv0) Tryz.f23 [.agg [.int .i64, .int .u64, .int .i64], .one (.int .i64), .one (.int .i64)] [.agg [.int .i64, .int .i64], .one (.int .i64)] ref05_DocOf_dec [.i x0_0, .i x0_1, .i x0_2, .i x1, .i x2]).den2 = ref05_DocOf K x0_0 x0_1 x0_2 x1 x2 := by kernel_rfl
def ref05_DocOf_w (K : Nat) : List U → Option (Int × Int × Int) := fun us => match us with | [.i x0_0, .i x0_1, .i x0_2, .i x1, .i x2] => ref05_DocOf K x0_0 x0_1 x0_2 x1 x2 | _ => none
def ref05_DocOf_spec (K : Nat) : Vm.Spec := ⟨[.agg [.int .i64, .int .u64, .int .i64], .one (.int .i64), .one (.int .i64)], [.agg [.int .i64, .int .i64], .one (.int .i64)], Int × Int × Int, ref05_DocOf_w K, ref05_DocOf_enc⟩
theorem ref05_DocOf_ok (K : Nat) : FnOk Tryz.prog 23 (ref05_DocOf_spec K) := fn_ok' hmix (env_ref05_Form_ok K) (lenv := lenv0) (args := [.agg [.int .i64, .int .u64, .int .i64], .one (.int .i64), .one (.int .i64)]) (res := [.agg [.int .i64, .int .i64], .one (.int .i64)]) (G := ref05_DocOf_w K) (enc := ref05_DocOf_enc) Tryz.func23 (lps_fn (l := []) (by kernel_rfl) trivial) (dec := ref05_DocOf_dec) (fun u r h => by unfold ref05_DocOf_dec at h; split at h; (cases h; rfl); cases h) (fun us r h => by unfold ref05_DocOf_w at h; split at h; exact ((den2_eq _).symm.trans (ref05_DocOf_eq K _ _ _ _ _)).trans h; cases h)
def env_ref05_DocOf (K : Nat) : FuncId → Option Vm.Spec := addS (env_ref05_Form K) 23 (ref05_DocOf_spec K)
theorem env_ref05_DocOf_ok (K : Nat) : EnvOk Tryz.prog (env_ref05_DocOf K) := addS_ok (env_ref05_Form_ok K) (.inl ⟨callable Tryz.func23 (by kernel_rfl) (by kernel_rfl), ref05_DocOf_ok K⟩)
def ref05_DocTo_dec : List U → Option (Int × Int × Int × Int) := fun u => match u with | [.i x0_0, .i x0_1, .i x0_2, .i x1] => some (x0_0, x0_1, x0_2, x1) | _ => none
def ref05_DocTo_enc : (Int × Int × Int × Int) → List U := fun r => [.i r.1, .i r.2.1, .i r.2.2.1, .i r.2.2.2]
def ref05_DocTo (K : Nat) (x0_0 : Int) (x0_1 : Int) : Option (Int × Int × Int × Int) := ((ref05_Form K x0_0 x0_1).bind fun r0 => (bi (!r0)
    (some ((0, 0, 0, 3)))
    ((ref01_Made K x0_1).bind fun r1 => ((ref05_Digits K x0_0).bind fun r2 => ((ref01_Dec K r1.fst r1.snd r2).bind fun r3 => (some ((r3.fst, r3.snd.fst, r3.snd.snd.fst, r3.snd.snd.snd))))))))
theorem ref05_DocTo_eq (K : Nat) (x0_0 : Int) (x0_1 : Int) : (runF Tryz.prog (env_ref05_DocOf K) (lenv0) Tryz.f16 [.agg [.int .i64, .int .i64]] [.agg [.int .i64, .int .u64, .int .i64], .one (.int .i64)] ref05_DocTo_dec [.i x0_0, .i x0_1]).den2 = ref05_DocTo K x0_0 x0_1 := by kernel_rfl
def ref05_DocTo_w (K : Nat) : List U → Option (Int × Int × Int × Int) := fun us => match us with | [.i x0_0, .i x0_1] => ref05_DocTo K x0_0 x0_1 | _ => none
def ref05_DocTo_spec (K : Nat) : Vm.Spec := ⟨[.agg [.int .i64, .int .i64]], [.agg [.int .i64, .int .u64, .int .i64], .one (.int .i64)], Int × Int × Int × Int, ref05_DocTo_w K, ref05_DocTo_enc⟩
theorem ref05_DocTo_ok (K : Nat) : FnOk Tryz.prog 16 (ref05_DocTo_spec K) := fn_ok' hmix (env_ref05_DocOf_ok K) (lenv := lenv0) (args := [.agg [.int .i64, .int .i64]]) (res := [.agg [.int .i64, .int .u64, .int .i64], .one (.int .i64)]) (G := ref05_DocTo_w K) (enc := ref05_DocTo_enc) Tryz.func16 (lps_fn (l := []) (by kernel_rfl) trivial) (dec := ref05_DocTo_dec) (fun u r h => by unfold ref05_DocTo_dec at h; split at h; (cases h; rfl); cases h) (fun us r h => by unfold ref05_DocTo_w at h; split at h; exact ((den2_eq _).symm.trans (ref05_DocTo_eq K _ _)).trans h; cases h)
def env_ref05_DocTo (K : Nat) : FuncId → Option Vm.Spec := addS (env_ref05_DocOf K) 16 (ref05_DocTo_spec K)
theorem env_ref05_DocTo_ok (K : Nat) : EnvOk Tryz.prog (env_ref05_DocTo K) := addS_ok (env_ref05_DocOf_ok K) (.inl ⟨callable Tryz.func16 (by kernel_rfl) (by kernel_rfl), ref05_DocTo_ok K⟩)
def ref02_figure_dec : List U → Option (Bool) := fun u => match u with | [.b c0] => some (c0) | _ => none
def ref02_figure_enc : (Bool) → List U := fun r => [.b r]
def ref02_figure (K : Nat) (x0 : Int) : Option (Bool) := (bi (decide (x0 ≥ 48))
    (some (decide (x0 ≤ 57)))
    (some Bool.false))
theorem ref02_figure_eq (K : Nat) (x0 : Int) : (runF Tryz.prog (env_ref05_DocTo K) (lenv0) Tryz.f76 [.one (.int .u8)] [.one (.bool)] ref02_figure_dec [.i x0]).den2 = ref02_figure K x0 := by kernel_rfl
def ref02_figure_w (K : Nat) : List U → Option (Bool) := fun us => match us with | [.i x0] => ref02_figure K x0 | _ => none
def ref02_figure_spec (K : Nat) : Vm.Spec := ⟨[.one (.int .u8)], [.one (.bool)], Bool, ref02_figure_w K, ref02_figure_enc⟩
theorem ref02_figure_ok (K : Nat) : FnOk Tryz.prog 76 (ref02_figure_spec K) := fn_ok' hmix (env_ref05_DocTo_ok K) (lenv := lenv0) (args := [.one (.int .u8)]) (res := [.one (.bool)]) (G := ref02_figure_w K) (enc := ref02_figure_enc) Tryz.func76 (lps_fn (l := []) (by kernel_rfl) trivial) (dec := ref02_figure_dec) (fun u r h => by unfold ref02_figure_dec at h; split at h; (cases h; rfl); cases h) (fun us r h => by unfold ref02_figure_w at h; split at h; exact ((den2_eq _).symm.trans (ref02_figure_eq K _)).trans h; cases h)
def env_ref02_figure (K : Nat) : FuncId → Option Vm.Spec := addS (env_ref05_DocTo K) 76 (ref02_figure_spec K)
theorem env_ref02_figure_ok (K : Nat) : EnvOk Tryz.prog (env_ref02_figure K) := addS_ok (env_ref05_DocTo_ok K) (.inl ⟨callable Tryz.func76 (by kernel_rfl) (by kernel_rfl), ref02_figure_ok K⟩)
def ref02_Fault_l17_pre : Vm.Pat := ⟨101, [(0, .pv (.one (.str))), (3, .pv (.one (.int .i64))), (4, .pv (.one (.bool))), (5, .pv (.one (.int .i64))), (6, .pv (.one (.bool)))], [], []⟩
def ref02_Fault_l17_post0 : Vm.Pat := ⟨101, [(0, .pv (.one (.str))), (3, .pv (.one (.int .i64))), (4, .pv (.one (.bool))), (5, .pv (.one (.int .i64))), (6, .pv (.one (.bool)))], [], []⟩
def ref02_Fault_l17_enc0 : ByteArray × Int × Bool × Int × Bool → List U := fun r => [.s r.1, .i r.2.1, .b r.2.2.1, .i r.2.2.2.1, .b r.2.2.2.2]
def ref02_Fault_l17_dec0 : List U → Option (ByteArray × Int × Bool × Int × Bool) := fun u => match u with | [.s s0, .i x3, .b c4, .i x5, .b c6] => some (s0, x3, c4, x5, c6) | _ => none
def ref02_Fault_l17_post1 : Vm.Pat := ⟨101, [(2, .pv (.one (.int .i64)))], [], []⟩
def ref02_Fault_l17_enc1 : Int → List U := fun r => [.i r]
def ref02_Fault_l17_dec1 : List U → Option (Int) := fun u => match u with | [.i x2] => some (x2) | _ => none
def ref02_Fault_l17 (K : Nat) : Nat → ByteArray → Int → Bool → Int → Bool → Option ((ByteArray × Int × Bool × Int × Bool) ⊕ (Int))
  | 0, _, _, _, _, _ => none
  | k + 1, s0, x3, c4, x5, c6 => (bi (decide (x3 < (↑s0.size : Int)))
    (bi (decide (0 ≤ x3) && decide (x3 < (↑s0.size : Int)))
    ((ref02_figure K (bt s0 x3)).bind fun r0 => (bi (r0)
    (bi (x3 == IntKind.i64.wrap (x5 + 18))
    (some (Sum.inr x3))
    (bi (c6)
    (bi (decide (0 ≤ x3) && decide (x3 < (↑s0.size : Int)))
    (ref02_Fault_l17 K k (s0) (IntKind.i64.wrap (x3 + 1)) (c4) (x5) (bt s0 x3 == 48))
    none)
    (ref02_Fault_l17 K k (s0) (IntKind.i64.wrap (x3 + 1)) (c4) (x5) (Bool.false))))
    (some (Sum.inl (s0, x3, c4, x5, c6)))))
    none)
    (some (Sum.inl (s0, x3, c4, x5, c6))))
def ref02_Fault_l17_w (K k : Nat) : List U → Option ((ByteArray × Int × Bool × Int × Bool) ⊕ (Int)) := fun us => match us with | [.s s0, .i x3, .b c4, .i x5, .b c6] => ref02_Fault_l17 K k s0 x3 c4 x5 c6 | _ => none
theorem ref02_Fault_l17_eq (K k : Nat) (s0 : ByteArray) (x3 : Int) (c4 : Bool) (x5 : Int) (c6 : Bool) : (round2 Tryz.prog (env_ref02_figure K) (lenv0) (lp (bodyOf Tryz.f48) 1) ref02_Fault_l17_pre (.exit 2) ref02_Fault_l17_post0 .ret ref02_Fault_l17_post1 ref02_Fault_l17_dec0 ref02_Fault_l17_dec1 (ref02_Fault_l17_w K k) [.s s0, .i x3, .b c4, .i x5, .b c6]).den2 = ref02_Fault_l17 K (k + 1) s0 x3 c4 x5 c6 := by kernel_rfl
def ref02_Fault_l17_s (K : Nat) : Vm.LS := .two ref02_Fault_l17_pre _ _ (.exit 2) ref02_Fault_l17_post0 .ret ref02_Fault_l17_post1 (ref02_Fault_l17_w K K) ref02_Fault_l17_enc0 ref02_Fault_l17_enc1
theorem ref02_Fault_l17_ok (K : Nat) : LoopOk Tryz.prog (lp (bodyOf Tryz.f48) 1) (ref02_Fault_l17_s K) := loop_two hmix (env_ref02_figure_ok K) (lenv := lenv0) (L := ref02_Fault_l17_w K) (enc := ref02_Fault_l17_enc0) (dec := ref02_Fault_l17_dec0) (enc' := ref02_Fault_l17_enc1) (dec' := ref02_Fault_l17_dec1) (lps_ok (l := []) (by kernel_rfl) trivial) (fun u r h => by unfold ref02_Fault_l17_dec0 at h; split at h; (cases h; rfl); cases h) (fun u r h => by unfold ref02_Fault_l17_dec1 at h; split at h; (cases h; rfl); cases h) (fun us => by unfold ref02_Fault_l17_w; split <;> first | rfl | (simp only [ref02_Fault_l17])) (fun k us r h => by unfold ref02_Fault_l17_w at h; split at h; exact ((den2_eq _).symm.trans (ref02_Fault_l17_eq K k _ _ _ _ _)).trans h; cases h) K
def ref02_Fault_v17 (K : Nat) : Nat → Option Vm.LS := addL (lenv0) 17 (ref02_Fault_l17_s K)
def ref02_Fault_l7_pre : Vm.Pat := ⟨101, [(0, .pv (.one (.str))), (3, .pv (.one (.int .i64))), (4, .pv (.one (.bool))), (5, .pv (.one (.int .i64))), (6, .pv (.one (.bool)))], [], []⟩
def ref02_Fault_l7_post0 : Vm.Pat := ⟨101, [(0, .pv (.one (.str))), (3, .pv (.one (.int .i64))), (4, .pv (.one (.bool))), (5, .pv (.one (.int .i64))), (6, .pv (.one (.bool)))], [], []⟩
def ref02_Fault_l7_enc0 : ByteArray × Int × Bool × Int × Bool → List U := fun r => [.s r.1, .i r.2.1, .b r.2.2.1, .i r.2.2.2.1, .b r.2.2.2.2]
def ref02_Fault_l7_dec0 : List U → Option (ByteArray × Int × Bool × Int × Bool) := fun u => match u with | [.s s0, .i x3, .b c4, .i x5, .b c6] => some (s0, x3, c4, x5, c6) | _ => none
def ref02_Fault_l7_post1 : Vm.Pat := ⟨101, [(2, .pv (.one (.int .i64)))], [], []⟩
def ref02_Fault_l7_enc1 : Int → List U := fun r => [.i r]
def ref02_Fault_l7_dec1 : List U → Option (Int) := fun u => match u with | [.i x2] => some (x2) | _ => none
def ref02_Fault_l7 (K : Nat) : Nat → ByteArray → Int → Bool → Int → Bool → Option ((ByteArray × Int × Bool × Int × Bool) ⊕ (Int))
  | 0, _, _, _, _, _ => none
  | k + 1, s0, x3, c4, x5, c6 => (bi (decide (x3 < (↑s0.size : Int)))
    (bi (decide (0 ≤ x3) && decide (x3 < (↑s0.size : Int)))
    ((ref02_figure K (bt s0 x3)).bind fun r0 => (bi (r0)
    (bi (x3 == IntKind.i64.wrap (x5 + 1))
    (bi (decide (0 ≤ x5) && decide (x5 < (↑s0.size : Int)))
    (bi (bt s0 x5 == 48)
    (some (Sum.inr x3))
    (bi (c6)
    (bi (decide (0 ≤ x3) && decide (x3 < (↑s0.size : Int)))
    (ref02_Fault_l7 K k (s0) (IntKind.i64.wrap (x3 + 1)) (c4) (x5) (bt s0 x3 == 48))
    none)
    (ref02_Fault_l7 K k (s0) (IntKind.i64.wrap (x3 + 1)) (c4) (x5) (Bool.false))))
    none)
    (bi (c6)
    (bi (decide (0 ≤ x3) && decide (x3 < (↑s0.size : Int)))
    (ref02_Fault_l7 K k (s0) (IntKind.i64.wrap (x3 + 1)) (c4) (x5) (bt s0 x3 == 48))
    none)
    (ref02_Fault_l7 K k (s0) (IntKind.i64.wrap (x3 + 1)) (c4) (x5) (Bool.false))))
    (some (Sum.inl (s0, x3, c4, x5, c6)))))
    none)
    (some (Sum.inl (s0, x3, c4, x5, c6))))
def ref02_Fault_l7_w (K k : Nat) : List U → Option ((ByteArray × Int × Bool × Int × Bool) ⊕ (Int)) := fun us => match us with | [.s s0, .i x3, .b c4, .i x5, .b c6] => ref02_Fault_l7 K k s0 x3 c4 x5 c6 | _ => none
theorem ref02_Fault_l7_eq (K k : Nat) (s0 : ByteArray) (x3 : Int) (c4 : Bool) (x5 : Int) (c6 : Bool) : (round2 Tryz.prog (env_ref02_figure K) (ref02_Fault_v17 K) (lp (bodyOf Tryz.f48) 0) ref02_Fault_l7_pre (.exit 0) ref02_Fault_l7_post0 .ret ref02_Fault_l7_post1 ref02_Fault_l7_dec0 ref02_Fault_l7_dec1 (ref02_Fault_l7_w K k) [.s s0, .i x3, .b c4, .i x5, .b c6]).den2 = ref02_Fault_l7 K (k + 1) s0 x3 c4 x5 c6 := by kernel_rfl
def ref02_Fault_l7_s (K : Nat) : Vm.LS := .two ref02_Fault_l7_pre _ _ (.exit 0) ref02_Fault_l7_post0 .ret ref02_Fault_l7_post1 (ref02_Fault_l7_w K K) ref02_Fault_l7_enc0 ref02_Fault_l7_enc1
theorem ref02_Fault_l7_ok (K : Nat) : LoopOk Tryz.prog (lp (bodyOf Tryz.f48) 0) (ref02_Fault_l7_s K) := loop_two hmix (env_ref02_figure_ok K) (lenv := ref02_Fault_v17 K) (L := ref02_Fault_l7_w K) (enc := ref02_Fault_l7_enc0) (dec := ref02_Fault_l7_dec0) (enc' := ref02_Fault_l7_enc1) (dec' := ref02_Fault_l7_dec1) (lps_ok (l := []) (by kernel_rfl) trivial) (fun u r h => by unfold ref02_Fault_l7_dec0 at h; split at h; (cases h; rfl); cases h) (fun u r h => by unfold ref02_Fault_l7_dec1 at h; split at h; (cases h; rfl); cases h) (fun us => by unfold ref02_Fault_l7_w; split <;> first | rfl | (simp only [ref02_Fault_l7])) (fun k us r h => by unfold ref02_Fault_l7_w at h; split at h; exact ((den2_eq _).symm.trans (ref02_Fault_l7_eq K k _ _ _ _ _)).trans h; cases h) K
def ref02_Fault_v7 (K : Nat) : Nat → Option Vm.LS := addL (ref02_Fault_v17 K) 7 (ref02_Fault_l7_s K)
def ref02_Fault_dec : List U → Option (Int) := fun u => match u with | [.i x0] => some (x0) | _ => none
def ref02_Fault_enc : (Int) → List U := fun r => [.i r]
def ref02_Fault (K : Nat) (s0 : ByteArray) : Option (Int) := (bi (decide ((↑s0.size : Int) > 0))
    (bi (Bool.true && decide (0 < (↑s0.size : Int)))
    (bi (bt s0 0 == 45)
    (casO (ref02_Fault_l7 K K s0 1 (bt s0 0 == 45) 1
  Bool.true) (fun r0 => (bi (r0.snd.fst == r0.snd.snd.snd.fst)
    (some (r0.snd.fst))
    (bi (decide (r0.snd.fst < (↑r0.fst.size : Int)))
    (bi (decide (0 ≤ r0.snd.fst) && decide (r0.snd.fst < (↑r0.fst.size : Int)))
    (bi (bt r0.fst r0.snd.fst == 46)
    (casO (ref02_Fault_l17 K K r0.fst (IntKind.i64.wrap (r0.snd.fst + 1)) r0.snd.snd.fst
  (IntKind.i64.wrap (r0.snd.fst + 1)) r0.snd.snd.snd.snd) (fun r1 => (bi (r1.snd.fst == r1.snd.snd.snd.fst)
    (some (r1.snd.fst))
    (bi (decide (r1.snd.fst < (↑r1.fst.size : Int)))
    (some (r1.snd.fst))
    (bi (r1.snd.snd.fst)
    (bi (r1.snd.snd.snd.snd)
    (some (0))
    (some (-1)))
    (some (-1)))))) (fun r2 => (some r2)))
    (bi (decide (r0.snd.fst < (↑r0.fst.size : Int)))
    (some (r0.snd.fst))
    (bi (r0.snd.snd.fst)
    (bi (r0.snd.snd.snd.snd)
    (some (0))
    (some (-1)))
    (some (-1)))))
    none)
    (bi (decide (r0.snd.fst < (↑r0.fst.size : Int)))
    (some (r0.snd.fst))
    (bi (r0.snd.snd.fst)
    (bi (r0.snd.snd.snd.snd)
    (some (0))
    (some (-1)))
    (some (-1))))))) (fun r3 => (some r3)))
    (casO (ref02_Fault_l7 K K s0 0 (bt s0 0 == 45) 0
  Bool.true) (fun r4 => (bi (r4.snd.fst == r4.snd.snd.snd.fst)
    (some (r4.snd.fst))
    (bi (decide (r4.snd.fst < (↑r4.fst.size : Int)))
    (bi (decide (0 ≤ r4.snd.fst) && decide (r4.snd.fst < (↑r4.fst.size : Int)))
    (bi (bt r4.fst r4.snd.fst == 46)
    (casO (ref02_Fault_l17 K K r4.fst (IntKind.i64.wrap (r4.snd.fst + 1)) r4.snd.snd.fst
  (IntKind.i64.wrap (r4.snd.fst + 1)) r4.snd.snd.snd.snd) (fun r5 => (bi (r5.snd.fst == r5.snd.snd.snd.fst)
    (some (r5.snd.fst))
    (bi (decide (r5.snd.fst < (↑r5.fst.size : Int)))
    (some (r5.snd.fst))
    (bi (r5.snd.snd.fst)
    (bi (r5.snd.snd.snd.snd)
    (some (0))
    (some (-1)))
    (some (-1)))))) (fun r6 => (some r6)))
    (bi (decide (r4.snd.fst < (↑r4.fst.size : Int)))
    (some (r4.snd.fst))
    (bi (r4.snd.snd.fst)
    (bi (r4.snd.snd.snd.snd)
    (some (0))
    (some (-1)))
    (some (-1)))))
    none)
    (bi (decide (r4.snd.fst < (↑r4.fst.size : Int)))
    (some (r4.snd.fst))
    (bi (r4.snd.snd.fst)
    (bi (r4.snd.snd.snd.snd)
    (some (0))
    (some (-1)))
    (some (-1))))))) (fun r7 => (some r7))))
    none)
    (casO (ref02_Fault_l7 K K s0 0 Bool.false 0 Bool.true) (fun r8 => (bi (r8.snd.fst == r8.snd.snd.snd.fst)
    (some (r8.snd.fst))
    (bi (decide (r8.snd.fst < (↑r8.fst.size : Int)))
    (bi (decide (0 ≤ r8.snd.fst) && decide (r8.snd.fst < (↑r8.fst.size : Int)))
    (bi (bt r8.fst r8.snd.fst == 46)
    (casO (ref02_Fault_l17 K K r8.fst (IntKind.i64.wrap (r8.snd.fst + 1)) r8.snd.snd.fst
  (IntKind.i64.wrap (r8.snd.fst + 1)) r8.snd.snd.snd.snd) (fun r9 => (bi (r9.snd.fst == r9.snd.snd.snd.fst)
    (some (r9.snd.fst))
    (bi (decide (r9.snd.fst < (↑r9.fst.size : Int)))
    (some (r9.snd.fst))
    (bi (r9.snd.snd.fst)
    (bi (r9.snd.snd.snd.snd)
    (some (0))
    (some (-1)))
    (some (-1)))))) (fun r10 => (some r10)))
    (bi (decide (r8.snd.fst < (↑r8.fst.size : Int)))
    (some (r8.snd.fst))
    (bi (r8.snd.snd.fst)
    (bi (r8.snd.snd.snd.snd)
    (some (0))
    (some (-1)))
    (some (-1)))))
    none)
    (bi (decide (r8.snd.fst < (↑r8.fst.size : Int)))
    (some (r8.snd.fst))
    (bi (r8.snd.snd.fst)
    (bi (r8.snd.snd.snd.snd)
    (some (0))
    (some (-1)))
    (some (-1))))))) (fun r11 => (some r11))))
theorem ref02_Fault_eq (K : Nat) (s0 : ByteArray) : (runF Tryz.prog (env_ref02_figure K) (ref02_Fault_v7 K) Tryz.f48 [.one (.str)] [.one (.int .i64)] ref02_Fault_dec [.s s0]).den2 = ref02_Fault K s0 := by kernel_rfl
def ref02_Fault_w (K : Nat) : List U → Option (Int) := fun us => match us with | [.s s0] => ref02_Fault K s0 | _ => none
def ref02_Fault_spec (K : Nat) : Vm.Spec := ⟨[.one (.str)], [.one (.int .i64)], Int, ref02_Fault_w K, ref02_Fault_enc⟩
theorem ref02_Fault_ok (K : Nat) : FnOk Tryz.prog 48 (ref02_Fault_spec K) := fn_ok' hmix (env_ref02_figure_ok K) (lenv := ref02_Fault_v7 K) (args := [.one (.str)]) (res := [.one (.int .i64)]) (G := ref02_Fault_w K) (enc := ref02_Fault_enc) Tryz.func48 (lps_fn (l := [lp (bodyOf Tryz.f48) 0, lp (bodyOf Tryz.f48) 1]) (by kernel_rfl) ⟨⟨7, ref02_Fault_l7_s K, by kernel_rfl, by kernel_rfl, ref02_Fault_l7_ok K⟩, ⟨⟨17, ref02_Fault_l17_s K, by kernel_rfl, by kernel_rfl, ref02_Fault_l17_ok K⟩, trivial⟩⟩) (dec := ref02_Fault_dec) (fun u r h => by unfold ref02_Fault_dec at h; split at h; (cases h; rfl); cases h) (fun us r h => by unfold ref02_Fault_w at h; split at h; exact ((den2_eq _).symm.trans (ref02_Fault_eq K _)).trans h; cases h)
def env_ref02_Fault (K : Nat) : FuncId → Option Vm.Spec := addS (env_ref02_figure K) 48 (ref02_Fault_spec K)
theorem env_ref02_Fault_ok (K : Nat) : EnvOk Tryz.prog (env_ref02_Fault K) := addS_ok (env_ref02_figure_ok K) (.inl ⟨callable Tryz.func48 (by kernel_rfl) (by kernel_rfl), ref02_Fault_ok K⟩)
def ref02_Write_l13_pre : Vm.Pat := ⟨73, [(5, .pv (.one (.row .u8 true))), (10, .pv (.one (.str))), (11, .pv (.one (.int .i64))), (1, .box 0 0)], [.cells [.int .i64, .int .u64, .int .i64]], []⟩
def ref02_Write_l13_post0 : Vm.Pat := ⟨73, [(10, .pv (.one (.str)))], [], []⟩
def ref02_Write_l13_enc0 : ByteArray → List U := fun r => [.s r]
def ref02_Write_l13_dec0 : List U → Option (ByteArray) := fun u => match u with | [.s s10] => some (s10) | _ => none
def ref02_Write_l13 (K : Nat) : Nat → List Int → ByteArray → Int → Int → Int → Int → Option (ByteArray)
  | 0, _, _, _, _, _, _ => none
  | k + 1, l5, s10, x11, x1_0, x1_1, x1_2 => (bi (decide (x11 ≥ 0))
    (bi (decide (0 ≤ x11) && decide (x11 ≤ IntKind.i64.wrap (x11 + 1)) &&
  decide (IntKind.i64.wrap (x11 + 1) ≤ (↑l5.length : Int)))
    (bi (decide
  ((↑(s10.size +
          (strOf
              (List.take ((IntKind.i64.wrap (x11 + 1)).toNat - x11.toNat) (List.drop x11.toNat l5))).size) :
      Int) >
    9223372036854775807))
    none
    (bi (x11 == x1_2)
    (bi (decide (x11 > 0))
    (bi (decide
  ((↑((s10 ++
              strOf
                (List.take ((IntKind.i64.wrap (x11 + 1)).toNat - x11.toNat) (List.drop x11.toNat l5))).size +
          1) :
      Int) >
    9223372036854775807))
    none
    (ref02_Write_l13 K k (l5) (s10 ++
    strOf
      (List.take ((IntKind.i64.wrap (x11 + 1)).toNat - x11.toNat) (List.drop x11.toNat l5)) ++
  (ByteArray.mk #[46])) (IntKind.i64.wrap (x11 - 1)) (x1_0) (x1_1) (x1_2)))
    (ref02_Write_l13 K k (l5) (s10 ++
  strOf
    (List.take ((IntKind.i64.wrap (x11 + 1)).toNat - x11.toNat) (List.drop x11.toNat l5))) (IntKind.i64.wrap (x11 - 1)) (x1_0) (x1_1) (x1_2)))
    (ref02_Write_l13 K k (l5) (s10 ++
  strOf
    (List.take ((IntKind.i64.wrap (x11 + 1)).toNat - x11.toNat) (List.drop x11.toNat l5))) (IntKind.i64.wrap (x11 - 1)) (x1_0) (x1_1) (x1_2))))
    none)
    (some s10))
def ref02_Write_l13_w (K k : Nat) : List U → Option (ByteArray) := fun us => match us with | [.r l5, .s s10, .i x11, .i x1_0, .i x1_1, .i x1_2] => ref02_Write_l13 K k l5 s10 x11 x1_0 x1_1 x1_2 | _ => none
theorem ref02_Write_l13_eq (K k : Nat) (l5 : List Int) (s10 : ByteArray) (x11 : Int) (x1_0 : Int) (x1_1 : Int) (x1_2 : Int) : (round1 Tryz.prog (env_ref02_Fault K) (lenv0) (lp (bodyOf Tryz.f18) 1) ref02_Write_l13_pre (.exit 2) ref02_Write_l13_post0 ref02_Write_l13_dec0 (ref02_Write_l13_w K k) [.r l5, .s s10, .i x11, .i x1_0, .i x1_1, .i x1_2]).den2 = ref02_Write_l13 K (k + 1) l5 s10 x11 x1_0 x1_1 x1_2 := by kernel_rfl
def ref02_Write_l13_s (K : Nat) : Vm.LS := .one ref02_Write_l13_pre _ (.exit 2) ref02_Write_l13_post0 (ref02_Write_l13_w K K) ref02_Write_l13_enc0
theorem ref02_Write_l13_ok (K : Nat) : LoopOk Tryz.prog (lp (bodyOf Tryz.f18) 1) (ref02_Write_l13_s K) := loop_one hmix (env_ref02_Fault_ok K) (lenv := lenv0) (L := ref02_Write_l13_w K) (enc := ref02_Write_l13_enc0) (dec := ref02_Write_l13_dec0) (lps_ok (l := []) (by kernel_rfl) trivial) (fun u r h => by unfold ref02_Write_l13_dec0 at h; split at h; (cases h; rfl); cases h) (fun us => by unfold ref02_Write_l13_w; split <;> first | rfl | (simp only [ref02_Write_l13])) (fun k us r h => by unfold ref02_Write_l13_w at h; split at h; exact ((den2_eq _).symm.trans (ref02_Write_l13_eq K k _ _ _ _ _ _)).trans h; cases h) K
def ref02_Write_v13 (K : Nat) : Nat → Option Vm.LS := addL (lenv0) 13 (ref02_Write_l13_s K)
def ref02_Write_l4_pre : Vm.Pat := ⟨73, [(4, .pv (.one (.row .u64 false))), (5, .pv (.one (.row .u8 true))), (1, .box 0 0), (3, .box 1 0)], [.cells [.int .i64, .int .u64, .int .i64], .cells [.bool, .row .u64 false]], []⟩
def ref02_Write_l4_post0 : Vm.Pat := ⟨73, [(5, .pv (.one (.row .u8 true))), (1, .box 0 0), (3, .box 1 0)], [.cells [.int .i64, .int .u64, .int .i64], .cells [.bool, .row .u64 false]], []⟩
def ref02_Write_l4_enc0 : List Int × Int × Int × Int × Bool × List Int → List U := fun r => [.r r.1, .i r.2.1, .i r.2.2.1, .i r.2.2.2.1, .b r.2.2.2.2.1, .r r.2.2.2.2.2]
def ref02_Write_l4_dec0 : List U → Option (List Int × Int × Int × Int × Bool × List Int) := fun u => match u with | [.r l5, .i x1_0, .i x1_1, .i x1_2, .b c3_0, .r l3_1] => some (l5, x1_0, x1_1, x1_2, c3_0, l3_1) | _ => none
def ref02_Write_l4 (K : Nat) : Nat → List Int → List Int → Int → Int → Int → Bool → List Int → Option (List Int × Int × Int × Int × Bool × List Int)
  | 0, _, _, _, _, _, _, _ => none
  | k + 1, l4, l5, x1_0, x1_1, x1_2, c3_0, l3_1 => (bi (decide ((↑l4.length : Int) > 0))
    ((ref01_Word K 10).bind fun r0 => ((ref01_Quo K l4 r0).bind fun r1 => ((ref01_Fits K r1.snd).bind fun r2 => (bi (decide (l5.length + 1 ≤ 8796093022208))
    (ref02_Write_l4 K k (r1.fst) (l5 ++ [IntKind.u8.wrap (IntKind.u64.wrap (48 + r2.fst))]) (x1_0) (x1_1) (x1_2) (c3_0) (l3_1))
    none))))
    (bi (decide ((↑l5.length : Int) ≤ x1_2))
    ((ref01_Word K 10).bind fun r3 => ((ref01_Quo K l4 r3).bind fun r4 => ((ref01_Fits K r4.snd).bind fun r5 => (bi (decide (l5.length + 1 ≤ 8796093022208))
    (ref02_Write_l4 K k (r4.fst) (l5 ++ [IntKind.u8.wrap (IntKind.u64.wrap (48 + r5.fst))]) (x1_0) (x1_1) (x1_2) (c3_0) (l3_1))
    none))))
    (some ((l5, x1_0, x1_1, x1_2, c3_0, l3_1)))))
def ref02_Write_l4_w (K k : Nat) : List U → Option (List Int × Int × Int × Int × Bool × List Int) := fun us => match us with | [.r l4, .r l5, .i x1_0, .i x1_1, .i x1_2, .b c3_0, .r l3_1] => ref02_Write_l4 K k l4 l5 x1_0 x1_1 x1_2 c3_0 l3_1 | _ => none
theorem ref02_Write_l4_eq (K k : Nat) (l4 : List Int) (l5 : List Int) (x1_0 : Int) (x1_1 : Int) (x1_2 : Int) (c3_0 : Bool) (l3_1 : List Int) : (round1 Tryz.prog (env_ref02_Fault K) (ref02_Write_v13 K) (lp (bodyOf Tryz.f18) 0) ref02_Write_l4_pre (.exit 0) ref02_Write_l4_post0 ref02_Write_l4_dec0 (ref02_Write_l4_w K k) [.r l4, .r l5, .i x1_0, .i x1_1, .i x1_2, .b c3_0, .r l3_1]).den2 = ref02_Write_l4 K (k + 1) l4 l5 x1_0 x1_1 x1_2 c3_0 l3_1 := by kernel_rfl
def ref02_Write_l4_s (K : Nat) : Vm.LS := .one ref02_Write_l4_pre _ (.exit 0) ref02_Write_l4_post0 (ref02_Write_l4_w K K) ref02_Write_l4_enc0
theorem ref02_Write_l4_ok (K : Nat) : LoopOk Tryz.prog (lp (bodyOf Tryz.f18) 0) (ref02_Write_l4_s K) := loop_one hmix (env_ref02_Fault_ok K) (lenv := ref02_Write_v13 K) (L := ref02_Write_l4_w K) (enc := ref02_Write_l4_enc0) (dec := ref02_Write_l4_dec0) (lps_ok (l := []) (by kernel_rfl) trivial) (fun u r h => by unfold ref02_Write_l4_dec0 at h; split at h; (cases h; rfl); cases h) (fun us => by unfold ref02_Write_l4_w; split <;> first | rfl | (simp only [ref02_Write_l4])) (fun k us r h => by unfold ref02_Write_l4_w at h; split at h; exact ((den2_eq _).symm.trans (ref02_Write_l4_eq K k _ _ _ _ _ _ _)).trans h; cases h) K
def ref02_Write_v4 (K : Nat) : Nat → Option Vm.LS := addL (ref02_Write_v13 K) 4 (ref02_Write_l4_s K)
def ref02_Write_dec : List U → Option (ByteArray) := fun u => match u with | [.s s0] => some (s0) | _ => none
def ref02_Write_enc : (ByteArray) → List U := fun r => [.s r]
def ref02_Write (K : Nat) (x0_0 : Int) (x0_1 : Int) (x0_2 : Int) : Option (ByteArray) := ((ref01_Coef K x0_0 x0_1 x0_2).bind fun r0 => ((ref02_Write_l4 K K r0.snd [] x0_0 x0_1 x0_2 r0.fst r0.snd).bind fun r1 => ((ref01_Sign K r1.snd.snd.snd.snd.fst r1.snd.snd.snd.snd.snd).bind fun r2 => (bi (decide (r2 < 0))
    ((ref02_Write_l13 K K r1.fst (ByteArray.mk #[45])
  (IntKind.i64.wrap ((↑r1.fst.length : Int) - 1)) r1.snd.fst r1.snd.snd.fst r1.snd.snd.snd.fst).bind fun r3 => (some r3))
    ((ref02_Write_l13 K K r1.fst (ByteArray.mk #[])
  (IntKind.i64.wrap ((↑r1.fst.length : Int) - 1)) r1.snd.fst r1.snd.snd.fst r1.snd.snd.snd.fst).bind fun r4 => (some r4))))))
theorem ref02_Write_eq (K : Nat) (x0_0 : Int) (x0_1 : Int) (x0_2 : Int) : (runF Tryz.prog (env_ref02_Fault K) (ref02_Write_v4 K) Tryz.f18 [.agg [.int .i64, .int .u64, .int .i64]] [.one (.str)] ref02_Write_dec [.i x0_0, .i x0_1, .i x0_2]).den2 = ref02_Write K x0_0 x0_1 x0_2 := by kernel_rfl
def ref02_Write_w (K : Nat) : List U → Option (ByteArray) := fun us => match us with | [.i x0_0, .i x0_1, .i x0_2] => ref02_Write K x0_0 x0_1 x0_2 | _ => none
def ref02_Write_spec (K : Nat) : Vm.Spec := ⟨[.agg [.int .i64, .int .u64, .int .i64]], [.one (.str)], ByteArray, ref02_Write_w K, ref02_Write_enc⟩
theorem ref02_Write_ok (K : Nat) : FnOk Tryz.prog 18 (ref02_Write_spec K) := fn_ok' hmix (env_ref02_Fault_ok K) (lenv := ref02_Write_v4 K) (args := [.agg [.int .i64, .int .u64, .int .i64]]) (res := [.one (.str)]) (G := ref02_Write_w K) (enc := ref02_Write_enc) Tryz.func18 (lps_fn (l := [lp (bodyOf Tryz.f18) 0, lp (bodyOf Tryz.f18) 1]) (by kernel_rfl) ⟨⟨4, ref02_Write_l4_s K, by kernel_rfl, by kernel_rfl, ref02_Write_l4_ok K⟩, ⟨⟨13, ref02_Write_l13_s K, by kernel_rfl, by kernel_rfl, ref02_Write_l13_ok K⟩, trivial⟩⟩) (dec := ref02_Write_dec) (fun u r h => by unfold ref02_Write_dec at h; split at h; (cases h; rfl); cases h) (fun us r h => by unfold ref02_Write_w at h; split at h; exact ((den2_eq _).symm.trans (ref02_Write_eq K _ _ _)).trans h; cases h)
def env_ref02_Write (K : Nat) : FuncId → Option Vm.Spec := addS (env_ref02_Fault K) 18 (ref02_Write_spec K)
theorem env_ref02_Write_ok (K : Nat) : EnvOk Tryz.prog (env_ref02_Write K) := addS_ok (env_ref02_Fault_ok K) (.inl ⟨callable Tryz.func18 (by kernel_rfl) (by kernel_rfl), ref02_Write_ok K⟩)
def ref02_DocParse_l9_pre : Vm.Pat := ⟨63, [(0, .pv (.one (.str))), (7, .pv (.one (.int .i64))), (8, .pv (.one (.bool))), (9, .pv (.one (.int .i64))), (2, .box 0 0), (6, .box 1 0)], [.cells [.int .i64, .int .u64, .int .i64], .cells [.bool, .row .u64 false]], []⟩
def ref02_DocParse_l9_post0 : Vm.Pat := ⟨63, [(7, .pv (.one (.int .i64))), (2, .box 0 0), (6, .box 1 0)], [.cells [.int .i64, .int .u64, .int .i64], .cells [.bool, .row .u64 false]], []⟩
def ref02_DocParse_l9_enc0 : Int × Int × Int × Int × Bool × List Int → List U := fun r => [.i r.1, .i r.2.1, .i r.2.2.1, .i r.2.2.2.1, .b r.2.2.2.2.1, .r r.2.2.2.2.2]
def ref02_DocParse_l9_dec0 : List U → Option (Int × Int × Int × Int × Bool × List Int) := fun u => match u with | [.i x7, .i x2_0, .i x2_1, .i x2_2, .b c6_0, .r l6_1] => some (x7, x2_0, x2_1, x2_2, c6_0, l6_1) | _ => none
def ref02_DocParse_l9 (K : Nat) : Nat → ByteArray → Int → Bool → Int → Int → Int → Int → Bool → List Int → Option (Int × Int × Int × Int × Bool × List Int)
  | 0, _, _, _, _, _, _, _, _, _ => none
  | k + 1, s0, x7, c8, x9, x2_0, x2_1, x2_2, c6_0, l6_1 => (bi (decide (x9 < (↑s0.size : Int)))
    (bi (decide (0 ≤ x9) && decide (x9 < (↑s0.size : Int)))
    (bi (bt s0 x9 == 45)
    (ref02_DocParse_l9 K k (s0) (x7) (c8) (IntKind.i64.wrap (x9 + 1)) (x2_0) (x2_1) (x2_2) (Bool.true) (l6_1))
    (bi (decide (0 ≤ x9) && decide (x9 < (↑s0.size : Int)))
    (bi (bt s0 x9 == 46)
    (ref02_DocParse_l9 K k (s0) (x7) (Bool.true) (IntKind.i64.wrap (x9 + 1)) (x2_0) (x2_1) (x2_2) (c6_0) (l6_1))
    ((ref01_Word K 10).bind fun r0 => ((ref01_Times K l6_1 r0).bind fun r1 => (bi (decide (0 ≤ x9) && decide (x9 < (↑s0.size : Int)))
    ((ref01_Word K
  (IntKind.u64.wrap (IntKind.u8.wrap (bt s0 x9 - 48)))).bind fun r2 => ((ref01_Plus K r1 r2).bind fun r3 => (bi (c8)
    (ref02_DocParse_l9 K k (s0) (IntKind.i64.wrap (x7 + 1)) (c8) (IntKind.i64.wrap (x9 + 1)) (x2_0) (x2_1) (x2_2) (c6_0) (r3))
    (ref02_DocParse_l9 K k (s0) (x7) (c8) (IntKind.i64.wrap (x9 + 1)) (x2_0) (x2_1) (x2_2) (c6_0) (r3)))))
    none))))
    none))
    none)
    (some ((x7, x2_0, x2_1, x2_2, c6_0, l6_1))))
def ref02_DocParse_l9_w (K k : Nat) : List U → Option (Int × Int × Int × Int × Bool × List Int) := fun us => match us with | [.s s0, .i x7, .b c8, .i x9, .i x2_0, .i x2_1, .i x2_2, .b c6_0, .r l6_1] => ref02_DocParse_l9 K k s0 x7 c8 x9 x2_0 x2_1 x2_2 c6_0 l6_1 | _ => none
theorem ref02_DocParse_l9_eq (K k : Nat) (s0 : ByteArray) (x7 : Int) (c8 : Bool) (x9 : Int) (x2_0 : Int) (x2_1 : Int) (x2_2 : Int) (c6_0 : Bool) (l6_1 : List Int) : (round1 Tryz.prog (env_ref02_Write K) (lenv0) (lp (bodyOf Tryz.f22) 0) ref02_DocParse_l9_pre (.exit 0) ref02_DocParse_l9_post0 ref02_DocParse_l9_dec0 (ref02_DocParse_l9_w K k) [.s s0, .i x7, .b c8, .i x9, .i x2_0, .i x2_1, .i x2_2, .b c6_0, .r l6_1]).den2 = ref02_DocParse_l9 K (k + 1) s0 x7 c8 x9 x2_0 x2_1 x2_2 c6_0 l6_1 := by kernel_rfl
def ref02_DocParse_l9_s (K : Nat) : Vm.LS := .one ref02_DocParse_l9_pre _ (.exit 0) ref02_DocParse_l9_post0 (ref02_DocParse_l9_w K K) ref02_DocParse_l9_enc0
theorem ref02_DocParse_l9_ok (K : Nat) : LoopOk Tryz.prog (lp (bodyOf Tryz.f22) 0) (ref02_DocParse_l9_s K) := loop_one hmix (env_ref02_Write_ok K) (lenv := lenv0) (L := ref02_DocParse_l9_w K) (enc := ref02_DocParse_l9_enc0) (dec := ref02_DocParse_l9_dec0) (lps_ok (l := []) (by kernel_rfl) trivial) (fun u r h => by unfold ref02_DocParse_l9_dec0 at h; split at h; (cases h; rfl); cases h) (fun us => by unfold ref02_DocParse_l9_w; split <;> first | rfl | (simp only [ref02_DocParse_l9])) (fun k us r h => by unfold ref02_DocParse_l9_w at h; split at h; exact ((den2_eq _).symm.trans (ref02_DocParse_l9_eq K k _ _ _ _ _ _ _ _ _)).trans h; cases h) K
def ref02_DocParse_v9 (K : Nat) : Nat → Option Vm.LS := addL (lenv0) 9 (ref02_DocParse_l9_s K)
def ref02_DocParse_dec : List U → Option (Int × Int × Int × Int × Int) := fun u => match u with | [.i x0_0, .i x0_1, .i x0_2, .i x1, .i x2] => some (x0_0, x0_1, x0_2, x1, x2) | _ => none
def ref02_DocParse_enc : (Int × Int × Int × Int × Int) → List U := fun r => [.i r.1, .i r.2.1, .i r.2.2.1, .i r.2.2.2.1, .i r.2.2.2.2]
def ref02_DocParse (K : Nat) (s0 : ByteArray) : Option (Int × Int × Int × Int × Int) := (bi (decide ((↑s0.size : Int) > 64))
    (some ((0, 0, 0, 0, 2)))
    ((ref02_Fault K s0).bind fun r0 => (bi (decide (r0 ≥ 0))
    (some ((0, 0, 0, r0, 6)))
    ((ref02_DocParse_l9 K K s0 0 Bool.false 0 0 0 0 Bool.false []).bind fun r1 => ((ref01_Dec K r1.snd.snd.snd.snd.fst r1.snd.snd.snd.snd.snd r1.fst).bind fun r2 => (some ((r2.fst, r2.snd.fst, r2.snd.snd.fst, 0, r2.snd.snd.snd))))))))
theorem ref02_DocParse_eq (K : Nat) (s0 : ByteArray) : (runF Tryz.prog (env_ref02_Write K) (ref02_DocParse_v9 K) Tryz.f22 [.one (.str)] [.agg [.int .i64, .int .u64, .int .i64], .one (.int .i64), .one (.int .i64)] ref02_DocParse_dec [.s s0]).den2 = ref02_DocParse K s0 := by kernel_rfl
def ref02_DocParse_w (K : Nat) : List U → Option (Int × Int × Int × Int × Int) := fun us => match us with | [.s s0] => ref02_DocParse K s0 | _ => none
def ref02_DocParse_spec (K : Nat) : Vm.Spec := ⟨[.one (.str)], [.agg [.int .i64, .int .u64, .int .i64], .one (.int .i64), .one (.int .i64)], Int × Int × Int × Int × Int, ref02_DocParse_w K, ref02_DocParse_enc⟩
theorem ref02_DocParse_ok (K : Nat) : FnOk Tryz.prog 22 (ref02_DocParse_spec K) := fn_ok' hmix (env_ref02_Write_ok K) (lenv := ref02_DocParse_v9 K) (args := [.one (.str)]) (res := [.agg [.int .i64, .int .u64, .int .i64], .one (.int .i64), .one (.int .i64)]) (G := ref02_DocParse_w K) (enc := ref02_DocParse_enc) Tryz.func22 (lps_fn (l := [lp (bodyOf Tryz.f22) 0]) (by kernel_rfl) ⟨⟨9, ref02_DocParse_l9_s K, by kernel_rfl, by kernel_rfl, ref02_DocParse_l9_ok K⟩, trivial⟩) (dec := ref02_DocParse_dec) (fun u r h => by unfold ref02_DocParse_dec at h; split at h; (cases h; rfl); cases h) (fun us r h => by unfold ref02_DocParse_w at h; split at h; exact ((den2_eq _).symm.trans (ref02_DocParse_eq K _)).trans h; cases h)
def env_ref02_DocParse (K : Nat) : FuncId → Option Vm.Spec := addS (env_ref02_Write K) 22 (ref02_DocParse_spec K)
theorem env_ref02_DocParse_ok (K : Nat) : EnvOk Tryz.prog (env_ref02_DocParse K) := addS_ok (env_ref02_Write_ok K) (.inl ⟨callable Tryz.func22 (by kernel_rfl) (by kernel_rfl), ref02_DocParse_ok K⟩)
end Go.Proofs.YtfeifhlnidkbbaaGreatDoor.F
