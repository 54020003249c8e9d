import Derived.Test.YtfeifhlnidkbbaaVmY
import Derived.Test.YtfeifhlnidkbbaaVmRc
import Derived.Test.YtfeifhlnidkbbaaProg
import Derived.Test.YtfeifhlnidkbbaaFD
namespace Go.Proofs.Ytfeifhlnidkbbaa.F
open Go Go.Proofs.Ytfeifhlnidkbbaa.Vm
set_option maxRecDepth 1000000
set_option linter.unusedVariables false
-- passbook/passbookref05.Cur
def ref05_Cur_dec : List U → Option (Bool) := fun u => match u with | [.b c0] => some (c0) | _ => none
def ref05_Cur_enc : (Bool) → List U := fun r => [.b r]
def ref05_Cur (K : Nat) (x0 : Int) : Option (Bool) := (bi (Decidable.decide (x0 ≥ 0))
    (some (Decidable.decide (x0 < 4)))
    (some Bool.false))
theorem ref05_Cur_eq (K : Nat) (x0 : Int) : (runF Go.Proofs.Try.prog (env_money_Split K) (lenv0) Go.Proofs.Try.f49 [.one (.int .i64)] [.one (.bool)] ref05_Cur_dec [.i x0]).den2 = ref05_Cur K x0 := by kernel_rfl
def ref05_Cur_w (K : Nat) : List U → Option (Bool) := fun us => match us with | [.i x0] => ref05_Cur K x0 | _ => none
def ref05_Cur_spec (K : Nat) : Vm.Spec := ⟨[.one (.int .i64)], [.one (.bool)], Bool, ref05_Cur_w K, ref05_Cur_enc⟩
theorem ref05_Cur_ok (K : Nat) : FnOk Go.Proofs.Try.prog 49 (ref05_Cur_spec K) := fn_ok' hmix (env_money_Split_ok K) (lenv := lenv0) (args := [.one (.int .i64)]) (res := [.one (.bool)]) (G := ref05_Cur_w K) (enc := ref05_Cur_enc) Go.Proofs.Try.func49 (lps_fn (l := []) (by kernel_rfl) trivial) (dec := ref05_Cur_dec) (fun u r h => by unfold ref05_Cur_dec at h; split at h; (obtain rfl := Option.some.inj h; rfl); cases h) (fun us r h => by unfold ref05_Cur_w at h; split at h; exact ((den2_eq _).symm.trans (ref05_Cur_eq K _)).trans h; cases h)
def env_ref05_Cur (K : Nat) : FuncId → Option Vm.Spec := addS (env_money_Split K) 49 (ref05_Cur_spec K)
theorem env_ref05_Cur_ok (K : Nat) : EnvOk Go.Proofs.Try.prog (env_ref05_Cur K) := addS_ok (env_money_Split_ok K) (.inl ⟨callable Go.Proofs.Try.func49 (by kernel_rfl) (by kernel_rfl), ref05_Cur_ok K⟩)
-- passbook/passbookref05.Digits
def ref05_Digits_dec : List U → Option (Int) := fun u => match u with | [.i x0] => some (x0) | _ => none
def ref05_Digits_enc : (Int) → List U := fun r => [.i r]
def ref05_Digits (K : Nat) (x0 : Int) : Option (Int) := (bi (Decidable.decide (0 ≤ x0) && Decidable.decide (x0 < 4))
    (some (Go.IntKind.i64.wrap (Go.IntKind.u8.wrap (bt (ByteArray.mk #[50, 50, 48, 51]) x0 - 48))))
    none)
theorem ref05_Digits_eq (K : Nat) (x0 : Int) : (runF Go.Proofs.Try.prog (env_ref05_Cur K) (lenv0) Go.Proofs.Try.f50 [.one (.int .i64)] [.one (.int .i64)] ref05_Digits_dec [.i x0]).den2 = ref05_Digits K x0 := by kernel_rfl
def ref05_Digits_w (K : Nat) : List U → Option (Int) := fun us => match us with | [.i x0] => ref05_Digits K x0 | _ => none
def ref05_Digits_spec (K : Nat) : Vm.Spec := ⟨[.one (.int .i64)], [.one (.int .i64)], Int, ref05_Digits_w K, ref05_Digits_enc⟩
theorem ref05_Digits_ok (K : Nat) : FnOk Go.Proofs.Try.prog 50 (ref05_Digits_spec K) := fn_ok' hmix (env_ref05_Cur_ok K) (lenv := lenv0) (args := [.one (.int .i64)]) (res := [.one (.int .i64)]) (G := ref05_Digits_w K) (enc := ref05_Digits_enc) Go.Proofs.Try.func50 (lps_fn (l := []) (by kernel_rfl) trivial) (dec := ref05_Digits_dec) (fun u r h => by unfold ref05_Digits_dec at h; split at h; (obtain rfl := Option.some.inj h; rfl); cases h) (fun us r h => by unfold ref05_Digits_w at h; split at h; exact ((den2_eq _).symm.trans (ref05_Digits_eq K _)).trans h; cases h)
def env_ref05_Digits (K : Nat) : FuncId → Option Vm.Spec := addS (env_ref05_Cur K) 50 (ref05_Digits_spec K)
theorem env_ref05_Digits_ok (K : Nat) : EnvOk Go.Proofs.Try.prog (env_ref05_Digits K) := addS_ok (env_ref05_Cur_ok K) (.inl ⟨callable Go.Proofs.Try.func50 (by kernel_rfl) (by kernel_rfl), ref05_Digits_ok K⟩)
-- passbook/passbookref05.DocDigits
def ref05_DocDigits_dec : List U → Option (Int × Int) := fun u => match u with | [.i x0, .i x1] => some (x0, x1) | _ => none
def ref05_DocDigits_enc : (Int × Int) → List U := fun r => [.i r.1, .i r.2]
def ref05_DocDigits (K : Nat) (x0 : Int) : Option (Int × Int) := ((ref05_Cur K x0).bind fun r0 => (bi (!r0)
    (some ((0, 1)))
    ((ref05_Digits K x0).bind fun r1 => (some ((r1, 0))))))
theorem ref05_DocDigits_eq (K : Nat) (x0 : Int) : (runF Go.Proofs.Try.prog (env_ref05_Digits K) (lenv0) Go.Proofs.Try.f23 [.one (.int .i64)] [.one (.int .i64), .one (.int .i64)] ref05_DocDigits_dec [.i x0]).den2 = ref05_DocDigits K x0 := by kernel_rfl
def ref05_DocDigits_w (K : Nat) : List U → Option (Int × Int) := fun us => match us with | [.i x0] => ref05_DocDigits K x0 | _ => none
def ref05_DocDigits_spec (K : Nat) : Vm.Spec := ⟨[.one (.int .i64)], [.one (.int .i64), .one (.int .i64)], Int × Int, ref05_DocDigits_w K, ref05_DocDigits_enc⟩
theorem ref05_DocDigits_ok (K : Nat) : FnOk Go.Proofs.Try.prog 23 (ref05_DocDigits_spec K) := fn_ok' hmix (env_ref05_Digits_ok K) (lenv := lenv0) (args := [.one (.int .i64)]) (res := [.one (.int .i64), .one (.int .i64)]) (G := ref05_DocDigits_w K) (enc := ref05_DocDigits_enc) Go.Proofs.Try.func23 (lps_fn (l := []) (by kernel_rfl) trivial) (dec := ref05_DocDigits_dec) (fun u r h => by unfold ref05_DocDigits_dec at h; split at h; (obtain rfl := Option.some.inj h; rfl); cases h) (fun us r h => by unfold ref05_DocDigits_w at h; split at h; exact ((den2_eq _).symm.trans (ref05_DocDigits_eq K _)).trans h; cases h)
def env_ref05_DocDigits (K : Nat) : FuncId → Option Vm.Spec := addS (env_ref05_Digits K) 23 (ref05_DocDigits_spec K)
theorem env_ref05_DocDigits_ok (K : Nat) : EnvOk Go.Proofs.Try.prog (env_ref05_DocDigits K) := addS_ok (env_ref05_Digits_ok K) (.inl ⟨callable Go.Proofs.Try.func23 (by kernel_rfl) (by kernel_rfl), ref05_DocDigits_ok K⟩)
-- passbook/passbookref05.Amount
def ref05_Amount_dec : List U → Option (Bool) := fun u => match u with | [.b c0] => some (c0) | _ => none
def ref05_Amount_enc : (Bool) → List U := fun r => [.b r]
def ref05_Amount (K : Nat) (x0 : Int) : Option (Bool) := (bi (Decidable.decide (x0 ≥ -10000000000000))
    (some (Decidable.decide (x0 ≤ 10000000000000)))
    (some Bool.false))
theorem ref05_Amount_eq (K : Nat) (x0 : Int) : (runF Go.Proofs.Try.prog (env_ref05_DocDigits K) (lenv0) Go.Proofs.Try.f46 [.one (.int .i64)] [.one (.bool)] ref05_Amount_dec [.i x0]).den2 = ref05_Amount K x0 := by kernel_rfl
def ref05_Amount_w (K : Nat) : List U → Option (Bool) := fun us => match us with | [.i x0] => ref05_Amount K x0 | _ => none
def ref05_Amount_spec (K : Nat) : Vm.Spec := ⟨[.one (.int .i64)], [.one (.bool)], Bool, ref05_Amount_w K, ref05_Amount_enc⟩
theorem ref05_Amount_ok (K : Nat) : FnOk Go.Proofs.Try.prog 46 (ref05_Amount_spec K) := fn_ok' hmix (env_ref05_DocDigits_ok K) (lenv := lenv0) (args := [.one (.int .i64)]) (res := [.one (.bool)]) (G := ref05_Amount_w K) (enc := ref05_Amount_enc) Go.Proofs.Try.func46 (lps_fn (l := []) (by kernel_rfl) trivial) (dec := ref05_Amount_dec) (fun u r h => by unfold ref05_Amount_dec at h; split at h; (obtain rfl := Option.some.inj h; rfl); cases h) (fun us r h => by unfold ref05_Amount_w at h; split at h; exact ((den2_eq _).symm.trans (ref05_Amount_eq K _)).trans h; cases h)
def env_ref05_Amount (K : Nat) : FuncId → Option Vm.Spec := addS (env_ref05_DocDigits K) 46 (ref05_Amount_spec K)
theorem env_ref05_Amount_ok (K : Nat) : EnvOk Go.Proofs.Try.prog (env_ref05_Amount K) := addS_ok (env_ref05_DocDigits_ok K) (.inl ⟨callable Go.Proofs.Try.func46 (by kernel_rfl) (by kernel_rfl), ref05_Amount_ok K⟩)
-- passbook/passbookref05.Form
def ref05_Form_dec : List U → Option (Bool) := fun u => match u with | [.b c0] => some (c0) | _ => none
def ref05_Form_enc : (Bool) → List U := fun r => [.b r]
def ref05_Form (K : Nat) (x0_0 : Int) (x0_1 : Int) : Option (Bool) := ((ref05_Cur K x0_0).bind fun r0 => (bi (r0)
    ((ref05_Amount K x0_1).bind fun r1 => (some r1))
    (some Bool.false)))
theorem ref05_Form_eq (K : Nat) (x0_0 : Int) (x0_1 : Int) : (runF Go.Proofs.Try.prog (env_ref05_Amount K) (lenv0) Go.Proofs.Try.f25 [.agg [.int .i64, .int .i64]] [.one (.bool)] ref05_Form_dec [.i x0_0, .i x0_1]).den2 = ref05_Form K x0_0 x0_1 := by kernel_rfl
def ref05_Form_w (K : Nat) : List U → Option (Bool) := fun us => match us with | [.i x0_0, .i x0_1] => ref05_Form K x0_0 x0_1 | _ => none
def ref05_Form_spec (K : Nat) : Vm.Spec := ⟨[.agg [.int .i64, .int .i64]], [.one (.bool)], Bool, ref05_Form_w K, ref05_Form_enc⟩
theorem ref05_Form_ok (K : Nat) : FnOk Go.Proofs.Try.prog 25 (ref05_Form_spec K) := fn_ok' hmix (env_ref05_Amount_ok K) (lenv := lenv0) (args := [.agg [.int .i64, .int .i64]]) (res := [.one (.bool)]) (G := ref05_Form_w K) (enc := ref05_Form_enc) Go.Proofs.Try.func25 (lps_fn (l := []) (by kernel_rfl) trivial) (dec := ref05_Form_dec) (fun u r h => by unfold ref05_Form_dec at h; split at h; (obtain rfl := Option.some.inj h; rfl); cases h) (fun us r h => by unfold ref05_Form_w at h; split at h; exact ((den2_eq _).symm.trans (ref05_Form_eq K _ _)).trans h; cases h)
def env_ref05_Form (K : Nat) : FuncId → Option Vm.Spec := addS (env_ref05_Amount K) 25 (ref05_Form_spec K)
theorem env_ref05_Form_ok (K : Nat) : EnvOk Go.Proofs.Try.prog (env_ref05_Form K) := addS_ok (env_ref05_Amount_ok K) (.inl ⟨callable Go.Proofs.Try.func25 (by kernel_rfl) (by kernel_rfl), ref05_Form_ok K⟩)
-- passbook/passbookref05.DocTwo
def ref05_DocTwo_dec : List U → Option (Int × Int × Int) := fun u => match u with | [.i x0_0, .i x0_1, .i x1] => some (x0_0, x0_1, x1) | _ => none
def ref05_DocTwo_enc : (Int × Int × Int) → List U := fun r => [.i r.1, .i r.2.1, .i r.2.2]
def ref05_DocTwo (K : Nat) (x0_0 : Int) (x0_1 : Int) (x1_0 : Int) (x1_1 : Int) (x2 : Int) : Option (Int × Int × Int) := ((ref05_Form K x0_0 x0_1).bind fun r0 => (bi (!r0)
    (some ((0, 0, 3)))
    ((ref05_Form K x1_0 x1_1).bind fun r1 => (bi (!r1)
    (some ((0, 0, 3)))
    (bi (x0_0 != x1_0)
    (some ((0, 0, 10)))
    ((ref05_Amount K (Go.IntKind.i64.wrap (x0_1 + Go.IntKind.i64.wrap (x2 * x1_1)))).bind fun r2 => (bi (!r2)
    (some ((0, 0, 4)))
    (some ((x0_0, Go.IntKind.i64.wrap (x0_1 + Go.IntKind.i64.wrap (x2 * x1_1)), 0))))))))))
theorem ref05_DocTwo_eq (K : Nat) (x0_0 : Int) (x0_1 : Int) (x1_0 : Int) (x1_1 : Int) (x2 : Int) : (runF Go.Proofs.Try.prog (env_ref05_Form K) (lenv0) Go.Proofs.Try.f20 [.agg [.int .i64, .int .i64], .agg [.int .i64, .int .i64], .one (.int .i64)] [.agg [.int .i64, .int .i64], .one (.int .i64)] ref05_DocTwo_dec [.i x0_0, .i x0_1, .i x1_0, .i x1_1, .i x2]).den2 = ref05_DocTwo K x0_0 x0_1 x1_0 x1_1 x2 := by kernel_rfl
def ref05_DocTwo_w (K : Nat) : List U → Option (Int × Int × Int) := fun us => match us with | [.i x0_0, .i x0_1, .i x1_0, .i x1_1, .i x2] => ref05_DocTwo K x0_0 x0_1 x1_0 x1_1 x2 | _ => none
def ref05_DocTwo_spec (K : Nat) : Vm.Spec := ⟨[.agg [.int .i64, .int .i64], .agg [.int .i64, .int .i64], .one (.int .i64)], [.agg [.int .i64, .int .i64], .one (.int .i64)], Int × Int × Int, ref05_DocTwo_w K, ref05_DocTwo_enc⟩
theorem ref05_DocTwo_ok (K : Nat) : FnOk Go.Proofs.Try.prog 20 (ref05_DocTwo_spec K) := fn_ok' hmix (env_ref05_Form_ok K) (lenv := lenv0) (args := [.agg [.int .i64, .int .i64], .agg [.int .i64, .int .i64], .one (.int .i64)]) (res := [.agg [.int .i64, .int .i64], .one (.int .i64)]) (G := ref05_DocTwo_w K) (enc := ref05_DocTwo_enc) Go.Proofs.Try.func20 (lps_fn (l := []) (by kernel_rfl) trivial) (dec := ref05_DocTwo_dec) (fun u r h => by unfold ref05_DocTwo_dec at h; split at h; (obtain rfl := Option.some.inj h; rfl); cases h) (fun us r h => by unfold ref05_DocTwo_w at h; split at h; exact ((den2_eq _).symm.trans (ref05_DocTwo_eq K _ _ _ _ _)).trans h; cases h)
def env_ref05_DocTwo (K : Nat) : FuncId → Option Vm.Spec := addS (env_ref05_Form K) 20 (ref05_DocTwo_spec K)
theorem env_ref05_DocTwo_ok (K : Nat) : EnvOk Go.Proofs.Try.prog (env_ref05_DocTwo K) := addS_ok (env_ref05_Form_ok K) (.inl ⟨callable Go.Proofs.Try.func20 (by kernel_rfl) (by kernel_rfl), ref05_DocTwo_ok K⟩)
-- passbook/passbookref05.DocCmp
def ref05_DocCmp_dec : List U → Option (Int × Int) := fun u => match u with | [.i x0, .i x1] => some (x0, x1) | _ => none
def ref05_DocCmp_enc : (Int × Int) → List U := fun r => [.i r.1, .i r.2]
def ref05_DocCmp (K : Nat) (x0_0 : Int) (x0_1 : Int) (x1_0 : Int) (x1_1 : Int) : Option (Int × Int) := ((ref05_Form K x0_0 x0_1).bind fun r0 => (bi (!r0)
    (some ((0, 3)))
    ((ref05_Form K x1_0 x1_1).bind fun r1 => (bi (!r1)
    (some ((0, 3)))
    (bi (x0_0 != x1_0)
    (some ((0, 10)))
    (bi (Decidable.decide (x0_1 < x1_1))
    (some ((-1, 0)))
    (bi (Decidable.decide (x0_1 > x1_1))
    (some ((1, 0)))
    (some ((0, 0))))))))))
theorem ref05_DocCmp_eq (K : Nat) (x0_0 : Int) (x0_1 : Int) (x1_0 : Int) (x1_1 : Int) : (runF Go.Proofs.Try.prog (env_ref05_DocTwo K) (lenv0) Go.Proofs.Try.f21 [.agg [.int .i64, .int .i64], .agg [.int .i64, .int .i64]] [.one (.int .i64), .one (.int .i64)] ref05_DocCmp_dec [.i x0_0, .i x0_1, .i x1_0, .i x1_1]).den2 = ref05_DocCmp K x0_0 x0_1 x1_0 x1_1 := by kernel_rfl
def ref05_DocCmp_w (K : Nat) : List U → Option (Int × Int) := fun us => match us with | [.i x0_0, .i x0_1, .i x1_0, .i x1_1] => ref05_DocCmp K x0_0 x0_1 x1_0 x1_1 | _ => none
def ref05_DocCmp_spec (K : Nat) : Vm.Spec := ⟨[.agg [.int .i64, .int .i64], .agg [.int .i64, .int .i64]], [.one (.int .i64), .one (.int .i64)], Int × Int, ref05_DocCmp_w K, ref05_DocCmp_enc⟩
theorem ref05_DocCmp_ok (K : Nat) : FnOk Go.Proofs.Try.prog 21 (ref05_DocCmp_spec K) := fn_ok' hmix (env_ref05_DocTwo_ok K) (lenv := lenv0) (args := [.agg [.int .i64, .int .i64], .agg [.int .i64, .int .i64]]) (res := [.one (.int .i64), .one (.int .i64)]) (G := ref05_DocCmp_w K) (enc := ref05_DocCmp_enc) Go.Proofs.Try.func21 (lps_fn (l := []) (by kernel_rfl) trivial) (dec := ref05_DocCmp_dec) (fun u r h => by unfold ref05_DocCmp_dec at h; split at h; (obtain rfl := Option.some.inj h; rfl); cases h) (fun us r h => by unfold ref05_DocCmp_w at h; split at h; exact ((den2_eq _).symm.trans (ref05_DocCmp_eq K _ _ _ _)).trans h; cases h)
def env_ref05_DocCmp (K : Nat) : FuncId → Option Vm.Spec := addS (env_ref05_DocTwo K) 21 (ref05_DocCmp_spec K)
theorem env_ref05_DocCmp_ok (K : Nat) : EnvOk Go.Proofs.Try.prog (env_ref05_DocCmp K) := addS_ok (env_ref05_DocTwo_ok K) (.inl ⟨callable Go.Proofs.Try.func21 (by kernel_rfl) (by kernel_rfl), ref05_DocCmp_ok K⟩)
-- passbook/passbookref05.DocOf
def ref05_DocOf_dec : List U → Option (Int × Int × Int) := fun u => match u with | [.i x0_0, .i x0_1, .i x1] => some (x0_0, x0_1, x1) | _ => none
def ref05_DocOf_enc : (Int × Int × Int) → List U := fun r => [.i r.1, .i r.2.1, .i r.2.2]
def ref05_DocOf (K : Nat) (x0_0 : Int) (x0_1 : Int) (x0_2 : Int) (x1 : Int) (x2 : Int) : Option (Int × Int × Int) := ((ref05_Cur K x1).bind fun r0 => (bi (!r0)
    (some ((0, 0, 1)))
    (bi (Decidable.decide (x2 < 0))
    (some ((0, 0, 1)))
    (bi (Decidable.decide (x2 > 6))
    (some ((0, 0, 1)))
    ((ref01_Form K x0_0 x0_1 x0_2).bind fun r1 => (bi (!r1)
    (some ((0, 0, 3)))
    ((ref01_Coef K x0_0 x0_1 x0_2).bind fun r2 => ((ref05_Digits K x1).bind fun r3 => ((ref01_Ten K r3).bind fun r4 => ((ref01_Product K r2.fst r2.snd Bool.false r4).bind fun r5 => ((ref01_Ten K x0_2).bind fun r6 => ((ref01_Rounded K r5.fst r5.snd r6 x2).bind fun r7 => ((ref01_Small K r7.fst r7.snd).bind fun r8 => (bi (!r8.snd)
    (some ((0, 0, 4)))
    ((ref05_Amount K r8.fst).bind fun r9 => (bi (!r9)
    (some ((0, 0, 4)))
    (some ((x1, r8.fst, 0)))))))))))))))))))
theorem ref05_DocOf_eq (K : Nat) (x0_0 : Int) (x0_1 : Int) (x0_2 : Int) (x1 : Int) (x2 : Int) : (runF Go.Proofs.Try.prog (env_ref05_DocCmp K) (lenv0) Go.Proofs.Try.f27 [.agg [.int .i64, .int .u64, .int .i64], .one (.int .i64), .one (.int .i64)] [.agg [.int .i64, .int .i64], .one (.int .i64)] ref05_DocOf_dec [.i x0_0, .i x0_1, .i x0_2, .i x1, .i x2]).den2 = ref05_DocOf K x0_0 x0_1 x0_2 x1 x2 := by kernel_rfl
def ref05_DocOf_w (K : Nat) : List U → Option (Int × Int × Int) := fun us => match us with | [.i x0_0, .i x0_1, .i x0_2, .i x1, .i x2] => ref05_DocOf K x0_0 x0_1 x0_2 x1 x2 | _ => none
def ref05_DocOf_spec (K : Nat) : Vm.Spec := ⟨[.agg [.int .i64, .int .u64, .int .i64], .one (.int .i64), .one (.int .i64)], [.agg [.int .i64, .int .i64], .one (.int .i64)], Int × Int × Int, ref05_DocOf_w K, ref05_DocOf_enc⟩
theorem ref05_DocOf_ok (K : Nat) : FnOk Go.Proofs.Try.prog 27 (ref05_DocOf_spec K) := fn_ok' hmix (env_ref05_DocCmp_ok K) (lenv := lenv0) (args := [.agg [.int .i64, .int .u64, .int .i64], .one (.int .i64), .one (.int .i64)]) (res := [.agg [.int .i64, .int .i64], .one (.int .i64)]) (G := ref05_DocOf_w K) (enc := ref05_DocOf_enc) Go.Proofs.Try.func27 (lps_fn (l := []) (by kernel_rfl) trivial) (dec := ref05_DocOf_dec) (fun u r h => by unfold ref05_DocOf_dec at h; split at h; (obtain rfl := Option.some.inj h; rfl); cases h) (fun us r h => by unfold ref05_DocOf_w at h; split at h; exact ((den2_eq _).symm.trans (ref05_DocOf_eq K _ _ _ _ _)).trans h; cases h)
def env_ref05_DocOf (K : Nat) : FuncId → Option Vm.Spec := addS (env_ref05_DocCmp K) 27 (ref05_DocOf_spec K)
theorem env_ref05_DocOf_ok (K : Nat) : EnvOk Go.Proofs.Try.prog (env_ref05_DocOf K) := addS_ok (env_ref05_DocCmp_ok K) (.inl ⟨callable Go.Proofs.Try.func27 (by kernel_rfl) (by kernel_rfl), ref05_DocOf_ok K⟩)
-- passbook/passbookref05.DocTo
def ref05_DocTo_dec : List U → Option (Int × Int × Int × Int) := fun u => match u with | [.i x0_0, .i x0_1, .i x0_2, .i x1] => some (x0_0, x0_1, x0_2, x1) | _ => none
def ref05_DocTo_enc : (Int × Int × Int × Int) → List U := fun r => [.i r.1, .i r.2.1, .i r.2.2.1, .i r.2.2.2]
def ref05_DocTo (K : Nat) (x0_0 : Int) (x0_1 : Int) : Option (Int × Int × Int × Int) := ((ref05_Form K x0_0 x0_1).bind fun r0 => (bi (!r0)
    (some ((0, 0, 0, 3)))
    ((ref01_Made K x0_1).bind fun r1 => ((ref05_Digits K x0_0).bind fun r2 => ((ref01_Dec K r1.fst r1.snd r2).bind fun r3 => (some ((r3.fst, r3.snd.fst, r3.snd.snd.fst, r3.snd.snd.snd))))))))
theorem ref05_DocTo_eq (K : Nat) (x0_0 : Int) (x0_1 : Int) : (runF Go.Proofs.Try.prog (env_ref05_DocOf K) (lenv0) Go.Proofs.Try.f29 [.agg [.int .i64, .int .i64]] [.agg [.int .i64, .int .u64, .int .i64], .one (.int .i64)] ref05_DocTo_dec [.i x0_0, .i x0_1]).den2 = ref05_DocTo K x0_0 x0_1 := by kernel_rfl
def ref05_DocTo_w (K : Nat) : List U → Option (Int × Int × Int × Int) := fun us => match us with | [.i x0_0, .i x0_1] => ref05_DocTo K x0_0 x0_1 | _ => none
def ref05_DocTo_spec (K : Nat) : Vm.Spec := ⟨[.agg [.int .i64, .int .i64]], [.agg [.int .i64, .int .u64, .int .i64], .one (.int .i64)], Int × Int × Int × Int, ref05_DocTo_w K, ref05_DocTo_enc⟩
theorem ref05_DocTo_ok (K : Nat) : FnOk Go.Proofs.Try.prog 29 (ref05_DocTo_spec K) := fn_ok' hmix (env_ref05_DocOf_ok K) (lenv := lenv0) (args := [.agg [.int .i64, .int .i64]]) (res := [.agg [.int .i64, .int .u64, .int .i64], .one (.int .i64)]) (G := ref05_DocTo_w K) (enc := ref05_DocTo_enc) Go.Proofs.Try.func29 (lps_fn (l := []) (by kernel_rfl) trivial) (dec := ref05_DocTo_dec) (fun u r h => by unfold ref05_DocTo_dec at h; split at h; (obtain rfl := Option.some.inj h; rfl); cases h) (fun us r h => by unfold ref05_DocTo_w at h; split at h; exact ((den2_eq _).symm.trans (ref05_DocTo_eq K _ _)).trans h; cases h)
def env_ref05_DocTo (K : Nat) : FuncId → Option Vm.Spec := addS (env_ref05_DocOf K) 29 (ref05_DocTo_spec K)
theorem env_ref05_DocTo_ok (K : Nat) : EnvOk Go.Proofs.Try.prog (env_ref05_DocTo K) := addS_ok (env_ref05_DocOf_ok K) (.inl ⟨callable Go.Proofs.Try.func29 (by kernel_rfl) (by kernel_rfl), ref05_DocTo_ok K⟩)
-- passbook/passbooklaw05.awake
def law05_awake_dec : List U → Option (Bool) := fun u => match u with | [.b c0] => some (c0) | _ => none
def law05_awake_enc : (Bool) → List U := fun r => [.b r]
def law05_awake (K : Nat)  : Option (Bool) := ((money_Split K 0 100 [1, 1, 1]).bind fun r0 => ((money_Write K 2 12).bind fun r1 => (bi (r0.snd == 0)
    (bi ((↑r0.fst.length : Int) == 3)
    (bi (Bool.true && Decidable.decide (0 < (↑r0.fst.length : Int)))
    (bi (nth 0 (nth [] r0.fst 0) 1 == 34)
    (bi (Bool.true && Decidable.decide (1 < (↑r0.fst.length : Int)))
    (bi (nth 0 (nth [] r0.fst 1) 1 == 33)
    (bi (r1.snd == 0)
    (some (sEq r1.fst (ByteArray.mk #[74, 80, 89, 32, 49, 50])))
    (some Bool.false))
    (some Bool.false))
    none)
    (some Bool.false))
    none)
    (some Bool.false))
    (some Bool.false))))
theorem law05_awake_eq (K : Nat)  : (runF Go.Proofs.Try.prog (env_ref05_DocTo K) (lenv0) Go.Proofs.Try.f9 [] [.one (.bool)] law05_awake_dec []).den2 = law05_awake K  := by kernel_rfl
def law05_awake_w (K : Nat) : List U → Option (Bool) := fun us => match us with | [] => law05_awake K  | _ => none
def law05_awake_spec (K : Nat) : Vm.Spec := ⟨[], [.one (.bool)], Bool, law05_awake_w K, law05_awake_enc⟩
theorem law05_awake_ok (K : Nat) : FnOk Go.Proofs.Try.prog 9 (law05_awake_spec K) := fn_ok' hmix (env_ref05_DocTo_ok K) (lenv := lenv0) (args := []) (res := [.one (.bool)]) (G := law05_awake_w K) (enc := law05_awake_enc) Go.Proofs.Try.func9 (lps_fn (l := []) (by kernel_rfl) trivial) (dec := law05_awake_dec) (fun u r h => by unfold law05_awake_dec at h; split at h; (obtain rfl := Option.some.inj h; rfl); cases h) (fun us r h => by unfold law05_awake_w at h; split at h; exact ((den2_eq _).symm.trans (law05_awake_eq K)).trans h; cases h)
def env_law05_awake (K : Nat) : FuncId → Option Vm.Spec := addS (env_ref05_DocTo K) 9 (law05_awake_spec K)
theorem env_law05_awake_ok (K : Nat) : EnvOk Go.Proofs.Try.prog (env_law05_awake K) := addS_ok (env_ref05_DocTo_ok K) (.inl ⟨callable Go.Proofs.Try.func9 (by kernel_rfl) (by kernel_rfl), law05_awake_ok K⟩)
end Go.Proofs.Ytfeifhlnidkbbaa.F
