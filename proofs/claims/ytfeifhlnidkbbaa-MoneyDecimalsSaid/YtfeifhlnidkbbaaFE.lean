import Derived.Test.YtfeifhlnidkbbaaVmY
import Derived.Test.YtfeifhlnidkbbaaProg
import Derived.Test.YtfeifhlnidkbbaaFD
namespace Go.Proofs.Ytfeifhlnidkbbaa.F
open Go Go.Proofs.Ytfeifhlnidkbbaa.Vm
set_option maxRecDepth 1000000
set_option linter.unusedVariables false
-- passbook/passbookref05.Cur
def ref05_Cur_dec : List U → Option (Bool) := fun u => match u with | [.b c0] => some (c0) | _ => none
def ref05_Cur_enc : (Bool) → List U := fun r => [.b r]
def ref05_Cur (K : Nat) (x0 : Int) : Option (Bool) := (bi (Decidable.decide (x0 ≥ 0))
    (some (Decidable.decide (x0 < 4)))
    (some Bool.false))
theorem ref05_Cur_eq (K : Nat) (x0 : Int) : (runF Go.Proofs.Try.prog (env_money_Split K) (lenv0) Go.Proofs.Try.f49 [.one (.int .i64)] [.one (.bool)] ref05_Cur_dec [.i x0]).den2 = ref05_Cur K x0 := by kernel_rfl
def ref05_Cur_w (K : Nat) : List U → Option (Bool) := fun us => match us with | [.i x0] => ref05_Cur K x0 | _ => none
def ref05_Cur_spec (K : Nat) : Vm.Spec := ⟨[.one (.int .i64)], [.one (.bool)], Bool, ref05_Cur_w K, ref05_Cur_enc⟩
theorem ref05_Cur_ok (K : Nat) : FnOk Go.Proofs.Try.prog 49 (ref05_Cur_spec K) := fn_ok' hmix (env_money_Split_ok K) (lenv := lenv0) (args := [.one (.int .i64)]) (res := [.one (.bool)]) (G := ref05_Cur_w K) (enc := ref05_Cur_enc) Go.Proofs.Try.func49 (lps_fn (l := []) (by kernel_rfl) trivial) (dec := ref05_Cur_dec) (fun u r h => by unfold ref05_Cur_dec at h; split at h; (obtain rfl := Option.some.inj h; rfl); cases h) (fun us r h => by unfold ref05_Cur_w at h; split at h; exact ((den2_eq _).symm.trans (ref05_Cur_eq K _)).trans h; cases h)
def env_ref05_Cur (K : Nat) : FuncId → Option Vm.Spec := addS (env_money_Split K) 49 (ref05_Cur_spec K)
theorem env_ref05_Cur_ok (K : Nat) : EnvOk Go.Proofs.Try.prog (env_ref05_Cur K) := addS_ok (env_money_Split_ok K) (.inl ⟨callable Go.Proofs.Try.func49 (by kernel_rfl) (by kernel_rfl), ref05_Cur_ok K⟩)
-- passbook/passbookref05.Digits
def ref05_Digits_dec : List U → Option (Int) := fun u => match u with | [.i x0] => some (x0) | _ => none
def ref05_Digits_enc : (Int) → List U := fun r => [.i r]
def ref05_Digits (K : Nat) (x0 : Int) : Option (Int) := (bi (Decidable.decide (0 ≤ x0) && Decidable.decide (x0 < 4))
    (some (Go.IntKind.i64.wrap (Go.IntKind.u8.wrap (bt { data := #[50, 50, 48, 51] } x0 - 48))))
    none)
theorem ref05_Digits_eq (K : Nat) (x0 : Int) : (runF Go.Proofs.Try.prog (env_ref05_Cur K) (lenv0) Go.Proofs.Try.f50 [.one (.int .i64)] [.one (.int .i64)] ref05_Digits_dec [.i x0]).den2 = ref05_Digits K x0 := by kernel_rfl
def ref05_Digits_w (K : Nat) : List U → Option (Int) := fun us => match us with | [.i x0] => ref05_Digits K x0 | _ => none
def ref05_Digits_spec (K : Nat) : Vm.Spec := ⟨[.one (.int .i64)], [.one (.int .i64)], Int, ref05_Digits_w K, ref05_Digits_enc⟩
theorem ref05_Digits_ok (K : Nat) : FnOk Go.Proofs.Try.prog 50 (ref05_Digits_spec K) := fn_ok' hmix (env_ref05_Cur_ok K) (lenv := lenv0) (args := [.one (.int .i64)]) (res := [.one (.int .i64)]) (G := ref05_Digits_w K) (enc := ref05_Digits_enc) Go.Proofs.Try.func50 (lps_fn (l := []) (by kernel_rfl) trivial) (dec := ref05_Digits_dec) (fun u r h => by unfold ref05_Digits_dec at h; split at h; (obtain rfl := Option.some.inj h; rfl); cases h) (fun us r h => by unfold ref05_Digits_w at h; split at h; exact ((den2_eq _).symm.trans (ref05_Digits_eq K _)).trans h; cases h)
def env_ref05_Digits (K : Nat) : FuncId → Option Vm.Spec := addS (env_ref05_Cur K) 50 (ref05_Digits_spec K)
theorem env_ref05_Digits_ok (K : Nat) : EnvOk Go.Proofs.Try.prog (env_ref05_Digits K) := addS_ok (env_ref05_Cur_ok K) (.inl ⟨callable Go.Proofs.Try.func50 (by kernel_rfl) (by kernel_rfl), ref05_Digits_ok K⟩)
-- passbook/passbookref05.DocDigits
def ref05_DocDigits_dec : List U → Option (Int × Int) := fun u => match u with | [.i x0, .i x1] => some (x0, x1) | _ => none
def ref05_DocDigits_enc : (Int × Int) → List U := fun r => [.i r.1, .i r.2]
def ref05_DocDigits (K : Nat) (x0 : Int) : Option (Int × Int) := ((ref05_Cur K x0).bind fun r0 => (bi (!r0)
    (some ((0, 1)))
    ((ref05_Digits K x0).bind fun r1 => (some ((r1, 0))))))
theorem ref05_DocDigits_eq (K : Nat) (x0 : Int) : (runF Go.Proofs.Try.prog (env_ref05_Digits K) (lenv0) Go.Proofs.Try.f23 [.one (.int .i64)] [.one (.int .i64), .one (.int .i64)] ref05_DocDigits_dec [.i x0]).den2 = ref05_DocDigits K x0 := by kernel_rfl
def ref05_DocDigits_w (K : Nat) : List U → Option (Int × Int) := fun us => match us with | [.i x0] => ref05_DocDigits K x0 | _ => none
def ref05_DocDigits_spec (K : Nat) : Vm.Spec := ⟨[.one (.int .i64)], [.one (.int .i64), .one (.int .i64)], Int × Int, ref05_DocDigits_w K, ref05_DocDigits_enc⟩
theorem ref05_DocDigits_ok (K : Nat) : FnOk Go.Proofs.Try.prog 23 (ref05_DocDigits_spec K) := fn_ok' hmix (env_ref05_Digits_ok K) (lenv := lenv0) (args := [.one (.int .i64)]) (res := [.one (.int .i64), .one (.int .i64)]) (G := ref05_DocDigits_w K) (enc := ref05_DocDigits_enc) Go.Proofs.Try.func23 (lps_fn (l := []) (by kernel_rfl) trivial) (dec := ref05_DocDigits_dec) (fun u r h => by unfold ref05_DocDigits_dec at h; split at h; (obtain rfl := Option.some.inj h; rfl); cases h) (fun us r h => by unfold ref05_DocDigits_w at h; split at h; exact ((den2_eq _).symm.trans (ref05_DocDigits_eq K _)).trans h; cases h)
def env_ref05_DocDigits (K : Nat) : FuncId → Option Vm.Spec := addS (env_ref05_Digits K) 23 (ref05_DocDigits_spec K)
theorem env_ref05_DocDigits_ok (K : Nat) : EnvOk Go.Proofs.Try.prog (env_ref05_DocDigits K) := addS_ok (env_ref05_Digits_ok K) (.inl ⟨callable Go.Proofs.Try.func23 (by kernel_rfl) (by kernel_rfl), ref05_DocDigits_ok K⟩)
-- passbook/passbookref05.Amount
def ref05_Amount_dec : List U → Option (Bool) := fun u => match u with | [.b c0] => some (c0) | _ => none
def ref05_Amount_enc : (Bool) → List U := fun r => [.b r]
def ref05_Amount (K : Nat) (x0 : Int) : Option (Bool) := (bi (Decidable.decide (x0 ≥ -10000000000000))
    (some (Decidable.decide (x0 ≤ 10000000000000)))
    (some Bool.false))
theorem ref05_Amount_eq (K : Nat) (x0 : Int) : (runF Go.Proofs.Try.prog (env_ref05_DocDigits K) (lenv0) Go.Proofs.Try.f46 [.one (.int .i64)] [.one (.bool)] ref05_Amount_dec [.i x0]).den2 = ref05_Amount K x0 := by kernel_rfl
def ref05_Amount_w (K : Nat) : List U → Option (Bool) := fun us => match us with | [.i x0] => ref05_Amount K x0 | _ => none
def ref05_Amount_spec (K : Nat) : Vm.Spec := ⟨[.one (.int .i64)], [.one (.bool)], Bool, ref05_Amount_w K, ref05_Amount_enc⟩
theorem ref05_Amount_ok (K : Nat) : FnOk Go.Proofs.Try.prog 46 (ref05_Amount_spec K) := fn_ok' hmix (env_ref05_DocDigits_ok K) (lenv := lenv0) (args := [.one (.int .i64)]) (res := [.one (.bool)]) (G := ref05_Amount_w K) (enc := ref05_Amount_enc) Go.Proofs.Try.func46 (lps_fn (l := []) (by kernel_rfl) trivial) (dec := ref05_Amount_dec) (fun u r h => by unfold ref05_Amount_dec at h; split at h; (obtain rfl := Option.some.inj h; rfl); cases h) (fun us r h => by unfold ref05_Amount_w at h; split at h; exact ((den2_eq _).symm.trans (ref05_Amount_eq K _)).trans h; cases h)
def env_ref05_Amount (K : Nat) : FuncId → Option Vm.Spec := addS (env_ref05_DocDigits K) 46 (ref05_Amount_spec K)
theorem env_ref05_Amount_ok (K : Nat) : EnvOk Go.Proofs.Try.prog (env_ref05_Amount K) := addS_ok (env_ref05_DocDigits_ok K) (.inl ⟨callable Go.Proofs.Try.func46 (by kernel_rfl) (by kernel_rfl), ref05_Amount_ok K⟩)
-- passbook/passbookref05.Form
def ref05_Form_dec : List U → Option (Bool) := fun u => match u with | [.b c0] => some (c0) | _ => none
def ref05_Form_enc : (Bool) → List U := fun r => [.b r]
def ref05_Form (K : Nat) (x0_0 : Int) (x0_1 : Int) : Option (Bool) := ((ref05_Cur K x0_0).bind fun r0 => (bi (r0)
    ((ref05_Amount K x0_1).bind fun r1 => (some r1))
    (some Bool.false)))
theorem ref05_Form_eq (K : Nat) (x0_0 : Int) (x0_1 : Int) : (runF Go.Proofs.Try.prog (env_ref05_Amount K) (lenv0) Go.Proofs.Try.f25 [.agg [.int .i64, .int .i64]] [.one (.bool)] ref05_Form_dec [.i x0_0, .i x0_1]).den2 = ref05_Form K x0_0 x0_1 := by kernel_rfl
def ref05_Form_w (K : Nat) : List U → Option (Bool) := fun us => match us with | [.i x0_0, .i x0_1] => ref05_Form K x0_0 x0_1 | _ => none
def ref05_Form_spec (K : Nat) : Vm.Spec := ⟨[.agg [.int .i64, .int .i64]], [.one (.bool)], Bool, ref05_Form_w K, ref05_Form_enc⟩
theorem ref05_Form_ok (K : Nat) : FnOk Go.Proofs.Try.prog 25 (ref05_Form_spec K) := fn_ok' hmix (env_ref05_Amount_ok K) (lenv := lenv0) (args := [.agg [.int .i64, .int .i64]]) (res := [.one (.bool)]) (G := ref05_Form_w K) (enc := ref05_Form_enc) Go.Proofs.Try.func25 (lps_fn (l := []) (by kernel_rfl) trivial) (dec := ref05_Form_dec) (fun u r h => by unfold ref05_Form_dec at h; split at h; (obtain rfl := Option.some.inj h; rfl); cases h) (fun us r h => by unfold ref05_Form_w at h; split at h; exact ((den2_eq _).symm.trans (ref05_Form_eq K _ _)).trans h; cases h)
def env_ref05_Form (K : Nat) : FuncId → Option Vm.Spec := addS (env_ref05_Amount K) 25 (ref05_Form_spec K)
theorem env_ref05_Form_ok (K : Nat) : EnvOk Go.Proofs.Try.prog (env_ref05_Form K) := addS_ok (env_ref05_Amount_ok K) (.inl ⟨callable Go.Proofs.Try.func25 (by kernel_rfl) (by kernel_rfl), ref05_Form_ok K⟩)
-- passbook/passbookref05.DocTwo
def ref05_DocTwo_dec : List U → Option (Int × Int × Int) := fun u => match u with | [.i x0_0, .i x0_1, .i x1] => some (x0_0, x0_1, x1) | _ => none
def ref05_DocTwo_enc : (Int × Int × Int) → List U := fun r => [.i r.1, .i r.2.1, .i r.2.2]
def ref05_DocTwo (K : Nat) (x0_0 : Int) (x0_1 : Int) (x1_0 : Int) (x1_1 : Int) (x2 : Int) : Option (Int × Int × Int) := ((ref05_Form K x0_0 x0_1).bind fun r0 => (bi (!r0)
    (some ((0, 0, 3)))
    ((ref05_Form K x1_0 x1_1).bind fun r1 => (bi (!r1)
    (some ((0, 0, 3)))
    (bi (x0_0 != x1_0)
    (some ((0, 0, 10)))
    ((ref05_Amount K (Go.IntKind.i64.wrap (x0_1 + Go.IntKind.i64.wrap (x2 * x1_1)))).bind fun r2 => (bi (!r2)
    (some ((0, 0, 4)))
    (some ((x0_0, Go.IntKind.i64.wrap (x0_1 + Go.IntKind.i64.wrap (x2 * x1_1)), 0))))))))))
theorem ref05_DocTwo_eq (K : Nat) (x0_0 : Int) (x0_1 : Int) (x1_0 : Int) (x1_1 : Int) (x2 : Int) : (runF Go.Proofs.Try.prog (env_ref05_Form K) (lenv0) Go.Proofs.Try.f20 [.agg [.int .i64, .int .i64], .agg [.int .i64, .int .i64], .one (.int .i64)] [.agg [.int .i64, .int .i64], .one (.int .i64)] ref05_DocTwo_dec [.i x0_0, .i x0_1, .i x1_0, .i x1_1, .i x2]).den2 = ref05_DocTwo K x0_0 x0_1 x1_0 x1_1 x2 := by kernel_rfl
def ref05_DocTwo_w (K : Nat) : List U → Option (Int × Int × Int) := fun us => match us with | [.i x0_0, .i x0_1, .i x1_0, .i x1_1, .i x2] => ref05_DocTwo K x0_0 x0_1 x1_0 x1_1 x2 | _ => none
def ref05_DocTwo_spec (K : Nat) : Vm.Spec := ⟨[.agg [.int .i64, .int .i64], .agg [.int .i64, .int .i64], .one (.int .i64)], [.agg [.int .i64, .int .i64], .one (.int .i64)], Int × Int × Int, ref05_DocTwo_w K, ref05_DocTwo_enc⟩
theorem ref05_DocTwo_ok (K : Nat) : FnOk Go.Proofs.Try.prog 20 (ref05_DocTwo_spec K) := fn_ok' hmix (env_ref05_Form_ok K) (lenv := lenv0) (args := [.agg [.int .i64, .int .i64], .agg [.int .i64, .int .i64], .one (.int .i64)]) (res := [.agg [.int .i64, .int .i64], .one (.int .i64)]) (G := ref05_DocTwo_w K) (enc := ref05_DocTwo_enc) Go.Proofs.Try.func20 (lps_fn (l := []) (by kernel_rfl) trivial) (dec := ref05_DocTwo_dec) (fun u r h => by unfold ref05_DocTwo_dec at h; split at h; (obtain rfl := Option.some.inj h; rfl); cases h) (fun us r h => by unfold ref05_DocTwo_w at h; split at h; exact ((den2_eq _).symm.trans (ref05_DocTwo_eq K _ _ _ _ _)).trans h; cases h)
def env_ref05_DocTwo (K : Nat) : FuncId → Option Vm.Spec := addS (env_ref05_Form K) 20 (ref05_DocTwo_spec K)
theorem env_ref05_DocTwo_ok (K : Nat) : EnvOk Go.Proofs.Try.prog (env_ref05_DocTwo K) := addS_ok (env_ref05_Form_ok K) (.inl ⟨callable Go.Proofs.Try.func20 (by kernel_rfl) (by kernel_rfl), ref05_DocTwo_ok K⟩)
-- passbook/passbookref05.DocCmp
def ref05_DocCmp_dec : List U → Option (Int × Int) := fun u => match u with | [.i x0, .i x1] => some (x0, x1) | _ => none
def ref05_DocCmp_enc : (Int × Int) → List U := fun r => [.i r.1, .i r.2]
def ref05_DocCmp (K : Nat) (x0_0 : Int) (x0_1 : Int) (x1_0 : Int) (x1_1 : Int) : Option (Int × Int) := ((ref05_Form K x0_0 x0_1).bind fun r0 => (bi (!r0)
    (some ((0, 3)))
    ((ref05_Form K x1_0 x1_1).bind fun r1 => (bi (!r1)
    (some ((0, 3)))
    (bi (x0_0 != x1_0)
    (some ((0, 10)))
    (bi (Decidable.decide (x0_1 < x1_1))
    (some ((-1, 0)))
    (bi (Decidable.decide (x0_1 > x1_1))
    (some ((1, 0)))
    (some ((0, 0))))))))))
theorem ref05_DocCmp_eq (K : Nat) (x0_0 : Int) (x0_1 : Int) (x1_0 : Int) (x1_1 : Int) : (runF Go.Proofs.Try.prog (env_ref05_DocTwo K) (lenv0) Go.Proofs.Try.f21 [.agg [.int .i64, .int .i64], .agg [.int .i64, .int .i64]] [.one (.int .i64), .one (.int .i64)] ref05_DocCmp_dec [.i x0_0, .i x0_1, .i x1_0, .i x1_1]).den2 = ref05_DocCmp K x0_0 x0_1 x1_0 x1_1 := by kernel_rfl
def ref05_DocCmp_w (K : Nat) : List U → Option (Int × Int) := fun us => match us with | [.i x0_0, .i x0_1, .i x1_0, .i x1_1] => ref05_DocCmp K x0_0 x0_1 x1_0 x1_1 | _ => none
def ref05_DocCmp_spec (K : Nat) : Vm.Spec := ⟨[.agg [.int .i64, .int .i64], .agg [.int .i64, .int .i64]], [.one (.int .i64), .one (.int .i64)], Int × Int, ref05_DocCmp_w K, ref05_DocCmp_enc⟩
theorem ref05_DocCmp_ok (K : Nat) : FnOk Go.Proofs.Try.prog 21 (ref05_DocCmp_spec K) := fn_ok' hmix (env_ref05_DocTwo_ok K) (lenv := lenv0) (args := [.agg [.int .i64, .int .i64], .agg [.int .i64, .int .i64]]) (res := [.one (.int .i64), .one (.int .i64)]) (G := ref05_DocCmp_w K) (enc := ref05_DocCmp_enc) Go.Proofs.Try.func21 (lps_fn (l := []) (by kernel_rfl) trivial) (dec := ref05_DocCmp_dec) (fun u r h => by unfold ref05_DocCmp_dec at h; split at h; (obtain rfl := Option.some.inj h; rfl); cases h) (fun us r h => by unfold ref05_DocCmp_w at h; split at h; exact ((den2_eq _).symm.trans (ref05_DocCmp_eq K _ _ _ _)).trans h; cases h)
def env_ref05_DocCmp (K : Nat) : FuncId → Option Vm.Spec := addS (env_ref05_DocTwo K) 21 (ref05_DocCmp_spec K)
theorem env_ref05_DocCmp_ok (K : Nat) : EnvOk Go.Proofs.Try.prog (env_ref05_DocCmp K) := addS_ok (env_ref05_DocTwo_ok K) (.inl ⟨callable Go.Proofs.Try.func21 (by kernel_rfl) (by kernel_rfl), ref05_DocCmp_ok K⟩)
-- passbook/passbookref05.DocOf
def ref05_DocOf_dec : List U → Option (Int × Int × Int) := fun u => match u with | [.i x0_0, .i x0_1, .i x1] => some (x0_0, x0_1, x1) | _ => none
def ref05_DocOf_enc : (Int × Int × Int) → List U := fun r => [.i r.1, .i r.2.1, .i r.2.2]
def ref05_DocOf (K : Nat) (x0_0 : Int) (x0_1 : Int) (x0_2 : Int) (x1 : Int) (x2 : Int) : Option (Int × Int × Int) := ((ref05_Cur K x1).bind fun r0 => (bi (!r0)
    (some ((0, 0, 1)))
    (bi (Decidable.decide (x2 < 0))
    (some ((0, 0, 1)))
    (bi (Decidable.decide (x2 > 6))
    (some ((0, 0, 1)))
    ((ref01_Form K x0_0 x0_1 x0_2).bind fun r1 => (bi (!r1)
    (some ((0, 0, 3)))
    ((ref01_Coef K x0_0 x0_1 x0_2).bind fun r2 => ((ref05_Digits K x1).bind fun r3 => ((ref01_Ten K r3).bind fun r4 => ((ref01_Product K r2.fst r2.snd Bool.false r4).bind fun r5 => ((ref01_Ten K x0_2).bind fun r6 => ((ref01_Rounded K r5.fst r5.snd r6 x2).bind fun r7 => ((ref01_Small K r7.fst r7.snd).bind fun r8 => (bi (!r8.snd)
    (some ((0, 0, 4)))
    ((ref05_Amount K r8.fst).bind fun r9 => (bi (!r9)
    (some ((0, 0, 4)))
    (some ((x1, r8.fst, 0)))))))))))))))))))
theorem ref05_DocOf_eq (K : Nat) (x0_0 : Int) (x0_1 : Int) (x0_2 : Int) (x1 : Int) (x2 : Int) : (runF Go.Proofs.Try.prog (env_ref05_DocCmp K) (lenv0) Go.Proofs.Try.f27 [.agg [.int .i64, .int .u64, .int .i64], .one (.int .i64), .one (.int .i64)] [.agg [.int .i64, .int .i64], .one (.int .i64)] ref05_DocOf_dec [.i x0_0, .i x0_1, .i x0_2, .i x1, .i x2]).den2 = ref05_DocOf K x0_0 x0_1 x0_2 x1 x2 := by kernel_rfl
def ref05_DocOf_w (K : Nat) : List U → Option (Int × Int × Int) := fun us => match us with | [.i x0_0, .i x0_1, .i x0_2, .i x1, .i x2] => ref05_DocOf K x0_0 x0_1 x0_2 x1 x2 | _ => none
def ref05_DocOf_spec (K : Nat) : Vm.Spec := ⟨[.agg [.int .i64, .int .u64, .int .i64], .one (.int .i64), .one (.int .i64)], [.agg [.int .i64, .int .i64], .one (.int .i64)], Int × Int × Int, ref05_DocOf_w K, ref05_DocOf_enc⟩
theorem ref05_DocOf_ok (K : Nat) : FnOk Go.Proofs.Try.prog 27 (ref05_DocOf_spec K) := fn_ok' hmix (env_ref05_DocCmp_ok K) (lenv := lenv0) (args := [.agg [.int .i64, .int .u64, .int .i64], .one (.int .i64), .one (.int .i64)]) (res := [.agg [.int .i64, .int .i64], .one (.int .i64)]) (G := ref05_DocOf_w K) (enc := ref05_DocOf_enc) Go.Proofs.Try.func27 (lps_fn (l := []) (by kernel_rfl) trivial) (dec := ref05_DocOf_dec) (fun u r h => by unfold ref05_DocOf_dec at h; split at h; (obtain rfl := Option.some.inj h; rfl); cases h) (fun us r h => by unfold ref05_DocOf_w at h; split at h; exact ((den2_eq _).symm.trans (ref05_DocOf_eq K _ _ _ _ _)).trans h; cases h)
def env_ref05_DocOf (K : Nat) : FuncId → Option Vm.Spec := addS (env_ref05_DocCmp K) 27 (ref05_DocOf_spec K)
theorem env_ref05_DocOf_ok (K : Nat) : EnvOk Go.Proofs.Try.prog (env_ref05_DocOf K) := addS_ok (env_ref05_DocCmp_ok K) (.inl ⟨callable Go.Proofs.Try.func27 (by kernel_rfl) (by kernel_rfl), ref05_DocOf_ok K⟩)
-- passbook/passbookref05.DocTo
def ref05_DocTo_dec : List U → Option (Int × Int × Int × Int) := fun u => match u with | [.i x0_0, .i x0_1, .i x0_2, .i x1] => some (x0_0, x0_1, x0_2, x1) | _ => none
def ref05_DocTo_enc : (Int × Int × Int × Int) → List U := fun r => [.i r.1, .i r.2.1, .i r.2.2.1, .i r.2.2.2]
def ref05_DocTo (K : Nat) (x0_0 : Int) (x0_1 : Int) : Option (Int × Int × Int × Int) := ((ref05_Form K x0_0 x0_1).bind fun r0 => (bi (!r0)
    (some ((0, 0, 0, 3)))
    ((ref01_Made K x0_1).bind fun r1 => ((ref05_Digits K x0_0).bind fun r2 => ((ref01_Dec K r1.fst r1.snd r2).bind fun r3 => (some ((r3.fst, r3.snd.fst, r3.snd.snd.fst, r3.snd.snd.snd))))))))
theorem ref05_DocTo_eq (K : Nat) (x0_0 : Int) (x0_1 : Int) : (runF Go.Proofs.Try.prog (env_ref05_DocOf K) (lenv0) Go.Proofs.Try.f29 [.agg [.int .i64, .int .i64]] [.agg [.int .i64, .int .u64, .int .i64], .one (.int .i64)] ref05_DocTo_dec [.i x0_0, .i x0_1]).den2 = ref05_DocTo K x0_0 x0_1 := by kernel_rfl
def ref05_DocTo_w (K : Nat) : List U → Option (Int × Int × Int × Int) := fun us => match us with | [.i x0_0, .i x0_1] => ref05_DocTo K x0_0 x0_1 | _ => none
def ref05_DocTo_spec (K : Nat) : Vm.Spec := ⟨[.agg [.int .i64, .int .i64]], [.agg [.int .i64, .int .u64, .int .i64], .one (.int .i64)], Int × Int × Int × Int, ref05_DocTo_w K, ref05_DocTo_enc⟩
theorem ref05_DocTo_ok (K : Nat) : FnOk Go.Proofs.Try.prog 29 (ref05_DocTo_spec K) := fn_ok' hmix (env_ref05_DocOf_ok K) (lenv := lenv0) (args := [.agg [.int .i64, .int .i64]]) (res := [.agg [.int .i64, .int .u64, .int .i64], .one (.int .i64)]) (G := ref05_DocTo_w K) (enc := ref05_DocTo_enc) Go.Proofs.Try.func29 (lps_fn (l := []) (by kernel_rfl) trivial) (dec := ref05_DocTo_dec) (fun u r h => by unfold ref05_DocTo_dec at h; split at h; (obtain rfl := Option.some.inj h; rfl); cases h) (fun us r h => by unfold ref05_DocTo_w at h; split at h; exact ((den2_eq _).symm.trans (ref05_DocTo_eq K _ _)).trans h; cases h)
def env_ref05_DocTo (K : Nat) : FuncId → Option Vm.Spec := addS (env_ref05_DocOf K) 29 (ref05_DocTo_spec K)
theorem env_ref05_DocTo_ok (K : Nat) : EnvOk Go.Proofs.Try.prog (env_ref05_DocTo K) := addS_ok (env_ref05_DocOf_ok K) (.inl ⟨callable Go.Proofs.Try.func29 (by kernel_rfl) (by kernel_rfl), ref05_DocTo_ok K⟩)
-- passbook/passbooklaw05.awake
def law05_awake_dec : List U → Option (Bool) := fun u => match u with | [.b c0] => some (c0) | _ => none
def law05_awake_enc : (Bool) → List U := fun r => [.b r]
def law05_awake (K : Nat)  : Option (Bool) := ((money_Split K 0 100 [1, 1, 1]).bind fun r0 => ((money_Write K 2 12).bind fun r1 => (bi (r0.snd == 0)
    (bi ((↑r0.fst.length : Int) == 3)
    (bi (Bool.true && Decidable.decide (0 < (↑r0.fst.length : Int)))
    (bi (nth 0 (nth [] r0.fst 0) 1 == 34)
    (bi (Bool.true && Decidable.decide (1 < (↑r0.fst.length : Int)))
    (bi (nth 0 (nth [] r0.fst 1) 1 == 33)
    (bi (r1.snd == 0)
    (some (sEq r1.fst { data := #[74, 80, 89, 32, 49, 50] }))
    (some Bool.false))
    (some Bool.false))
    none)
    (some Bool.false))
    none)
    (some Bool.false))
    (some Bool.false))))
theorem law05_awake_eq (K : Nat)  : (runF Go.Proofs.Try.prog (env_ref05_DocTo K) (lenv0) Go.Proofs.Try.f9 [] [.one (.bool)] law05_awake_dec []).den2 = law05_awake K  := by kernel_rfl
def law05_awake_w (K : Nat) : List U → Option (Bool) := fun us => match us with | [] => law05_awake K  | _ => none
def law05_awake_spec (K : Nat) : Vm.Spec := ⟨[], [.one (.bool)], Bool, law05_awake_w K, law05_awake_enc⟩
theorem law05_awake_ok (K : Nat) : FnOk Go.Proofs.Try.prog 9 (law05_awake_spec K) := fn_ok' hmix (env_ref05_DocTo_ok K) (lenv := lenv0) (args := []) (res := [.one (.bool)]) (G := law05_awake_w K) (enc := law05_awake_enc) Go.Proofs.Try.func9 (lps_fn (l := []) (by kernel_rfl) trivial) (dec := law05_awake_dec) (fun u r h => by unfold law05_awake_dec at h; split at h; (obtain rfl := Option.some.inj h; rfl); cases h) (fun us r h => by unfold law05_awake_w at h; split at h; exact ((den2_eq _).symm.trans (law05_awake_eq K)).trans h; cases h)
def env_law05_awake (K : Nat) : FuncId → Option Vm.Spec := addS (env_ref05_DocTo K) 9 (law05_awake_spec K)
theorem env_law05_awake_ok (K : Nat) : EnvOk Go.Proofs.Try.prog (env_law05_awake K) := addS_ok (env_ref05_DocTo_ok K) (.inl ⟨callable Go.Proofs.Try.func9 (by kernel_rfl) (by kernel_rfl), law05_awake_ok K⟩)
-- passbook/passbooklaw05.MoneyOrder
def law05_MoneyOrder_dec : List U → Option (Bool) := fun u => match u with | [.b c0] => some (c0) | _ => none
def law05_MoneyOrder_enc : (Bool) → List U := fun r => [.b r]
def law05_MoneyOrder (K : Nat) (x0 : Int) (x1 : Int) (x2 : Int) (x3 : Int) : Option (Bool) := ((law05_awake K).bind fun r0 => (bi (!r0)
    (some Bool.false)
    ((money_Add K (Go.IntKind.i64.wrap (x3.tmod 4)) (x0.tmod 5000000000000)
  (Go.IntKind.i64.wrap (x3.tmod 4)) (x2.tmod 5000000000000)).bind fun r1 => ((money_Add K (Go.IntKind.i64.wrap (x3.tmod 4)) (x1.tmod 5000000000000)
  (Go.IntKind.i64.wrap (x3.tmod 4)) (x2.tmod 5000000000000)).bind fun r2 => ((money_Sub K r1.fst r1.snd.fst (Go.IntKind.i64.wrap (x3.tmod 4)) (x2.tmod 5000000000000)).bind fun r3 => ((money_Cmp K (Go.IntKind.i64.wrap (x3.tmod 4)) (x0.tmod 5000000000000)
  (Go.IntKind.i64.wrap (x3.tmod 4)) (x1.tmod 5000000000000)).bind fun r4 => ((money_Cmp K r1.fst r1.snd.fst r2.fst r2.snd.fst).bind fun r5 => (bi (r1.snd.snd == 0)
    (bi (r2.snd.snd == 0)
    (bi (r3.snd.snd == 0)
    (bi (r4.snd == 0)
    (bi (r5.snd == 0)
    (bi (r3.fst == Go.IntKind.i64.wrap (x3.tmod 4) && (r3.snd.fst == x0.tmod 5000000000000 && Bool.true))
    (bi (r4.fst == r5.fst)
    (some ((r4.fst == 0) ==
  (Go.IntKind.i64.wrap (x3.tmod 4) == Go.IntKind.i64.wrap (x3.tmod 4) &&
    (x0.tmod 5000000000000 == x1.tmod 5000000000000 && Bool.true))))
    (some Bool.false))
    (some Bool.false))
    (some Bool.false))
    (some Bool.false))
    (some Bool.false))
    (some Bool.false))
    (some Bool.false)))))))))
theorem law05_MoneyOrder_eq (K : Nat) (x0 : Int) (x1 : Int) (x2 : Int) (x3 : Int) : (runF Go.Proofs.Try.prog (env_law05_awake K) (lenv0) Go.Proofs.Try.f6 [.one (.int .i64), .one (.int .i64), .one (.int .i64), .one (.int .u8)] [.one (.bool)] law05_MoneyOrder_dec [.i x0, .i x1, .i x2, .i x3]).den2 = law05_MoneyOrder K x0 x1 x2 x3 := by kernel_rfl
def law05_MoneyOrder_w (K : Nat) : List U → Option (Bool) := fun us => match us with | [.i x0, .i x1, .i x2, .i x3] => law05_MoneyOrder K x0 x1 x2 x3 | _ => none
def law05_MoneyOrder_spec (K : Nat) : Vm.Spec := ⟨[.one (.int .i64), .one (.int .i64), .one (.int .i64), .one (.int .u8)], [.one (.bool)], Bool, law05_MoneyOrder_w K, law05_MoneyOrder_enc⟩
theorem law05_MoneyOrder_ok (K : Nat) : FnOk Go.Proofs.Try.prog 6 (law05_MoneyOrder_spec K) := fn_ok' hmix (env_law05_awake_ok K) (lenv := lenv0) (args := [.one (.int .i64), .one (.int .i64), .one (.int .i64), .one (.int .u8)]) (res := [.one (.bool)]) (G := law05_MoneyOrder_w K) (enc := law05_MoneyOrder_enc) Go.Proofs.Try.func6 (lps_fn (l := []) (by kernel_rfl) trivial) (dec := law05_MoneyOrder_dec) (fun u r h => by unfold law05_MoneyOrder_dec at h; split at h; (obtain rfl := Option.some.inj h; rfl); cases h) (fun us r h => by unfold law05_MoneyOrder_w at h; split at h; exact ((den2_eq _).symm.trans (law05_MoneyOrder_eq K _ _ _ _)).trans h; cases h)
def env_law05_MoneyOrder (K : Nat) : FuncId → Option Vm.Spec := addS (env_law05_awake K) 6 (law05_MoneyOrder_spec K)
theorem env_law05_MoneyOrder_ok (K : Nat) : EnvOk Go.Proofs.Try.prog (env_law05_MoneyOrder K) := addS_ok (env_law05_awake_ok K) (.inl ⟨callable Go.Proofs.Try.func6 (by kernel_rfl) (by kernel_rfl), law05_MoneyOrder_ok K⟩)
-- passbook/passbooklaw05.MoneySums
def law05_MoneySums_dec : List U → Option (Bool) := fun u => match u with | [.b c0] => some (c0) | _ => none
def law05_MoneySums_enc : (Bool) → List U := fun r => [.b r]
def law05_MoneySums (K : Nat) (x0_0 : Int) (x0_1 : Int) (x1_0 : Int) (x1_1 : Int) : Option (Bool) := ((money_Add K x0_0 x0_1 x1_0 x1_1).bind fun r0 => ((ref05_DocTwo K x0_0 x0_1 x1_0 x1_1 1).bind fun r1 => ((money_Sub K x0_0 x0_1 x1_0 x1_1).bind fun r2 => ((ref05_DocTwo K x0_0 x0_1 x1_0 x1_1 (-1)).bind fun r3 => ((money_Cmp K x0_0 x0_1 x1_0 x1_1).bind fun r4 => ((ref05_DocCmp K x0_0 x0_1 x1_0 x1_1).bind fun r5 => ((money_Digits K x0_0).bind fun r6 => ((ref05_DocDigits K x0_0).bind fun r7 => ((law05_awake K).bind fun r8 => (bi (r8)
    (bi (r0.fst == r1.fst && (r0.snd.fst == r1.snd.fst && Bool.true))
    (bi (r0.snd.snd == r1.snd.snd)
    (bi (r2.fst == r3.fst && (r2.snd.fst == r3.snd.fst && Bool.true))
    (bi (r2.snd.snd == r3.snd.snd)
    (bi (r4.fst == r5.fst)
    (bi (r4.snd == r5.snd)
    (bi (r6.fst == r7.fst)
    (bi (r6.snd == r7.snd)
    ((money_Check K x0_0 x0_1).bind fun r9 => ((ref05_Form K x0_0 x0_1).bind fun r10 => (bi ((r9 == 0) == r10)
    ((ref05_Form K x0_0 x0_1).bind fun r11 => (bi (r11)
    (some Bool.true)
    ((money_Check K x0_0 x0_1).bind fun r12 => (some (r12 == 3)))))
    (some Bool.false))))
    (some Bool.false))
    (some Bool.false))
    (some Bool.false))
    (some Bool.false))
    (some Bool.false))
    (some Bool.false))
    (some Bool.false))
    (some Bool.false))
    (some Bool.false)))))))))))
theorem law05_MoneySums_eq (K : Nat) (x0_0 : Int) (x0_1 : Int) (x1_0 : Int) (x1_1 : Int) : (runF Go.Proofs.Try.prog (env_law05_MoneyOrder K) (lenv0) Go.Proofs.Try.f7 [.agg [.int .i64, .int .i64], .agg [.int .i64, .int .i64]] [.one (.bool)] law05_MoneySums_dec [.i x0_0, .i x0_1, .i x1_0, .i x1_1]).den2 = law05_MoneySums K x0_0 x0_1 x1_0 x1_1 := by kernel_rfl
def law05_MoneySums_w (K : Nat) : List U → Option (Bool) := fun us => match us with | [.i x0_0, .i x0_1, .i x1_0, .i x1_1] => law05_MoneySums K x0_0 x0_1 x1_0 x1_1 | _ => none
def law05_MoneySums_spec (K : Nat) : Vm.Spec := ⟨[.agg [.int .i64, .int .i64], .agg [.int .i64, .int .i64]], [.one (.bool)], Bool, law05_MoneySums_w K, law05_MoneySums_enc⟩
theorem law05_MoneySums_ok (K : Nat) : FnOk Go.Proofs.Try.prog 7 (law05_MoneySums_spec K) := fn_ok' hmix (env_law05_MoneyOrder_ok K) (lenv := lenv0) (args := [.agg [.int .i64, .int .i64], .agg [.int .i64, .int .i64]]) (res := [.one (.bool)]) (G := law05_MoneySums_w K) (enc := law05_MoneySums_enc) Go.Proofs.Try.func7 (lps_fn (l := []) (by kernel_rfl) trivial) (dec := law05_MoneySums_dec) (fun u r h => by unfold law05_MoneySums_dec at h; split at h; (obtain rfl := Option.some.inj h; rfl); cases h) (fun us r h => by unfold law05_MoneySums_w at h; split at h; exact ((den2_eq _).symm.trans (law05_MoneySums_eq K _ _ _ _)).trans h; cases h)
def env_law05_MoneySums (K : Nat) : FuncId → Option Vm.Spec := addS (env_law05_MoneyOrder K) 7 (law05_MoneySums_spec K)
theorem env_law05_MoneySums_ok (K : Nat) : EnvOk Go.Proofs.Try.prog (env_law05_MoneySums K) := addS_ok (env_law05_MoneyOrder_ok K) (.inl ⟨callable Go.Proofs.Try.func7 (by kernel_rfl) (by kernel_rfl), law05_MoneySums_ok K⟩)
-- passbook/passbooklaw05.MoneyDecimals
def law05_MoneyDecimals_l10_pre : Vm.Pat := ⟨87, [(68, .pv (.one (.int .i64))), (7, .box 0 0), (13, .box 1 0)], [.cells [.int .i64, .int .i64], .cells [.int .i64, .int .u64, .int .i64]], []⟩
def law05_MoneyDecimals_l10_post0 : Vm.Pat := ⟨87, [], [], []⟩
def law05_MoneyDecimals_l10_enc0 : Unit → List U := fun _ => []
def law05_MoneyDecimals_l10_dec0 : List U → Option (Unit) := fun u => match u with | [] => some () | _ => none
def law05_MoneyDecimals_l10_post1 : Vm.Pat := ⟨87, [(8, .pv (.one (.bool)))], [], []⟩
def law05_MoneyDecimals_l10_enc1 : Bool → List U := fun r => [.b r]
def law05_MoneyDecimals_l10_dec1 : List U → Option (Bool) := fun u => match u with | [.b c8] => some (c8) | _ => none
def law05_MoneyDecimals_l10 (K : Nat) : Nat → Int → Int → Int → Int → Int → Int → Option ((Unit) ⊕ (Bool))
  | 0, _, _, _, _, _, _ => none
  | k + 1, x68, x7_0, x7_1, x13_0, x13_1, x13_2 => (bi (Decidable.decide (x68 < 7))
    ((money_Of K x13_0 x13_1 x13_2 x7_0 x68).bind fun r0 => (bi (r0.snd.snd != 0)
    (some (Sum.inr Bool.false))
    (bi (!(r0.fst == x7_0 && (r0.snd.fst == x7_1 && Bool.true)))
    (some (Sum.inr Bool.false))
    (law05_MoneyDecimals_l10 K k (Go.IntKind.i64.wrap (x68 + 1)) (x7_0) (x7_1) (x13_0) (x13_1) (x13_2)))))
    (some (Sum.inl ())))
def law05_MoneyDecimals_l10_w (K k : Nat) : List U → Option ((Unit) ⊕ (Bool)) := fun us => match us with | [.i x68, .i x7_0, .i x7_1, .i x13_0, .i x13_1, .i x13_2] => law05_MoneyDecimals_l10 K k x68 x7_0 x7_1 x13_0 x13_1 x13_2 | _ => none
theorem law05_MoneyDecimals_l10_eq (K k : Nat) (x68 : Int) (x7_0 : Int) (x7_1 : Int) (x13_0 : Int) (x13_1 : Int) (x13_2 : Int) : (round2 Go.Proofs.Try.prog (env_law05_MoneySums K) (lenv0) (lp (bodyOf Go.Proofs.Try.f8) 0) law05_MoneyDecimals_l10_pre (.exit 0) law05_MoneyDecimals_l10_post0 .ret law05_MoneyDecimals_l10_post1 law05_MoneyDecimals_l10_dec0 law05_MoneyDecimals_l10_dec1 (law05_MoneyDecimals_l10_w K k) [.i x68, .i x7_0, .i x7_1, .i x13_0, .i x13_1, .i x13_2]).den2 = law05_MoneyDecimals_l10 K (k + 1) x68 x7_0 x7_1 x13_0 x13_1 x13_2 := by kernel_rfl
def law05_MoneyDecimals_l10_s (K : Nat) : Vm.LS := .two law05_MoneyDecimals_l10_pre _ _ (.exit 0) law05_MoneyDecimals_l10_post0 .ret law05_MoneyDecimals_l10_post1 (law05_MoneyDecimals_l10_w K K) law05_MoneyDecimals_l10_enc0 law05_MoneyDecimals_l10_enc1
theorem law05_MoneyDecimals_l10_ok (K : Nat) : LoopOk Go.Proofs.Try.prog (lp (bodyOf Go.Proofs.Try.f8) 0) (law05_MoneyDecimals_l10_s K) := loop_two hmix (env_law05_MoneySums_ok K) (lenv := lenv0) (L := law05_MoneyDecimals_l10_w K) (enc := law05_MoneyDecimals_l10_enc0) (dec := law05_MoneyDecimals_l10_dec0) (enc' := law05_MoneyDecimals_l10_enc1) (dec' := law05_MoneyDecimals_l10_dec1) (lps_ok (l := []) (by kernel_rfl) trivial) (fun u r h => by unfold law05_MoneyDecimals_l10_dec0 at h; split at h; (obtain rfl := Option.some.inj h; rfl); cases h) (fun u r h => by unfold law05_MoneyDecimals_l10_dec1 at h; split at h; (obtain rfl := Option.some.inj h; rfl); cases h) (fun us => by unfold law05_MoneyDecimals_l10_w; split <;> first | rfl | (simp only [law05_MoneyDecimals_l10])) (fun k us r h => by unfold law05_MoneyDecimals_l10_w at h; split at h; exact ((den2_eq _).symm.trans (law05_MoneyDecimals_l10_eq K k _ _ _ _ _ _)).trans h; cases h) K
def law05_MoneyDecimals_v10 (K : Nat) : Nat → Option Vm.LS := addL (lenv0) 10 (law05_MoneyDecimals_l10_s K)
def law05_MoneyDecimals_dec : List U → Option (Bool) := fun u => match u with | [.b c0] => some (c0) | _ => none
def law05_MoneyDecimals_enc : (Bool) → List U := fun r => [.b r]
def law05_MoneyDecimals (K : Nat) (x0_0 : Int) (x0_1 : Int) (x0_2 : Int) (x1 : Int) (x2 : Int) (x3_0 : Int) (x3_1 : Int) : Option (Bool) := ((money_Of K x0_0 x0_1 x0_2 x1 x2).bind fun r0 => ((ref05_DocOf K x0_0 x0_1 x0_2 x1 x2).bind fun r1 => ((money_To K x3_0 x3_1).bind fun r2 => ((ref05_DocTo K x3_0 x3_1).bind fun r3 => ((law05_awake K).bind fun r4 => (bi (!r4)
    (some Bool.false)
    (bi (!(r0.fst == r1.fst && (r0.snd.fst == r1.snd.fst && Bool.true)))
    (some Bool.false)
    (bi (r0.snd.snd != r1.snd.snd)
    (some Bool.false)
    (bi (!(r2.fst == r3.fst && (r2.snd.fst == r3.snd.fst && (r2.snd.snd.fst == r3.snd.snd.fst && Bool.true))))
    (some Bool.false)
    (bi (r2.snd.snd.snd != r3.snd.snd.snd)
    (some Bool.false)
    (bi (r2.snd.snd.snd != 0)
    (some Bool.true)
    (casO (law05_MoneyDecimals_l10 K K 0 x3_0 x3_1 r2.fst r2.snd.fst r2.snd.snd.fst) (fun r5 => (some Bool.true)) (fun r6 => (some r6))))))))))))))
theorem law05_MoneyDecimals_eq (K : Nat) (x0_0 : Int) (x0_1 : Int) (x0_2 : Int) (x1 : Int) (x2 : Int) (x3_0 : Int) (x3_1 : Int) : (runF Go.Proofs.Try.prog (env_law05_MoneySums K) (law05_MoneyDecimals_v10 K) Go.Proofs.Try.f8 [.agg [.int .i64, .int .u64, .int .i64], .one (.int .i64), .one (.int .i64), .agg [.int .i64, .int .i64]] [.one (.bool)] law05_MoneyDecimals_dec [.i x0_0, .i x0_1, .i x0_2, .i x1, .i x2, .i x3_0, .i x3_1]).den2 = law05_MoneyDecimals K x0_0 x0_1 x0_2 x1 x2 x3_0 x3_1 := by kernel_rfl
def law05_MoneyDecimals_w (K : Nat) : List U → Option (Bool) := fun us => match us with | [.i x0_0, .i x0_1, .i x0_2, .i x1, .i x2, .i x3_0, .i x3_1] => law05_MoneyDecimals K x0_0 x0_1 x0_2 x1 x2 x3_0 x3_1 | _ => none
def law05_MoneyDecimals_spec (K : Nat) : Vm.Spec := ⟨[.agg [.int .i64, .int .u64, .int .i64], .one (.int .i64), .one (.int .i64), .agg [.int .i64, .int .i64]], [.one (.bool)], Bool, law05_MoneyDecimals_w K, law05_MoneyDecimals_enc⟩
theorem law05_MoneyDecimals_ok (K : Nat) : FnOk Go.Proofs.Try.prog 8 (law05_MoneyDecimals_spec K) := fn_ok' hmix (env_law05_MoneySums_ok K) (lenv := law05_MoneyDecimals_v10 K) (args := [.agg [.int .i64, .int .u64, .int .i64], .one (.int .i64), .one (.int .i64), .agg [.int .i64, .int .i64]]) (res := [.one (.bool)]) (G := law05_MoneyDecimals_w K) (enc := law05_MoneyDecimals_enc) Go.Proofs.Try.func8 (lps_fn (l := [lp (bodyOf Go.Proofs.Try.f8) 0]) (by kernel_rfl) ⟨⟨10, law05_MoneyDecimals_l10_s K, by kernel_rfl, by kernel_rfl, law05_MoneyDecimals_l10_ok K⟩, trivial⟩) (dec := law05_MoneyDecimals_dec) (fun u r h => by unfold law05_MoneyDecimals_dec at h; split at h; (obtain rfl := Option.some.inj h; rfl); cases h) (fun us r h => by unfold law05_MoneyDecimals_w at h; split at h; exact ((den2_eq _).symm.trans (law05_MoneyDecimals_eq K _ _ _ _ _ _ _)).trans h; cases h)
def env_law05_MoneyDecimals (K : Nat) : FuncId → Option Vm.Spec := addS (env_law05_MoneySums K) 8 (law05_MoneyDecimals_spec K)
theorem env_law05_MoneyDecimals_ok (K : Nat) : EnvOk Go.Proofs.Try.prog (env_law05_MoneyDecimals K) := addS_ok (env_law05_MoneySums_ok K) (.inl ⟨callable Go.Proofs.Try.func8 (by kernel_rfl) (by kernel_rfl), law05_MoneyDecimals_ok K⟩)
end Go.Proofs.Ytfeifhlnidkbbaa.F
