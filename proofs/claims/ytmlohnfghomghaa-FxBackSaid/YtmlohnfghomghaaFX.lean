import Derived.Test.YtmlohnfghomghaaVmY
import Derived.Test.YtmlohnfghomghaaProg
import Derived.Test.YtmlohnfghomghaaFB
namespace Go.Proofs.Ytmlohnfghomghaa.F
open Go Go.Proofs.Ytmlohnfghomghaa.Vm
set_option maxRecDepth 100000
set_option linter.unusedVariables false
-- passbook/money.name
def money_name_dec : List U → Option (ByteArray) := fun u => match u with | [.s s0] => some (s0) | _ => none
def money_name (K : Nat) (x0 : Int) : Option (ByteArray) := (if (x0 == 0) = true then
    (some ({ data := #[69, 85, 82] }))
    else (if (x0 == 1) = true then
    (some ({ data := #[85, 83, 68] }))
    else (if (x0 == 2) = true then
    (some ({ data := #[74, 80, 89] }))
    else (if (x0 == 3) = true then
    (some ({ data := #[75, 87, 68] }))
    else (some ({ data := #[] }))))))
theorem money_name_eq (K : Nat) (x0 : Int) : (runF Go.Proofs.Try.prog (env_ref01_Rounded K) (lenv0) Go.Proofs.Try.f24 [.one (.int .i64)] [.one (.str)] money_name_dec [.i x0]).den = money_name K x0 := by kernel_rfl
def money_name_w (K : Nat) : List U → Option (ByteArray) := fun us => match us with | [.i x0] => money_name K x0 | _ => none
def money_name_enc : (ByteArray) → List U := fun r => [.s r]
def money_name_spec (K : Nat) : Vm.Spec := ⟨[.one (.int .i64)], [.one (.str)], ByteArray, money_name_w K, money_name_enc⟩
theorem money_name_ok (K : Nat) : FnOk Go.Proofs.Try.prog 24 (money_name_spec K) := fn_ok' hmix (env_ref01_Rounded_ok K) (lenv := lenv0) (args := [.one (.int .i64)]) (res := [.one (.str)]) (G := money_name_w K) (enc := money_name_enc) Go.Proofs.Try.func24 (lps_fn (l := []) (by kernel_rfl) trivial) (dec := money_name_dec) (fun u r h => by unfold money_name_dec at h; split at h; (obtain rfl := Option.some.inj h; rfl); cases h) (fun us r h => by unfold money_name_w at h; split at h; exact (money_name_eq K _).trans h; cases h)
def env_money_name (K : Nat) : FuncId → Option Vm.Spec := addS (env_ref01_Rounded K) 24 (money_name_spec K)
theorem env_money_name_ok (K : Nat) : EnvOk Go.Proofs.Try.prog (env_money_name K) := addS_ok (env_ref01_Rounded_ok K) (.inl ⟨callable Go.Proofs.Try.func24 (by kernel_rfl) (by kernel_rfl), money_name_ok K⟩)
-- passbook/money.figures
def money_figures_dec : List U → Option (Int) := fun u => match u with | [.i x0] => some (x0) | _ => none
def money_figures (K : Nat) (x0 : Int) : Option (Int) := (if (x0 == 2) = true then
    (some (0))
    else (if (x0 == 3) = true then
    (some (3))
    else (some (2))))
theorem money_figures_eq (K : Nat) (x0 : Int) : (runF Go.Proofs.Try.prog (env_money_name K) (lenv0) Go.Proofs.Try.f25 [.one (.int .i64)] [.one (.int .i64)] money_figures_dec [.i x0]).den = money_figures K x0 := by kernel_rfl
def money_figures_w (K : Nat) : List U → Option (Int) := fun us => match us with | [.i x0] => money_figures K x0 | _ => none
def money_figures_enc : (Int) → List U := fun r => [.i r]
def money_figures_spec (K : Nat) : Vm.Spec := ⟨[.one (.int .i64)], [.one (.int .i64)], Int, money_figures_w K, money_figures_enc⟩
theorem money_figures_ok (K : Nat) : FnOk Go.Proofs.Try.prog 25 (money_figures_spec K) := fn_ok' hmix (env_money_name_ok K) (lenv := lenv0) (args := [.one (.int .i64)]) (res := [.one (.int .i64)]) (G := money_figures_w K) (enc := money_figures_enc) Go.Proofs.Try.func25 (lps_fn (l := []) (by kernel_rfl) trivial) (dec := money_figures_dec) (fun u r h => by unfold money_figures_dec at h; split at h; (obtain rfl := Option.some.inj h; rfl); cases h) (fun us r h => by unfold money_figures_w at h; split at h; exact (money_figures_eq K _).trans h; cases h)
def env_money_figures (K : Nat) : FuncId → Option Vm.Spec := addS (env_money_name K) 25 (money_figures_spec K)
theorem env_money_figures_ok (K : Nat) : EnvOk Go.Proofs.Try.prog (env_money_figures K) := addS_ok (env_money_name_ok K) (.inl ⟨callable Go.Proofs.Try.func25 (by kernel_rfl) (by kernel_rfl), money_figures_ok K⟩)
-- passbook/money.Digits
def money_Digits_dec : List U → Option (Int × Int) := fun u => match u with | [.i x0, .i x1] => some (x0, x1) | _ => none
def money_Digits (K : Nat) (x0 : Int) : Option (Int × Int) := ((money_name K x0).bind fun r0 => (if (sEq r0 { data := #[] }) = true then
    (some ((0, 1)))
    else ((money_figures K x0).bind fun r1 => (some ((r1, 0))))))
theorem money_Digits_eq (K : Nat) (x0 : Int) : (runF Go.Proofs.Try.prog (env_money_figures K) (lenv0) Go.Proofs.Try.f12 [.one (.int .i64)] [.one (.int .i64), .one (.int .i64)] money_Digits_dec [.i x0]).den = money_Digits K x0 := by kernel_rfl
def money_Digits_w (K : Nat) : List U → Option (Int × Int) := fun us => match us with | [.i x0] => money_Digits K x0 | _ => none
def money_Digits_enc : (Int × Int) → List U := fun r => [.i r.1, .i r.2]
def money_Digits_spec (K : Nat) : Vm.Spec := ⟨[.one (.int .i64)], [.one (.int .i64), .one (.int .i64)], Int × Int, money_Digits_w K, money_Digits_enc⟩
theorem money_Digits_ok (K : Nat) : FnOk Go.Proofs.Try.prog 12 (money_Digits_spec K) := fn_ok' hmix (env_money_figures_ok K) (lenv := lenv0) (args := [.one (.int .i64)]) (res := [.one (.int .i64), .one (.int .i64)]) (G := money_Digits_w K) (enc := money_Digits_enc) Go.Proofs.Try.func12 (lps_fn (l := []) (by kernel_rfl) trivial) (dec := money_Digits_dec) (fun u r h => by unfold money_Digits_dec at h; split at h; (obtain rfl := Option.some.inj h; rfl); cases h) (fun us r h => by unfold money_Digits_w at h; split at h; exact (money_Digits_eq K _).trans h; cases h)
def env_money_Digits (K : Nat) : FuncId → Option Vm.Spec := addS (env_money_figures K) 12 (money_Digits_spec K)
theorem env_money_Digits_ok (K : Nat) : EnvOk Go.Proofs.Try.prog (env_money_Digits K) := addS_ok (env_money_figures_ok K) (.inl ⟨callable Go.Proofs.Try.func12 (by kernel_rfl) (by kernel_rfl), money_Digits_ok K⟩)
-- passbook/fx.is
def fx_is_dec : List U → Option (Bool) := fun u => match u with | [.b c0] => some (c0) | _ => none
def fx_is (K : Nat) (x0 : Int) : Option (Bool) := (if (Decidable.decide (x0 ≥ 1)) = true then
    (some (Decidable.decide (x0 ≤ 1000000000000)))
    else (some Bool.false))
theorem fx_is_eq (K : Nat) (x0 : Int) : (runF Go.Proofs.Try.prog (env_money_Digits K) (lenv0) Go.Proofs.Try.f13 [.one (.int .i64)] [.one (.bool)] fx_is_dec [.i x0]).den = fx_is K x0 := by kernel_rfl
def fx_is_w (K : Nat) : List U → Option (Bool) := fun us => match us with | [.i x0] => fx_is K x0 | _ => none
def fx_is_enc : (Bool) → List U := fun r => [.b r]
def fx_is_spec (K : Nat) : Vm.Spec := ⟨[.one (.int .i64)], [.one (.bool)], Bool, fx_is_w K, fx_is_enc⟩
theorem fx_is_ok (K : Nat) : FnOk Go.Proofs.Try.prog 13 (fx_is_spec K) := fn_ok' hmix (env_money_Digits_ok K) (lenv := lenv0) (args := [.one (.int .i64)]) (res := [.one (.bool)]) (G := fx_is_w K) (enc := fx_is_enc) Go.Proofs.Try.func13 (lps_fn (l := []) (by kernel_rfl) trivial) (dec := fx_is_dec) (fun u r h => by unfold fx_is_dec at h; split at h; (obtain rfl := Option.some.inj h; rfl); cases h) (fun us r h => by unfold fx_is_w at h; split at h; exact (fx_is_eq K _).trans h; cases h)
def env_fx_is (K : Nat) : FuncId → Option Vm.Spec := addS (env_money_Digits K) 13 (fx_is_spec K)
theorem env_fx_is_ok (K : Nat) : EnvOk Go.Proofs.Try.prog (env_fx_is K) := addS_ok (env_money_Digits_ok K) (.inl ⟨callable Go.Proofs.Try.func13 (by kernel_rfl) (by kernel_rfl), fx_is_ok K⟩)
-- passbook/fx.of
def fx_of_dec : List U → Option (Int × Int × Int) := fun u => match u with | [.i x0_0, .i x0_1, .i x0_2] => some (x0_0, x0_1, x0_2) | _ => none
def fx_of (K : Nat) (x0 : Int) (x1 : Int) : Option (Int × Int × Int) := ((dec_Of K x0 x1).bind fun r0 => (some ((r0.fst, r0.snd.fst, r0.snd.snd.fst))))
theorem fx_of_eq (K : Nat) (x0 : Int) (x1 : Int) : (runF Go.Proofs.Try.prog (env_fx_is K) (lenv0) Go.Proofs.Try.f15 [.one (.int .i64), .one (.int .i64)] [.agg [.int .i64, .int .u64, .int .i64]] fx_of_dec [.i x0, .i x1]).den = fx_of K x0 x1 := by kernel_rfl
def fx_of_w (K : Nat) : List U → Option (Int × Int × Int) := fun us => match us with | [.i x0, .i x1] => fx_of K x0 x1 | _ => none
def fx_of_enc : (Int × Int × Int) → List U := fun r => [.i r.1, .i r.2.1, .i r.2.2]
def fx_of_spec (K : Nat) : Vm.Spec := ⟨[.one (.int .i64), .one (.int .i64)], [.agg [.int .i64, .int .u64, .int .i64]], Int × Int × Int, fx_of_w K, fx_of_enc⟩
theorem fx_of_ok (K : Nat) : FnOk Go.Proofs.Try.prog 15 (fx_of_spec K) := fn_ok' hmix (env_fx_is_ok K) (lenv := lenv0) (args := [.one (.int .i64), .one (.int .i64)]) (res := [.agg [.int .i64, .int .u64, .int .i64]]) (G := fx_of_w K) (enc := fx_of_enc) Go.Proofs.Try.func15 (lps_fn (l := []) (by kernel_rfl) trivial) (dec := fx_of_dec) (fun u r h => by unfold fx_of_dec at h; split at h; (obtain rfl := Option.some.inj h; rfl); cases h) (fun us r h => by unfold fx_of_w at h; split at h; exact (fx_of_eq K _ _).trans h; cases h)
def env_fx_of (K : Nat) : FuncId → Option Vm.Spec := addS (env_fx_is K) 15 (fx_of_spec K)
theorem env_fx_of_ok (K : Nat) : EnvOk Go.Proofs.Try.prog (env_fx_of K) := addS_ok (env_fx_is_ok K) (.inl ⟨callable Go.Proofs.Try.func15 (by kernel_rfl) (by kernel_rfl), fx_of_ok K⟩)
-- passbook/fx.power
def fx_power_l3_pre : Vm.Pat := ⟨12, [(3, .pv (.one (.int .i64))), (4, .pv (.one (.int .i64))), (5, .pv (.one (.int .i64))), (2, .box 0 0)], [.cells [.int .i64, .int .u64, .int .i64]]⟩
def fx_power_l3_post0 : Vm.Pat := ⟨12, [(3, .pv (.one (.int .i64))), (2, .box 0 0)], [.cells [.int .i64, .int .u64, .int .i64]]⟩
def fx_power_l3_enc0 : Int × Int × Int × Int → List U := fun r => [.i r.1, .i r.2.1, .i r.2.2.1, .i r.2.2.2]
def fx_power_l3_dec0 : List U → Option (Int × Int × Int × Int) := fun u => match u with | [.i x3, .i x2_0, .i x2_1, .i x2_2] => some (x3, x2_0, x2_1, x2_2) | _ => none
def fx_power_l3 (K : Nat) : Nat → Int → Int → Int → Int → Int → Int → Option (Int × Int × Int × Int)
  | 0, _, _, _, _, _, _ => none
  | k + 1, x3, x4, x5, x2_0, x2_1, x2_2 => (if (Decidable.decide (x5 < x4)) = true then
    (fx_power_l3 K k (Go.IntKind.i64.wrap (x3 * 10)) (x4) (Go.IntKind.i64.wrap (x5 + 1)) (x2_0) (x2_1) (x2_2))
    else (some ((x3, x2_0, x2_1, x2_2))))
def fx_power_l3_w (K k : Nat) : List U → Option (Int × Int × Int × Int) := fun us => match us with | [.i x3, .i x4, .i x5, .i x2_0, .i x2_1, .i x2_2] => fx_power_l3 K k x3 x4 x5 x2_0 x2_1 x2_2 | _ => none
theorem fx_power_l3_eq (K k : Nat) (x3 : Int) (x4 : Int) (x5 : Int) (x2_0 : Int) (x2_1 : Int) (x2_2 : Int) : (round1 Go.Proofs.Try.prog (env_fx_of K) (lenv0) (lp (bodyOf Go.Proofs.Try.f16) 0) fx_power_l3_pre (.exit 0) fx_power_l3_post0 fx_power_l3_dec0 (fx_power_l3_w K k) [.i x3, .i x4, .i x5, .i x2_0, .i x2_1, .i x2_2]).den = fx_power_l3 K (k + 1) x3 x4 x5 x2_0 x2_1 x2_2 := by kernel_rfl
def fx_power_l3_s (K : Nat) : Vm.LS := .one fx_power_l3_pre _ (.exit 0) fx_power_l3_post0 (fx_power_l3_w K K) fx_power_l3_enc0
theorem fx_power_l3_ok (K : Nat) : LoopOk Go.Proofs.Try.prog (lp (bodyOf Go.Proofs.Try.f16) 0) (fx_power_l3_s K) := loop_one hmix (env_fx_of_ok K) (lenv := lenv0) (L := fx_power_l3_w K) (enc := fx_power_l3_enc0) (dec := fx_power_l3_dec0) (lps_ok (l := []) (by kernel_rfl) trivial) (fun u r h => by unfold fx_power_l3_dec0 at h; split at h; (obtain rfl := Option.some.inj h; rfl); cases h) (fun us => by unfold fx_power_l3_w; split <;> first | rfl | (simp only [fx_power_l3])) (fun k us r h => by unfold fx_power_l3_w at h; split at h; exact (fx_power_l3_eq K k _ _ _ _ _ _).trans h; cases h) K
def fx_power_v3 (K : Nat) : Nat → Option Vm.LS := addL (lenv0) 3 (fx_power_l3_s K)
def fx_power_dec : List U → Option (Int × Int × Int) := fun u => match u with | [.i x0_0, .i x0_1, .i x0_2] => some (x0_0, x0_1, x0_2) | _ => none
def fx_power (K : Nat) (x0 : Int) : Option (Int × Int × Int) := ((fx_power_l3 K K 1 x0 0 0 0 0).bind fun r0 => ((fx_of K r0.fst 0).bind fun r1 => (some ((r1.fst, r1.snd.fst, r1.snd.snd)))))
theorem fx_power_eq (K : Nat) (x0 : Int) : (runF Go.Proofs.Try.prog (env_fx_of K) (fx_power_v3 K) Go.Proofs.Try.f16 [.one (.int .i64)] [.agg [.int .i64, .int .u64, .int .i64]] fx_power_dec [.i x0]).den = fx_power K x0 := by kernel_rfl
def fx_power_w (K : Nat) : List U → Option (Int × Int × Int) := fun us => match us with | [.i x0] => fx_power K x0 | _ => none
def fx_power_enc : (Int × Int × Int) → List U := fun r => [.i r.1, .i r.2.1, .i r.2.2]
def fx_power_spec (K : Nat) : Vm.Spec := ⟨[.one (.int .i64)], [.agg [.int .i64, .int .u64, .int .i64]], Int × Int × Int, fx_power_w K, fx_power_enc⟩
theorem fx_power_ok (K : Nat) : FnOk Go.Proofs.Try.prog 16 (fx_power_spec K) := fn_ok' hmix (env_fx_of_ok K) (lenv := fx_power_v3 K) (args := [.one (.int .i64)]) (res := [.agg [.int .i64, .int .u64, .int .i64]]) (G := fx_power_w K) (enc := fx_power_enc) Go.Proofs.Try.func16 (lps_fn (l := [lp (bodyOf Go.Proofs.Try.f16) 0]) (by kernel_rfl) ⟨⟨3, fx_power_l3_s K, by kernel_rfl, by kernel_rfl, fx_power_l3_ok K⟩, trivial⟩) (dec := fx_power_dec) (fun u r h => by unfold fx_power_dec at h; split at h; (obtain rfl := Option.some.inj h; rfl); cases h) (fun us r h => by unfold fx_power_w at h; split at h; exact (fx_power_eq K _).trans h; cases h)
def env_fx_power (K : Nat) : FuncId → Option Vm.Spec := addS (env_fx_of K) 16 (fx_power_spec K)
theorem env_fx_power_ok (K : Nat) : EnvOk Go.Proofs.Try.prog (env_fx_power K) := addS_ok (env_fx_of_ok K) (.inl ⟨callable Go.Proofs.Try.func16 (by kernel_rfl) (by kernel_rfl), fx_power_ok K⟩)
-- passbook/fx.share
def fx_share_dec : List U → Option (Int) := fun u => match u with | [.i x0] => some (x0) | _ => none
def fx_share (K : Nat) (x0 : Int) (x1 : Int) (x2 : Int) : Option (Int) := ((fx_of K x0 0).bind fun r0 => ((fx_of K x1 6).bind fun r1 => ((dec_Mul K r0.fst r0.snd.fst r0.snd.snd r1.fst r1.snd.fst r1.snd.snd 0 x2).bind fun r2 => ((dec_Int K r2.fst r2.snd.fst r2.snd.snd.fst).bind fun r3 => (some (r3.fst))))))
theorem fx_share_eq (K : Nat) (x0 : Int) (x1 : Int) (x2 : Int) : (runF Go.Proofs.Try.prog (env_fx_power K) (lenv0) Go.Proofs.Try.f21 [.one (.int .i64), .one (.int .i64), .one (.int .i64)] [.one (.int .i64)] fx_share_dec [.i x0, .i x1, .i x2]).den = fx_share K x0 x1 x2 := by kernel_rfl
def fx_share_w (K : Nat) : List U → Option (Int) := fun us => match us with | [.i x0, .i x1, .i x2] => fx_share K x0 x1 x2 | _ => none
def fx_share_enc : (Int) → List U := fun r => [.i r]
def fx_share_spec (K : Nat) : Vm.Spec := ⟨[.one (.int .i64), .one (.int .i64), .one (.int .i64)], [.one (.int .i64)], Int, fx_share_w K, fx_share_enc⟩
theorem fx_share_ok (K : Nat) : FnOk Go.Proofs.Try.prog 21 (fx_share_spec K) := fn_ok' hmix (env_fx_power_ok K) (lenv := lenv0) (args := [.one (.int .i64), .one (.int .i64), .one (.int .i64)]) (res := [.one (.int .i64)]) (G := fx_share_w K) (enc := fx_share_enc) Go.Proofs.Try.func21 (lps_fn (l := []) (by kernel_rfl) trivial) (dec := fx_share_dec) (fun u r h => by unfold fx_share_dec at h; split at h; (obtain rfl := Option.some.inj h; rfl); cases h) (fun us r h => by unfold fx_share_w at h; split at h; exact (fx_share_eq K _ _ _).trans h; cases h)
def env_fx_share (K : Nat) : FuncId → Option Vm.Spec := addS (env_fx_power K) 21 (fx_share_spec K)
theorem env_fx_share_ok (K : Nat) : EnvOk Go.Proofs.Try.prog (env_fx_share K) := addS_ok (env_fx_power_ok K) (.inl ⟨callable Go.Proofs.Try.func21 (by kernel_rfl) (by kernel_rfl), fx_share_ok K⟩)
-- passbook/fx.Quote
def fx_Quote_dec : List U → Option (Int × Int × Int) := fun u => match u with | [.i x0, .i x1, .i x2] => some (x0, x1, x2) | _ => none
def fx_Quote (K : Nat) (x0 : Int) (x1 : Int) : Option (Int × Int × Int) := ((fx_is K x0).bind fun r0 => (if (!r0) = true then
    (some ((0, 0, 1)))
    else (if (Decidable.decide (x1 < 0)) = true then
    (some ((0, 0, 1)))
    else (if (Decidable.decide (x1 ≥ 1000000)) = true then
    (some ((0, 0, 1)))
    else ((fx_share K x0 (Go.IntKind.i64.wrap (1000000 - x1)) 0).bind fun r1 => ((fx_share K x0 (Go.IntKind.i64.wrap (1000000 + x1)) 1).bind fun r2 => ((fx_is K r1).bind fun r3 => (if (!r3) = true then
    (some ((0, 0, 4)))
    else ((fx_is K r2).bind fun r4 => (if (!r4) = true then
    (some ((0, 0, 4)))
    else (some ((r1, r2, 0)))))))))))))
theorem fx_Quote_eq (K : Nat) (x0 : Int) (x1 : Int) : (runF Go.Proofs.Try.prog (env_fx_share K) (lenv0) Go.Proofs.Try.f8 [.one (.int .i64), .one (.int .i64)] [.one (.int .i64), .one (.int .i64), .one (.int .i64)] fx_Quote_dec [.i x0, .i x1]).den = fx_Quote K x0 x1 := by kernel_rfl
def fx_Quote_w (K : Nat) : List U → Option (Int × Int × Int) := fun us => match us with | [.i x0, .i x1] => fx_Quote K x0 x1 | _ => none
def fx_Quote_enc : (Int × Int × Int) → List U := fun r => [.i r.1, .i r.2.1, .i r.2.2]
def fx_Quote_spec (K : Nat) : Vm.Spec := ⟨[.one (.int .i64), .one (.int .i64)], [.one (.int .i64), .one (.int .i64), .one (.int .i64)], Int × Int × Int, fx_Quote_w K, fx_Quote_enc⟩
theorem fx_Quote_ok (K : Nat) : FnOk Go.Proofs.Try.prog 8 (fx_Quote_spec K) := fn_ok' hmix (env_fx_share_ok K) (lenv := lenv0) (args := [.one (.int .i64), .one (.int .i64)]) (res := [.one (.int .i64), .one (.int .i64), .one (.int .i64)]) (G := fx_Quote_w K) (enc := fx_Quote_enc) Go.Proofs.Try.func8 (lps_fn (l := []) (by kernel_rfl) trivial) (dec := fx_Quote_dec) (fun u r h => by unfold fx_Quote_dec at h; split at h; (obtain rfl := Option.some.inj h; rfl); cases h) (fun us r h => by unfold fx_Quote_w at h; split at h; exact (fx_Quote_eq K _ _).trans h; cases h)
def env_fx_Quote (K : Nat) : FuncId → Option Vm.Spec := addS (env_fx_share K) 8 (fx_Quote_spec K)
theorem env_fx_Quote_ok (K : Nat) : EnvOk Go.Proofs.Try.prog (env_fx_Quote K) := addS_ok (env_fx_share_ok K) (.inl ⟨callable Go.Proofs.Try.func8 (by kernel_rfl) (by kernel_rfl), fx_Quote_ok K⟩)
-- passbook/fx.Cross
def fx_Cross_dec : List U → Option (Int × Int) := fun u => match u with | [.i x0, .i x1] => some (x0, x1) | _ => none
def fx_Cross (K : Nat) (x0 : Int) (x1 : Int) : Option (Int × Int) := ((fx_is K x0).bind fun r0 => (if (!r0) = true then
    (some ((0, 1)))
    else ((fx_is K x1).bind fun r1 => (if (!r1) = true then
    (some ((0, 1)))
    else ((fx_of K x0 0).bind fun r2 => ((fx_of K x1 9).bind fun r3 => ((dec_Mul K r2.fst r2.snd.fst r2.snd.snd r3.fst r3.snd.fst r3.snd.snd 0 0).bind fun r4 => ((dec_Int K r4.fst r4.snd.fst r4.snd.snd.fst).bind fun r5 => ((fx_is K r5.fst).bind fun r6 => (if (!r6) = true then
    (some ((0, 4)))
    else (some ((r5.fst, 0)))))))))))))
theorem fx_Cross_eq (K : Nat) (x0 : Int) (x1 : Int) : (runF Go.Proofs.Try.prog (env_fx_Quote K) (lenv0) Go.Proofs.Try.f10 [.one (.int .i64), .one (.int .i64)] [.one (.int .i64), .one (.int .i64)] fx_Cross_dec [.i x0, .i x1]).den = fx_Cross K x0 x1 := by kernel_rfl
def fx_Cross_w (K : Nat) : List U → Option (Int × Int) := fun us => match us with | [.i x0, .i x1] => fx_Cross K x0 x1 | _ => none
def fx_Cross_enc : (Int × Int) → List U := fun r => [.i r.1, .i r.2]
def fx_Cross_spec (K : Nat) : Vm.Spec := ⟨[.one (.int .i64), .one (.int .i64)], [.one (.int .i64), .one (.int .i64)], Int × Int, fx_Cross_w K, fx_Cross_enc⟩
theorem fx_Cross_ok (K : Nat) : FnOk Go.Proofs.Try.prog 10 (fx_Cross_spec K) := fn_ok' hmix (env_fx_Quote_ok K) (lenv := lenv0) (args := [.one (.int .i64), .one (.int .i64)]) (res := [.one (.int .i64), .one (.int .i64)]) (G := fx_Cross_w K) (enc := fx_Cross_enc) Go.Proofs.Try.func10 (lps_fn (l := []) (by kernel_rfl) trivial) (dec := fx_Cross_dec) (fun u r h => by unfold fx_Cross_dec at h; split at h; (obtain rfl := Option.some.inj h; rfl); cases h) (fun us r h => by unfold fx_Cross_w at h; split at h; exact (fx_Cross_eq K _ _).trans h; cases h)
def env_fx_Cross (K : Nat) : FuncId → Option Vm.Spec := addS (env_fx_Quote K) 10 (fx_Cross_spec K)
theorem env_fx_Cross_ok (K : Nat) : EnvOk Go.Proofs.Try.prog (env_fx_Cross K) := addS_ok (env_fx_Quote_ok K) (.inl ⟨callable Go.Proofs.Try.func10 (by kernel_rfl) (by kernel_rfl), fx_Cross_ok K⟩)
-- passbook/fx.Convert
def fx_Convert_dec : List U → Option (Int × Int × Int × Int × Int) := fun u => match u with | [.i x0, .i x1_0, .i x1_1, .i x1_2, .i x2] => some (x0, x1_0, x1_1, x1_2, x2) | _ => none
def fx_Convert (K : Nat) (x0 : Int) (x1 : Int) (x2 : Int) (x3 : Int) : Option (Int × Int × Int × Int × Int) := ((money_Digits K x0).bind fun r0 => ((money_Digits K x1).bind fun r1 => (if (r0.snd != 0) = true then
    (some ((0, 0, 0, 0, 1)))
    else (if (r1.snd != 0) = true then
    (some ((0, 0, 0, 0, 1)))
    else ((fx_is K x2).bind fun r2 => (if (!r2) = true then
    (some ((0, 0, 0, 0, 1)))
    else (if (Decidable.decide (x3 < 1)) = true then
    (some ((0, 0, 0, 0, 1)))
    else (if (Decidable.decide (x3 > 10000000000000)) = true then
    (some ((0, 0, 0, 0, 1)))
    else (if (x0 == x1) = true then
    (some ((0, 0, 0, 0, 10)))
    else ((fx_of K x3 0).bind fun r3 => ((fx_of K x2 9).bind fun r4 => ((dec_Mul K r3.fst r3.snd.fst r3.snd.snd r4.fst r4.snd.fst r4.snd.snd 12 0).bind fun r5 => (if (Decidable.decide (r1.fst ≥ r0.fst)) = true then
    ((fx_power K (Go.IntKind.i64.wrap (r1.fst - r0.fst))).bind fun r6 => ((dec_Mul K r5.fst r5.snd.fst r5.snd.snd.fst r6.fst r6.snd.fst r6.snd.snd 12 0).bind fun r7 => ((dec_Rescale K r7.fst r7.snd.fst r7.snd.snd.fst 0 0).bind fun r8 => ((dec_Int K r8.fst r8.snd.fst r8.snd.snd.fst).bind fun r9 => (if (r9.snd != 0) = true then
    (some ((0, 0, 0, 0, 4)))
    else (if (Decidable.decide (r9.fst > 10000000000000)) = true then
    (some ((0, 0, 0, 0, 4)))
    else ((dec_Sub K r7.fst r7.snd.fst r7.snd.snd.fst r8.fst r8.snd.fst r8.snd.snd.fst).bind fun r10 => (some ((r9.fst, r10.fst, r10.snd.fst, r10.snd.snd.fst, 0))))))))))
    else ((fx_power K (Go.IntKind.i64.wrap (r0.fst - r1.fst))).bind fun r11 => ((dec_Quo K r5.fst r5.snd.fst r5.snd.snd.fst r11.fst r11.snd.fst r11.snd.snd 12 0).bind fun r12 => ((dec_Rescale K r12.fst r12.snd.fst r12.snd.snd.fst 0 0).bind fun r13 => ((dec_Int K r13.fst r13.snd.fst r13.snd.snd.fst).bind fun r14 => (if (r14.snd != 0) = true then
    (some ((0, 0, 0, 0, 4)))
    else (if (Decidable.decide (r14.fst > 10000000000000)) = true then
    (some ((0, 0, 0, 0, 4)))
    else ((dec_Sub K r12.fst r12.snd.fst r12.snd.snd.fst r13.fst r13.snd.fst r13.snd.snd.fst).bind fun r15 => (some ((r14.fst, r15.fst, r15.snd.fst, r15.snd.snd.fst, 0)))))))))))))))))))))))
theorem fx_Convert_eq (K : Nat) (x0 : Int) (x1 : Int) (x2 : Int) (x3 : Int) : (runF Go.Proofs.Try.prog (env_fx_Cross K) (lenv0) Go.Proofs.Try.f7 [.one (.int .i64), .one (.int .i64), .one (.int .i64), .one (.int .i64)] [.one (.int .i64), .agg [.int .i64, .int .u64, .int .i64], .one (.int .i64)] fx_Convert_dec [.i x0, .i x1, .i x2, .i x3]).den = fx_Convert K x0 x1 x2 x3 := by kernel_rfl
def fx_Convert_w (K : Nat) : List U → Option (Int × Int × Int × Int × Int) := fun us => match us with | [.i x0, .i x1, .i x2, .i x3] => fx_Convert K x0 x1 x2 x3 | _ => none
def fx_Convert_enc : (Int × Int × Int × Int × Int) → List U := fun r => [.i r.1, .i r.2.1, .i r.2.2.1, .i r.2.2.2.1, .i r.2.2.2.2]
def fx_Convert_spec (K : Nat) : Vm.Spec := ⟨[.one (.int .i64), .one (.int .i64), .one (.int .i64), .one (.int .i64)], [.one (.int .i64), .agg [.int .i64, .int .u64, .int .i64], .one (.int .i64)], Int × Int × Int × Int × Int, fx_Convert_w K, fx_Convert_enc⟩
theorem fx_Convert_ok (K : Nat) : FnOk Go.Proofs.Try.prog 7 (fx_Convert_spec K) := fn_ok' hmix (env_fx_Cross_ok K) (lenv := lenv0) (args := [.one (.int .i64), .one (.int .i64), .one (.int .i64), .one (.int .i64)]) (res := [.one (.int .i64), .agg [.int .i64, .int .u64, .int .i64], .one (.int .i64)]) (G := fx_Convert_w K) (enc := fx_Convert_enc) Go.Proofs.Try.func7 (lps_fn (l := []) (by kernel_rfl) trivial) (dec := fx_Convert_dec) (fun u r h => by unfold fx_Convert_dec at h; split at h; (obtain rfl := Option.some.inj h; rfl); cases h) (fun us r h => by unfold fx_Convert_w at h; split at h; exact (fx_Convert_eq K _ _ _ _).trans h; cases h)
def env_fx_Convert (K : Nat) : FuncId → Option Vm.Spec := addS (env_fx_Cross K) 7 (fx_Convert_spec K)
theorem env_fx_Convert_ok (K : Nat) : EnvOk Go.Proofs.Try.prog (env_fx_Convert K) := addS_ok (env_fx_Cross_ok K) (.inl ⟨callable Go.Proofs.Try.func7 (by kernel_rfl) (by kernel_rfl), fx_Convert_ok K⟩)
-- passbook/passbookref16.Rate
def ref16_Rate_dec : List U → Option (Bool) := fun u => match u with | [.b c0] => some (c0) | _ => none
def ref16_Rate (K : Nat) (x0 : Int) : Option (Bool) := (if (Decidable.decide (x0 ≥ 1)) = true then
    (some (Decidable.decide (x0 ≤ 1000000000000)))
    else (some Bool.false))
theorem ref16_Rate_eq (K : Nat) (x0 : Int) : (runF Go.Proofs.Try.prog (env_fx_Convert K) (lenv0) Go.Proofs.Try.f22 [.one (.int .i64)] [.one (.bool)] ref16_Rate_dec [.i x0]).den = ref16_Rate K x0 := by kernel_rfl
def ref16_Rate_w (K : Nat) : List U → Option (Bool) := fun us => match us with | [.i x0] => ref16_Rate K x0 | _ => none
def ref16_Rate_enc : (Bool) → List U := fun r => [.b r]
def ref16_Rate_spec (K : Nat) : Vm.Spec := ⟨[.one (.int .i64)], [.one (.bool)], Bool, ref16_Rate_w K, ref16_Rate_enc⟩
theorem ref16_Rate_ok (K : Nat) : FnOk Go.Proofs.Try.prog 22 (ref16_Rate_spec K) := fn_ok' hmix (env_fx_Convert_ok K) (lenv := lenv0) (args := [.one (.int .i64)]) (res := [.one (.bool)]) (G := ref16_Rate_w K) (enc := ref16_Rate_enc) Go.Proofs.Try.func22 (lps_fn (l := []) (by kernel_rfl) trivial) (dec := ref16_Rate_dec) (fun u r h => by unfold ref16_Rate_dec at h; split at h; (obtain rfl := Option.some.inj h; rfl); cases h) (fun us r h => by unfold ref16_Rate_w at h; split at h; exact (ref16_Rate_eq K _).trans h; cases h)
def env_ref16_Rate (K : Nat) : FuncId → Option Vm.Spec := addS (env_fx_Convert K) 22 (ref16_Rate_spec K)
theorem env_ref16_Rate_ok (K : Nat) : EnvOk Go.Proofs.Try.prog (env_ref16_Rate K) := addS_ok (env_fx_Convert_ok K) (.inl ⟨callable Go.Proofs.Try.func22 (by kernel_rfl) (by kernel_rfl), ref16_Rate_ok K⟩)
-- passbook/passbookref16.over
def ref16_over_dec : List U → Option (Int × Bool) := fun u => match u with | [.i x0, .b c1] => some (x0, c1) | _ => none
def ref16_over (K : Nat) (x0 : Int) (x1 : Int) (x2 : Int) (x3 : Int) : Option (Int × Bool) := ((ref01_Made K x0).bind fun r0 => ((ref01_Made K x1).bind fun r1 => ((ref01_Product K r0.fst r0.snd r1.fst r1.snd).bind fun r2 => ((ref01_Word K (Go.IntKind.u64.wrap x2)).bind fun r3 => ((ref01_Rounded K r2.fst r2.snd r3 x3).bind fun r4 => ((ref01_Small K r4.fst r4.snd).bind fun r5 => (if (r5.snd) = true then
    ((ref16_Rate K r5.fst).bind fun r6 => (some ((r5.fst, r6))))
    else (some ((r5.fst, Bool.false))))))))))
theorem ref16_over_eq (K : Nat) (x0 : Int) (x1 : Int) (x2 : Int) (x3 : Int) : (runF Go.Proofs.Try.prog (env_ref16_Rate K) (lenv0) Go.Proofs.Try.f23 [.one (.int .i64), .one (.int .i64), .one (.int .i64), .one (.int .i64)] [.one (.int .i64), .one (.bool)] ref16_over_dec [.i x0, .i x1, .i x2, .i x3]).den = ref16_over K x0 x1 x2 x3 := by kernel_rfl
def ref16_over_w (K : Nat) : List U → Option (Int × Bool) := fun us => match us with | [.i x0, .i x1, .i x2, .i x3] => ref16_over K x0 x1 x2 x3 | _ => none
def ref16_over_enc : (Int × Bool) → List U := fun r => [.i r.1, .b r.2]
def ref16_over_spec (K : Nat) : Vm.Spec := ⟨[.one (.int .i64), .one (.int .i64), .one (.int .i64), .one (.int .i64)], [.one (.int .i64), .one (.bool)], Int × Bool, ref16_over_w K, ref16_over_enc⟩
theorem ref16_over_ok (K : Nat) : FnOk Go.Proofs.Try.prog 23 (ref16_over_spec K) := fn_ok' hmix (env_ref16_Rate_ok K) (lenv := lenv0) (args := [.one (.int .i64), .one (.int .i64), .one (.int .i64), .one (.int .i64)]) (res := [.one (.int .i64), .one (.bool)]) (G := ref16_over_w K) (enc := ref16_over_enc) Go.Proofs.Try.func23 (lps_fn (l := []) (by kernel_rfl) trivial) (dec := ref16_over_dec) (fun u r h => by unfold ref16_over_dec at h; split at h; (obtain rfl := Option.some.inj h; rfl); cases h) (fun us r h => by unfold ref16_over_w at h; split at h; exact (ref16_over_eq K _ _ _ _).trans h; cases h)
def env_ref16_over (K : Nat) : FuncId → Option Vm.Spec := addS (env_ref16_Rate K) 23 (ref16_over_spec K)
theorem env_ref16_over_ok (K : Nat) : EnvOk Go.Proofs.Try.prog (env_ref16_over K) := addS_ok (env_ref16_Rate_ok K) (.inl ⟨callable Go.Proofs.Try.func23 (by kernel_rfl) (by kernel_rfl), ref16_over_ok K⟩)
-- passbook/passbookref16.DocQuote
def ref16_DocQuote_dec : List U → Option (Int × Int × Int) := fun u => match u with | [.i x0, .i x1, .i x2] => some (x0, x1, x2) | _ => none
def ref16_DocQuote (K : Nat) (x0 : Int) (x1 : Int) : Option (Int × Int × Int) := ((ref16_Rate K x0).bind fun r0 => (if (!r0) = true then
    (some ((0, 0, 1)))
    else (if (Decidable.decide (x1 < 0)) = true then
    (some ((0, 0, 1)))
    else (if (Decidable.decide (x1 > 999999)) = true then
    (some ((0, 0, 1)))
    else ((ref16_over K x0 (Go.IntKind.i64.wrap (1000000 - x1)) 1000000 0).bind fun r1 => ((ref16_over K x0 (Go.IntKind.i64.wrap (1000000 + x1)) 1000000 1).bind fun r2 => (if (!r1.snd) = true then
    (some ((0, 0, 4)))
    else (if (!r2.snd) = true then
    (some ((0, 0, 4)))
    else (some ((r1.fst, r2.fst, 0)))))))))))
theorem ref16_DocQuote_eq (K : Nat) (x0 : Int) (x1 : Int) : (runF Go.Proofs.Try.prog (env_ref16_over K) (lenv0) Go.Proofs.Try.f9 [.one (.int .i64), .one (.int .i64)] [.one (.int .i64), .one (.int .i64), .one (.int .i64)] ref16_DocQuote_dec [.i x0, .i x1]).den = ref16_DocQuote K x0 x1 := by kernel_rfl
def ref16_DocQuote_w (K : Nat) : List U → Option (Int × Int × Int) := fun us => match us with | [.i x0, .i x1] => ref16_DocQuote K x0 x1 | _ => none
def ref16_DocQuote_enc : (Int × Int × Int) → List U := fun r => [.i r.1, .i r.2.1, .i r.2.2]
def ref16_DocQuote_spec (K : Nat) : Vm.Spec := ⟨[.one (.int .i64), .one (.int .i64)], [.one (.int .i64), .one (.int .i64), .one (.int .i64)], Int × Int × Int, ref16_DocQuote_w K, ref16_DocQuote_enc⟩
theorem ref16_DocQuote_ok (K : Nat) : FnOk Go.Proofs.Try.prog 9 (ref16_DocQuote_spec K) := fn_ok' hmix (env_ref16_over_ok K) (lenv := lenv0) (args := [.one (.int .i64), .one (.int .i64)]) (res := [.one (.int .i64), .one (.int .i64), .one (.int .i64)]) (G := ref16_DocQuote_w K) (enc := ref16_DocQuote_enc) Go.Proofs.Try.func9 (lps_fn (l := []) (by kernel_rfl) trivial) (dec := ref16_DocQuote_dec) (fun u r h => by unfold ref16_DocQuote_dec at h; split at h; (obtain rfl := Option.some.inj h; rfl); cases h) (fun us r h => by unfold ref16_DocQuote_w at h; split at h; exact (ref16_DocQuote_eq K _ _).trans h; cases h)
def env_ref16_DocQuote (K : Nat) : FuncId → Option Vm.Spec := addS (env_ref16_over K) 9 (ref16_DocQuote_spec K)
theorem env_ref16_DocQuote_ok (K : Nat) : EnvOk Go.Proofs.Try.prog (env_ref16_DocQuote K) := addS_ok (env_ref16_over_ok K) (.inl ⟨callable Go.Proofs.Try.func9 (by kernel_rfl) (by kernel_rfl), ref16_DocQuote_ok K⟩)
-- passbook/passbookref16.DocCross
def ref16_DocCross_dec : List U → Option (Int × Int) := fun u => match u with | [.i x0, .i x1] => some (x0, x1) | _ => none
def ref16_DocCross (K : Nat) (x0 : Int) (x1 : Int) : Option (Int × Int) := ((ref16_Rate K x0).bind fun r0 => (if (!r0) = true then
    (some ((0, 1)))
    else ((ref16_Rate K x1).bind fun r1 => (if (!r1) = true then
    (some ((0, 1)))
    else ((ref16_over K x0 x1 1000000000 0).bind fun r2 => (if (!r2.snd) = true then
    (some ((0, 4)))
    else (some ((r2.fst, 0)))))))))
theorem ref16_DocCross_eq (K : Nat) (x0 : Int) (x1 : Int) : (runF Go.Proofs.Try.prog (env_ref16_DocQuote K) (lenv0) Go.Proofs.Try.f11 [.one (.int .i64), .one (.int .i64)] [.one (.int .i64), .one (.int .i64)] ref16_DocCross_dec [.i x0, .i x1]).den = ref16_DocCross K x0 x1 := by kernel_rfl
def ref16_DocCross_w (K : Nat) : List U → Option (Int × Int) := fun us => match us with | [.i x0, .i x1] => ref16_DocCross K x0 x1 | _ => none
def ref16_DocCross_enc : (Int × Int) → List U := fun r => [.i r.1, .i r.2]
def ref16_DocCross_spec (K : Nat) : Vm.Spec := ⟨[.one (.int .i64), .one (.int .i64)], [.one (.int .i64), .one (.int .i64)], Int × Int, ref16_DocCross_w K, ref16_DocCross_enc⟩
theorem ref16_DocCross_ok (K : Nat) : FnOk Go.Proofs.Try.prog 11 (ref16_DocCross_spec K) := fn_ok' hmix (env_ref16_DocQuote_ok K) (lenv := lenv0) (args := [.one (.int .i64), .one (.int .i64)]) (res := [.one (.int .i64), .one (.int .i64)]) (G := ref16_DocCross_w K) (enc := ref16_DocCross_enc) Go.Proofs.Try.func11 (lps_fn (l := []) (by kernel_rfl) trivial) (dec := ref16_DocCross_dec) (fun u r h => by unfold ref16_DocCross_dec at h; split at h; (obtain rfl := Option.some.inj h; rfl); cases h) (fun us r h => by unfold ref16_DocCross_w at h; split at h; exact (ref16_DocCross_eq K _ _).trans h; cases h)
def env_ref16_DocCross (K : Nat) : FuncId → Option Vm.Spec := addS (env_ref16_DocQuote K) 11 (ref16_DocCross_spec K)
theorem env_ref16_DocCross_ok (K : Nat) : EnvOk Go.Proofs.Try.prog (env_ref16_DocCross K) := addS_ok (env_ref16_DocQuote_ok K) (.inl ⟨callable Go.Proofs.Try.func11 (by kernel_rfl) (by kernel_rfl), ref16_DocCross_ok K⟩)
-- passbook/passbooklaw16.awake
def law16_awake_dec : List U → Option (Bool) := fun u => match u with | [.b c0] => some (c0) | _ => none
def law16_awake (K : Nat)  : Option (Bool) := ((fx_Convert K 0 1 1100000000 333).bind fun r0 => ((fx_Quote K 1000000000 5000).bind fun r1 => (if (r0.snd.snd.snd.snd == 0) = true then
    (if (r0.fst == 366) = true then
    (if (r0.snd.fst == 0 && (r0.snd.snd.fst == 300000000000 && (r0.snd.snd.snd.fst == 12 && Bool.true))) = true then
    (if (r1.snd.snd == 0) = true then
    (if (r1.fst == 995000000) = true then
    (some (r1.snd.fst == 1005000000))
    else (some Bool.false))
    else (some Bool.false))
    else (some Bool.false))
    else (some Bool.false))
    else (some Bool.false))))
theorem law16_awake_eq (K : Nat)  : (runF Go.Proofs.Try.prog (env_ref16_DocCross K) (lenv0) Go.Proofs.Try.f6 [] [.one (.bool)] law16_awake_dec []).den = law16_awake K  := by kernel_rfl
def law16_awake_w (K : Nat) : List U → Option (Bool) := fun us => match us with | [] => law16_awake K  | _ => none
def law16_awake_enc : (Bool) → List U := fun r => [.b r]
def law16_awake_spec (K : Nat) : Vm.Spec := ⟨[], [.one (.bool)], Bool, law16_awake_w K, law16_awake_enc⟩
theorem law16_awake_ok (K : Nat) : FnOk Go.Proofs.Try.prog 6 (law16_awake_spec K) := fn_ok' hmix (env_ref16_DocCross_ok K) (lenv := lenv0) (args := []) (res := [.one (.bool)]) (G := law16_awake_w K) (enc := law16_awake_enc) Go.Proofs.Try.func6 (lps_fn (l := []) (by kernel_rfl) trivial) (dec := law16_awake_dec) (fun u r h => by unfold law16_awake_dec at h; split at h; (obtain rfl := Option.some.inj h; rfl); cases h) (fun us r h => by unfold law16_awake_w at h; split at h; exact (law16_awake_eq K).trans h; cases h)
def env_law16_awake (K : Nat) : FuncId → Option Vm.Spec := addS (env_ref16_DocCross K) 6 (law16_awake_spec K)
theorem env_law16_awake_ok (K : Nat) : EnvOk Go.Proofs.Try.prog (env_law16_awake K) := addS_ok (env_ref16_DocCross_ok K) (.inl ⟨callable Go.Proofs.Try.func6 (by kernel_rfl) (by kernel_rfl), law16_awake_ok K⟩)
-- passbook/passbooklaw16.FxSpread
def law16_FxSpread_dec : List U → Option (Bool) := fun u => match u with | [.b c0] => some (c0) | _ => none
def law16_FxSpread (K : Nat) (x0 : Int) (x1 : Int) (x2 : Int) : Option (Bool) := ((law16_awake K).bind fun r0 => (if (!r0) = true then
    (some Bool.false)
    else (if (Decidable.decide (Go.IntKind.i64.wrap (x1.tmod 1000000) > Go.IntKind.i64.wrap (x2.tmod 1000000))) = true then
    ((fx_Quote K
  (Go.IntKind.i64.wrap (1 + Go.IntKind.i64.wrap ((Go.IntKind.u64.wrap x0).tmod 1000000000000)))
  (Go.IntKind.i64.wrap (x2.tmod 1000000))).bind fun r1 => ((fx_Quote K
  (Go.IntKind.i64.wrap (1 + Go.IntKind.i64.wrap ((Go.IntKind.u64.wrap x0).tmod 1000000000000)))
  (Go.IntKind.i64.wrap (x1.tmod 1000000))).bind fun r2 => (if (r1.snd.snd != 0) = true then
    (if (r1.snd.snd == 4) = true then
    (some (r2.snd.snd == 4))
    else (some Bool.false))
    else (if (Decidable.decide (r1.fst > Go.IntKind.i64.wrap (1 + Go.IntKind.i64.wrap ((Go.IntKind.u64.wrap x0).tmod 1000000000000)))) = true then
    (some Bool.false)
    else (if (Decidable.decide
  (r1.snd.fst < Go.IntKind.i64.wrap (1 + Go.IntKind.i64.wrap ((Go.IntKind.u64.wrap x0).tmod 1000000000000)))) = true then
    (some Bool.false)
    else (if (Go.IntKind.i64.wrap (x2.tmod 1000000) == 0) = true then
    (if (r1.fst != Go.IntKind.i64.wrap (1 + Go.IntKind.i64.wrap ((Go.IntKind.u64.wrap x0).tmod 1000000000000))) = true then
    (some Bool.false)
    else (if (r1.snd.fst != Go.IntKind.i64.wrap (1 + Go.IntKind.i64.wrap ((Go.IntKind.u64.wrap x0).tmod 1000000000000))) = true then
    (some Bool.false)
    else (if (r2.snd.snd != 0) = true then
    (some Bool.true)
    else (if (Decidable.decide (r2.fst ≤ r1.fst)) = true then
    (some (Decidable.decide (r2.snd.fst ≥ r1.snd.fst)))
    else (some Bool.false)))))
    else (if (r2.snd.snd != 0) = true then
    (some Bool.true)
    else (if (Decidable.decide (r2.fst ≤ r1.fst)) = true then
    (some (Decidable.decide (r2.snd.fst ≥ r1.snd.fst)))
    else (some Bool.false)))))))))
    else ((fx_Quote K
  (Go.IntKind.i64.wrap (1 + Go.IntKind.i64.wrap ((Go.IntKind.u64.wrap x0).tmod 1000000000000)))
  (Go.IntKind.i64.wrap (x1.tmod 1000000))).bind fun r3 => ((fx_Quote K
  (Go.IntKind.i64.wrap (1 + Go.IntKind.i64.wrap ((Go.IntKind.u64.wrap x0).tmod 1000000000000)))
  (Go.IntKind.i64.wrap (x2.tmod 1000000))).bind fun r4 => (if (r3.snd.snd != 0) = true then
    (if (r3.snd.snd == 4) = true then
    (some (r4.snd.snd == 4))
    else (some Bool.false))
    else (if (Decidable.decide (r3.fst > Go.IntKind.i64.wrap (1 + Go.IntKind.i64.wrap ((Go.IntKind.u64.wrap x0).tmod 1000000000000)))) = true then
    (some Bool.false)
    else (if (Decidable.decide
  (r3.snd.fst < Go.IntKind.i64.wrap (1 + Go.IntKind.i64.wrap ((Go.IntKind.u64.wrap x0).tmod 1000000000000)))) = true then
    (some Bool.false)
    else (if (Go.IntKind.i64.wrap (x1.tmod 1000000) == 0) = true then
    (if (r3.fst != Go.IntKind.i64.wrap (1 + Go.IntKind.i64.wrap ((Go.IntKind.u64.wrap x0).tmod 1000000000000))) = true then
    (some Bool.false)
    else (if (r3.snd.fst != Go.IntKind.i64.wrap (1 + Go.IntKind.i64.wrap ((Go.IntKind.u64.wrap x0).tmod 1000000000000))) = true then
    (some Bool.false)
    else (if (r4.snd.snd != 0) = true then
    (some Bool.true)
    else (if (Decidable.decide (r4.fst ≤ r3.fst)) = true then
    (some (Decidable.decide (r4.snd.fst ≥ r3.snd.fst)))
    else (some Bool.false)))))
    else (if (r4.snd.snd != 0) = true then
    (some Bool.true)
    else (if (Decidable.decide (r4.fst ≤ r3.fst)) = true then
    (some (Decidable.decide (r4.snd.fst ≥ r3.snd.fst)))
    else (some Bool.false))))))))))))
theorem law16_FxSpread_eq (K : Nat) (x0 : Int) (x1 : Int) (x2 : Int) : (runF Go.Proofs.Try.prog (env_law16_awake K) (lenv0) Go.Proofs.Try.f4 [.one (.int .i64), .one (.int .u32), .one (.int .u32)] [.one (.bool)] law16_FxSpread_dec [.i x0, .i x1, .i x2]).den = law16_FxSpread K x0 x1 x2 := by kernel_rfl
def law16_FxSpread_w (K : Nat) : List U → Option (Bool) := fun us => match us with | [.i x0, .i x1, .i x2] => law16_FxSpread K x0 x1 x2 | _ => none
def law16_FxSpread_enc : (Bool) → List U := fun r => [.b r]
def law16_FxSpread_spec (K : Nat) : Vm.Spec := ⟨[.one (.int .i64), .one (.int .u32), .one (.int .u32)], [.one (.bool)], Bool, law16_FxSpread_w K, law16_FxSpread_enc⟩
theorem law16_FxSpread_ok (K : Nat) : FnOk Go.Proofs.Try.prog 4 (law16_FxSpread_spec K) := fn_ok' hmix (env_law16_awake_ok K) (lenv := lenv0) (args := [.one (.int .i64), .one (.int .u32), .one (.int .u32)]) (res := [.one (.bool)]) (G := law16_FxSpread_w K) (enc := law16_FxSpread_enc) Go.Proofs.Try.func4 (lps_fn (l := []) (by kernel_rfl) trivial) (dec := law16_FxSpread_dec) (fun u r h => by unfold law16_FxSpread_dec at h; split at h; (obtain rfl := Option.some.inj h; rfl); cases h) (fun us r h => by unfold law16_FxSpread_w at h; split at h; exact (law16_FxSpread_eq K _ _ _).trans h; cases h)
def env_law16_FxSpread (K : Nat) : FuncId → Option Vm.Spec := addS (env_law16_awake K) 4 (law16_FxSpread_spec K)
theorem env_law16_FxSpread_ok (K : Nat) : EnvOk Go.Proofs.Try.prog (env_law16_FxSpread K) := addS_ok (env_law16_awake_ok K) (.inl ⟨callable Go.Proofs.Try.func4 (by kernel_rfl) (by kernel_rfl), law16_FxSpread_ok K⟩)
-- passbook/passbooklaw16.FxQuotes
def law16_FxQuotes_dec : List U → Option (Bool) := fun u => match u with | [.b c0] => some (c0) | _ => none
def law16_FxQuotes (K : Nat) (x0 : Int) (x1 : Int) (x2 : Int) : Option (Bool) := ((fx_Quote K x0 x2).bind fun r0 => ((ref16_DocQuote K x0 x2).bind fun r1 => ((fx_Cross K x0 x1).bind fun r2 => ((ref16_DocCross K x0 x1).bind fun r3 => ((law16_awake K).bind fun r4 => (if (r4) = true then
    (if (r0.fst == r1.fst) = true then
    (if (r0.snd.fst == r1.snd.fst) = true then
    (if (r0.snd.snd == r1.snd.snd) = true then
    (if (r2.fst == r3.fst) = true then
    (some (r2.snd == r3.snd))
    else (some Bool.false))
    else (some Bool.false))
    else (some Bool.false))
    else (some Bool.false))
    else (some Bool.false)))))))
theorem law16_FxQuotes_eq (K : Nat) (x0 : Int) (x1 : Int) (x2 : Int) : (runF Go.Proofs.Try.prog (env_law16_FxSpread K) (lenv0) Go.Proofs.Try.f5 [.one (.int .i64), .one (.int .i64), .one (.int .i64)] [.one (.bool)] law16_FxQuotes_dec [.i x0, .i x1, .i x2]).den = law16_FxQuotes K x0 x1 x2 := by kernel_rfl
def law16_FxQuotes_w (K : Nat) : List U → Option (Bool) := fun us => match us with | [.i x0, .i x1, .i x2] => law16_FxQuotes K x0 x1 x2 | _ => none
def law16_FxQuotes_enc : (Bool) → List U := fun r => [.b r]
def law16_FxQuotes_spec (K : Nat) : Vm.Spec := ⟨[.one (.int .i64), .one (.int .i64), .one (.int .i64)], [.one (.bool)], Bool, law16_FxQuotes_w K, law16_FxQuotes_enc⟩
theorem law16_FxQuotes_ok (K : Nat) : FnOk Go.Proofs.Try.prog 5 (law16_FxQuotes_spec K) := fn_ok' hmix (env_law16_FxSpread_ok K) (lenv := lenv0) (args := [.one (.int .i64), .one (.int .i64), .one (.int .i64)]) (res := [.one (.bool)]) (G := law16_FxQuotes_w K) (enc := law16_FxQuotes_enc) Go.Proofs.Try.func5 (lps_fn (l := []) (by kernel_rfl) trivial) (dec := law16_FxQuotes_dec) (fun u r h => by unfold law16_FxQuotes_dec at h; split at h; (obtain rfl := Option.some.inj h; rfl); cases h) (fun us r h => by unfold law16_FxQuotes_w at h; split at h; exact (law16_FxQuotes_eq K _ _ _).trans h; cases h)
def env_law16_FxQuotes (K : Nat) : FuncId → Option Vm.Spec := addS (env_law16_FxSpread K) 5 (law16_FxQuotes_spec K)
theorem env_law16_FxQuotes_ok (K : Nat) : EnvOk Go.Proofs.Try.prog (env_law16_FxQuotes K) := addS_ok (env_law16_FxSpread_ok K) (.inl ⟨callable Go.Proofs.Try.func5 (by kernel_rfl) (by kernel_rfl), law16_FxQuotes_ok K⟩)
-- passbook/passbooklaw16.FxBack
def law16_FxBack_dec : List U → Option (Bool) := fun u => match u with | [.b c0] => some (c0) | _ => none
def law16_FxBack (K : Nat) (x0 : Int) (x1 : Int) (x2 : Int) (x3 : Int) : Option (Bool) := ((law16_awake K).bind fun r0 => (if (!r0) = true then
    (some Bool.false)
    else (if (Decidable.decide (Go.IntKind.i64.wrap (1 + Go.IntKind.i64.wrap ((Go.IntKind.u64.wrap x2).tmod 1000000000000)) = 0)) = true then
    none
    else ((fx_Convert K (Go.IntKind.i64.wrap (x0.tmod 4)) (Go.IntKind.i64.wrap (x1.tmod 4))
  (Go.IntKind.i64.wrap (1 + Go.IntKind.i64.wrap ((Go.IntKind.u64.wrap x2).tmod 1000000000000)))
  (Go.IntKind.i64.wrap (1 + Go.IntKind.i64.wrap ((Go.IntKind.u64.wrap x3).tmod 10000000000000)))).bind fun r1 => (if (r1.snd.snd.snd.snd != 0) = true then
    (some Bool.true)
    else (if (r1.fst == 0) = true then
    (some Bool.true)
    else (if (Decidable.decide
  (Go.IntKind.i64.wrap
      (Int.tdiv 1000000000000000000
        (Go.IntKind.i64.wrap (1 + Go.IntKind.i64.wrap ((Go.IntKind.u64.wrap x2).tmod 1000000000000)))) <
    1)) = true then
    (some Bool.true)
    else (if (Decidable.decide
  (Go.IntKind.i64.wrap
      (Int.tdiv 1000000000000000000
        (Go.IntKind.i64.wrap (1 + Go.IntKind.i64.wrap ((Go.IntKind.u64.wrap x2).tmod 1000000000000)))) >
    1000000000000)) = true then
    (some Bool.true)
    else ((fx_Convert K (Go.IntKind.i64.wrap (x1.tmod 4)) (Go.IntKind.i64.wrap (x0.tmod 4))
  (Go.IntKind.i64.wrap
    (Int.tdiv 1000000000000000000
      (Go.IntKind.i64.wrap (1 + Go.IntKind.i64.wrap ((Go.IntKind.u64.wrap x2).tmod 1000000000000)))))
  r1.fst).bind fun r2 => (if (r2.snd.snd.snd.snd == 0) = true then
    (some (Decidable.decide (r2.fst ≤ Go.IntKind.i64.wrap (1 + Go.IntKind.i64.wrap ((Go.IntKind.u64.wrap x3).tmod 10000000000000)))))
    else (some Bool.false)))))))))))
theorem law16_FxBack_eq (K : Nat) (x0 : Int) (x1 : Int) (x2 : Int) (x3 : Int) : (runF Go.Proofs.Try.prog (env_law16_FxQuotes K) (lenv0) Go.Proofs.Try.f3 [.one (.int .u8), .one (.int .u8), .one (.int .i64), .one (.int .i64)] [.one (.bool)] law16_FxBack_dec [.i x0, .i x1, .i x2, .i x3]).den = law16_FxBack K x0 x1 x2 x3 := by kernel_rfl
def law16_FxBack_w (K : Nat) : List U → Option (Bool) := fun us => match us with | [.i x0, .i x1, .i x2, .i x3] => law16_FxBack K x0 x1 x2 x3 | _ => none
def law16_FxBack_enc : (Bool) → List U := fun r => [.b r]
def law16_FxBack_spec (K : Nat) : Vm.Spec := ⟨[.one (.int .u8), .one (.int .u8), .one (.int .i64), .one (.int .i64)], [.one (.bool)], Bool, law16_FxBack_w K, law16_FxBack_enc⟩
theorem law16_FxBack_ok (K : Nat) : FnOk Go.Proofs.Try.prog 3 (law16_FxBack_spec K) := fn_ok' hmix (env_law16_FxQuotes_ok K) (lenv := lenv0) (args := [.one (.int .u8), .one (.int .u8), .one (.int .i64), .one (.int .i64)]) (res := [.one (.bool)]) (G := law16_FxBack_w K) (enc := law16_FxBack_enc) Go.Proofs.Try.func3 (lps_fn (l := []) (by kernel_rfl) trivial) (dec := law16_FxBack_dec) (fun u r h => by unfold law16_FxBack_dec at h; split at h; (obtain rfl := Option.some.inj h; rfl); cases h) (fun us r h => by unfold law16_FxBack_w at h; split at h; exact (law16_FxBack_eq K _ _ _ _).trans h; cases h)
def env_law16_FxBack (K : Nat) : FuncId → Option Vm.Spec := addS (env_law16_FxQuotes K) 3 (law16_FxBack_spec K)
theorem env_law16_FxBack_ok (K : Nat) : EnvOk Go.Proofs.Try.prog (env_law16_FxBack K) := addS_ok (env_law16_FxQuotes_ok K) (.inl ⟨callable Go.Proofs.Try.func3 (by kernel_rfl) (by kernel_rfl), law16_FxBack_ok K⟩)
end Go.Proofs.Ytmlohnfghomghaa.F
