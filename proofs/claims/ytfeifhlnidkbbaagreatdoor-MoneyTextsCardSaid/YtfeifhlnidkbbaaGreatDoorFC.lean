import Derived.Test.YtfeifhlnidkbbaaGreatDoorVmY
import Derived.Test.YtfeifhlnidkbbaaGreatDoorVmRc
import Derived.Test.YtfeifhlnidkbbaaGreatDoorProg
import Derived.Test.YtfeifhlnidkbbaaGreatDoorFB
namespace Go.Proofs.YtfeifhlnidkbbaaGreatDoor.F
open Go Go.Proofs.YtfeifhlnidkbbaaGreatDoor.Vm
set_option maxRecDepth 1000000
set_option linter.unusedVariables false
def money_name_dec : List U → Option (ByteArray) := fun u => match u with | [.s s0] => some (s0) | _ => none
def money_name_enc : (ByteArray) → List U := fun r => [.s r]
def money_name (K : Nat) (x0 : Int) : Option (ByteArray) := (bi (x0 == 0)
    (some ({ data := #[69, 85, 82] }))
    (bi (x0 == 1)
    (some ({ data := #[85, 83, 68] }))
    (bi (x0 == 2)
    (some ({ data := #[74, 80, 89] }))
    (bi (x0 == 3)
    (some ({ data := #[75, 87, 68] }))
    (some ({ data := #[] }))))))
theorem money_name_eq (K : Nat) (x0 : Int) : (runF Tryz.prog (env_ref01_Rounded K) (lenv0) Tryz.f13 [.one (.int .i64)] [.one (.str)] money_name_dec [.i x0]).den2 = money_name K x0 := by kernel_rfl
def money_name_w (K : Nat) : List U → Option (ByteArray) := fun us => match us with | [.i x0] => money_name K x0 | _ => none
def money_name_spec (K : Nat) : Vm.Spec := ⟨[.one (.int .i64)], [.one (.str)], ByteArray, money_name_w K, money_name_enc⟩
theorem money_name_ok (K : Nat) : FnOk Tryz.prog 13 (money_name_spec K) := fn_ok' hmix (env_ref01_Rounded_ok K) (lenv := lenv0) (args := [.one (.int .i64)]) (res := [.one (.str)]) (G := money_name_w K) (enc := money_name_enc) Tryz.func13 (lps_fn (l := []) (by kernel_rfl) trivial) (dec := money_name_dec) (fun u r h => by unfold money_name_dec at h; split at h; (cases h; rfl); cases h) (fun us r h => by unfold money_name_w at h; split at h; exact ((den2_eq _).symm.trans (money_name_eq K _)).trans h; cases h)
def env_money_name (K : Nat) : FuncId → Option Vm.Spec := addS (env_ref01_Rounded K) 13 (money_name_spec K)
theorem env_money_name_ok (K : Nat) : EnvOk Tryz.prog (env_money_name K) := addS_ok (env_ref01_Rounded_ok K) (.inl ⟨callable Tryz.func13 (by kernel_rfl) (by kernel_rfl), money_name_ok K⟩)
def money_figures_dec : List U → Option (Int) := fun u => match u with | [.i x0] => some (x0) | _ => none
def money_figures_enc : (Int) → List U := fun r => [.i r]
def money_figures (K : Nat) (x0 : Int) : Option (Int) := (bi (x0 == 2)
    (some (0))
    (bi (x0 == 3)
    (some (3))
    (some (2))))
theorem money_figures_eq (K : Nat) (x0 : Int) : (runF Tryz.prog (env_money_name K) (lenv0) Tryz.f20 [.one (.int .i64)] [.one (.int .i64)] money_figures_dec [.i x0]).den2 = money_figures K x0 := by kernel_rfl
def money_figures_w (K : Nat) : List U → Option (Int) := fun us => match us with | [.i x0] => money_figures K x0 | _ => none
def money_figures_spec (K : Nat) : Vm.Spec := ⟨[.one (.int .i64)], [.one (.int .i64)], Int, money_figures_w K, money_figures_enc⟩
theorem money_figures_ok (K : Nat) : FnOk Tryz.prog 20 (money_figures_spec K) := fn_ok' hmix (env_money_name_ok K) (lenv := lenv0) (args := [.one (.int .i64)]) (res := [.one (.int .i64)]) (G := money_figures_w K) (enc := money_figures_enc) Tryz.func20 (lps_fn (l := []) (by kernel_rfl) trivial) (dec := money_figures_dec) (fun u r h => by unfold money_figures_dec at h; split at h; (cases h; rfl); cases h) (fun us r h => by unfold money_figures_w at h; split at h; exact ((den2_eq _).symm.trans (money_figures_eq K _)).trans h; cases h)
def env_money_figures (K : Nat) : FuncId → Option Vm.Spec := addS (env_money_name K) 20 (money_figures_spec K)
theorem env_money_figures_ok (K : Nat) : EnvOk Tryz.prog (env_money_figures K) := addS_ok (env_money_name_ok K) (.inl ⟨callable Tryz.func20 (by kernel_rfl) (by kernel_rfl), money_figures_ok K⟩)
def money_within_dec : List U → Option (Bool) := fun u => match u with | [.b c0] => some (c0) | _ => none
def money_within_enc : (Bool) → List U := fun r => [.b r]
def money_within (K : Nat) (x0 : Int) : Option (Bool) := (bi (decide (x0 ≥ -10000000000000))
    (some (decide (x0 ≤ 10000000000000)))
    (some Bool.false))
theorem money_within_eq (K : Nat) (x0 : Int) : (runF Tryz.prog (env_money_figures K) (lenv0) Tryz.f56 [.one (.int .i64)] [.one (.bool)] money_within_dec [.i x0]).den2 = money_within K x0 := by kernel_rfl
def money_within_w (K : Nat) : List U → Option (Bool) := fun us => match us with | [.i x0] => money_within K x0 | _ => none
def money_within_spec (K : Nat) : Vm.Spec := ⟨[.one (.int .i64)], [.one (.bool)], Bool, money_within_w K, money_within_enc⟩
theorem money_within_ok (K : Nat) : FnOk Tryz.prog 56 (money_within_spec K) := fn_ok' hmix (env_money_figures_ok K) (lenv := lenv0) (args := [.one (.int .i64)]) (res := [.one (.bool)]) (G := money_within_w K) (enc := money_within_enc) Tryz.func56 (lps_fn (l := []) (by kernel_rfl) trivial) (dec := money_within_dec) (fun u r h => by unfold money_within_dec at h; split at h; (cases h; rfl); cases h) (fun us r h => by unfold money_within_w at h; split at h; exact ((den2_eq _).symm.trans (money_within_eq K _)).trans h; cases h)
def env_money_within (K : Nat) : FuncId → Option Vm.Spec := addS (env_money_figures K) 56 (money_within_spec K)
theorem env_money_within_ok (K : Nat) : EnvOk Tryz.prog (env_money_within K) := addS_ok (env_money_figures_ok K) (.inl ⟨callable Tryz.func56 (by kernel_rfl) (by kernel_rfl), money_within_ok K⟩)
def money_Check_dec : List U → Option (Int) := fun u => match u with | [.i x0] => some (x0) | _ => none
def money_Check_enc : (Int) → List U := fun r => [.i r]
def money_Check (K : Nat) (x0_0 : Int) (x0_1 : Int) : Option (Int) := ((money_name K x0_0).bind fun r0 => (bi (sEq r0 { data := #[] })
    (some (3))
    ((money_within K x0_1).bind fun r1 => (bi (!r1)
    (some (3))
    (some (0))))))
theorem money_Check_eq (K : Nat) (x0_0 : Int) (x0_1 : Int) : (runF Tryz.prog (env_money_within K) (lenv0) Tryz.f24 [.agg [.int .i64, .int .i64]] [.one (.int .i64)] money_Check_dec [.i x0_0, .i x0_1]).den2 = money_Check K x0_0 x0_1 := by kernel_rfl
def money_Check_w (K : Nat) : List U → Option (Int) := fun us => match us with | [.i x0_0, .i x0_1] => money_Check K x0_0 x0_1 | _ => none
def money_Check_spec (K : Nat) : Vm.Spec := ⟨[.agg [.int .i64, .int .i64]], [.one (.int .i64)], Int, money_Check_w K, money_Check_enc⟩
theorem money_Check_ok (K : Nat) : FnOk Tryz.prog 24 (money_Check_spec K) := fn_ok' hmix (env_money_within_ok K) (lenv := lenv0) (args := [.agg [.int .i64, .int .i64]]) (res := [.one (.int .i64)]) (G := money_Check_w K) (enc := money_Check_enc) Tryz.func24 (lps_fn (l := []) (by kernel_rfl) trivial) (dec := money_Check_dec) (fun u r h => by unfold money_Check_dec at h; split at h; (cases h; rfl); cases h) (fun us r h => by unfold money_Check_w at h; split at h; exact ((den2_eq _).symm.trans (money_Check_eq K _ _)).trans h; cases h)
def env_money_Check (K : Nat) : FuncId → Option Vm.Spec := addS (env_money_within K) 24 (money_Check_spec K)
theorem env_money_Check_ok (K : Nat) : EnvOk Tryz.prog (env_money_Check K) := addS_ok (env_money_within_ok K) (.inl ⟨callable Tryz.func24 (by kernel_rfl) (by kernel_rfl), money_Check_ok K⟩)
def money_made_dec : List U → Option (Int × Int × Int) := fun u => match u with | [.i x0_0, .i x0_1, .i x1] => some (x0_0, x0_1, x1) | _ => none
def money_made_enc : (Int × Int × Int) → List U := fun r => [.i r.1, .i r.2.1, .i r.2.2]
def money_made (K : Nat) (x0 : Int) (x1 : Int) : Option (Int × Int × Int) := ((money_within K x1).bind fun r0 => (bi (!r0)
    (some ((0, 0, 4)))
    (some ((x0, x1, 0)))))
theorem money_made_eq (K : Nat) (x0 : Int) (x1 : Int) : (runF Tryz.prog (env_money_Check K) (lenv0) Tryz.f47 [.one (.int .i64), .one (.int .i64)] [.agg [.int .i64, .int .i64], .one (.int .i64)] money_made_dec [.i x0, .i x1]).den2 = money_made K x0 x1 := by kernel_rfl
def money_made_w (K : Nat) : List U → Option (Int × Int × Int) := fun us => match us with | [.i x0, .i x1] => money_made K x0 x1 | _ => none
def money_made_spec (K : Nat) : Vm.Spec := ⟨[.one (.int .i64), .one (.int .i64)], [.agg [.int .i64, .int .i64], .one (.int .i64)], Int × Int × Int, money_made_w K, money_made_enc⟩
theorem money_made_ok (K : Nat) : FnOk Tryz.prog 47 (money_made_spec K) := fn_ok' hmix (env_money_Check_ok K) (lenv := lenv0) (args := [.one (.int .i64), .one (.int .i64)]) (res := [.agg [.int .i64, .int .i64], .one (.int .i64)]) (G := money_made_w K) (enc := money_made_enc) Tryz.func47 (lps_fn (l := []) (by kernel_rfl) trivial) (dec := money_made_dec) (fun u r h => by unfold money_made_dec at h; split at h; (cases h; rfl); cases h) (fun us r h => by unfold money_made_w at h; split at h; exact ((den2_eq _).symm.trans (money_made_eq K _ _)).trans h; cases h)
def env_money_made (K : Nat) : FuncId → Option Vm.Spec := addS (env_money_Check K) 47 (money_made_spec K)
theorem env_money_made_ok (K : Nat) : EnvOk Tryz.prog (env_money_made K) := addS_ok (env_money_Check_ok K) (.inl ⟨callable Tryz.func47 (by kernel_rfl) (by kernel_rfl), money_made_ok K⟩)
def money_Of_dec : List U → Option (Int × Int × Int) := fun u => match u with | [.i x0_0, .i x0_1, .i x1] => some (x0_0, x0_1, x1) | _ => none
def money_Of_enc : (Int × Int × Int) → List U := fun r => [.i r.1, .i r.2.1, .i r.2.2]
def money_Of (K : Nat) (x0_0 : Int) (x0_1 : Int) (x0_2 : Int) (x1 : Int) (x2 : Int) : Option (Int × Int × Int) := ((money_name K x1).bind fun r0 => (bi (sEq r0 { data := #[] })
    (some ((0, 0, 1)))
    (bi (decide (x2 < 0))
    (some ((0, 0, 1)))
    (bi (decide (x2 > 6))
    (some ((0, 0, 1)))
    ((money_figures K x1).bind fun r1 => ((dec_Rescale K x0_0 x0_1 x0_2 r1 x2).bind fun r2 => (bi (r2.snd.snd.snd != 0)
    (some ((0, 0, r2.snd.snd.snd)))
    ((dec_Int K r2.fst r2.snd.fst 0).bind fun r3 => (bi (r3.snd != 0)
    (some ((0, 0, r3.snd)))
    ((money_made K x1 r3.fst).bind fun r4 => (some ((r4.fst, r4.snd.fst, r4.snd.snd)))))))))))))
theorem money_Of_eq (K : Nat) (x0_0 : Int) (x0_1 : Int) (x0_2 : Int) (x1 : Int) (x2 : Int) : (runF Tryz.prog (env_money_made K) (lenv0) Tryz.f21 [.agg [.int .i64, .int .u64, .int .i64], .one (.int .i64), .one (.int .i64)] [.agg [.int .i64, .int .i64], .one (.int .i64)] money_Of_dec [.i x0_0, .i x0_1, .i x0_2, .i x1, .i x2]).den2 = money_Of K x0_0 x0_1 x0_2 x1 x2 := by kernel_rfl
def money_Of_w (K : Nat) : List U → Option (Int × Int × Int) := fun us => match us with | [.i x0_0, .i x0_1, .i x0_2, .i x1, .i x2] => money_Of K x0_0 x0_1 x0_2 x1 x2 | _ => none
def money_Of_spec (K : Nat) : Vm.Spec := ⟨[.agg [.int .i64, .int .u64, .int .i64], .one (.int .i64), .one (.int .i64)], [.agg [.int .i64, .int .i64], .one (.int .i64)], Int × Int × Int, money_Of_w K, money_Of_enc⟩
theorem money_Of_ok (K : Nat) : FnOk Tryz.prog 21 (money_Of_spec K) := fn_ok' hmix (env_money_made_ok K) (lenv := lenv0) (args := [.agg [.int .i64, .int .u64, .int .i64], .one (.int .i64), .one (.int .i64)]) (res := [.agg [.int .i64, .int .i64], .one (.int .i64)]) (G := money_Of_w K) (enc := money_Of_enc) Tryz.func21 (lps_fn (l := []) (by kernel_rfl) trivial) (dec := money_Of_dec) (fun u r h => by unfold money_Of_dec at h; split at h; (cases h; rfl); cases h) (fun us r h => by unfold money_Of_w at h; split at h; exact ((den2_eq _).symm.trans (money_Of_eq K _ _ _ _ _)).trans h; cases h)
def env_money_Of (K : Nat) : FuncId → Option Vm.Spec := addS (env_money_made K) 21 (money_Of_spec K)
theorem env_money_Of_ok (K : Nat) : EnvOk Tryz.prog (env_money_Of K) := addS_ok (env_money_made_ok K) (.inl ⟨callable Tryz.func21 (by kernel_rfl) (by kernel_rfl), money_Of_ok K⟩)
def money_To_dec : List U → Option (Int × Int × Int × Int) := fun u => match u with | [.i x0_0, .i x0_1, .i x0_2, .i x1] => some (x0_0, x0_1, x0_2, x1) | _ => none
def money_To_enc : (Int × Int × Int × Int) → List U := fun r => [.i r.1, .i r.2.1, .i r.2.2.1, .i r.2.2.2]
def money_To (K : Nat) (x0_0 : Int) (x0_1 : Int) : Option (Int × Int × Int × Int) := ((money_Check K x0_0 x0_1).bind fun r0 => (bi (r0 != 0)
    (some ((0, 0, 0, r0)))
    ((money_figures K x0_0).bind fun r1 => ((dec_Of K x0_1 r1).bind fun r2 => (some ((r2.fst, r2.snd.fst, r2.snd.snd.fst, r2.snd.snd.snd)))))))
theorem money_To_eq (K : Nat) (x0_0 : Int) (x0_1 : Int) : (runF Tryz.prog (env_money_Of K) (lenv0) Tryz.f11 [.agg [.int .i64, .int .i64]] [.agg [.int .i64, .int .u64, .int .i64], .one (.int .i64)] money_To_dec [.i x0_0, .i x0_1]).den2 = money_To K x0_0 x0_1 := by kernel_rfl
def money_To_w (K : Nat) : List U → Option (Int × Int × Int × Int) := fun us => match us with | [.i x0_0, .i x0_1] => money_To K x0_0 x0_1 | _ => none
def money_To_spec (K : Nat) : Vm.Spec := ⟨[.agg [.int .i64, .int .i64]], [.agg [.int .i64, .int .u64, .int .i64], .one (.int .i64)], Int × Int × Int × Int, money_To_w K, money_To_enc⟩
theorem money_To_ok (K : Nat) : FnOk Tryz.prog 11 (money_To_spec K) := fn_ok' hmix (env_money_Of_ok K) (lenv := lenv0) (args := [.agg [.int .i64, .int .i64]]) (res := [.agg [.int .i64, .int .u64, .int .i64], .one (.int .i64)]) (G := money_To_w K) (enc := money_To_enc) Tryz.func11 (lps_fn (l := []) (by kernel_rfl) trivial) (dec := money_To_dec) (fun u r h => by unfold money_To_dec at h; split at h; (cases h; rfl); cases h) (fun us r h => by unfold money_To_w at h; split at h; exact ((den2_eq _).symm.trans (money_To_eq K _ _)).trans h; cases h)
def env_money_To (K : Nat) : FuncId → Option Vm.Spec := addS (env_money_Of K) 11 (money_To_spec K)
theorem env_money_To_ok (K : Nat) : EnvOk Tryz.prog (env_money_To K) := addS_ok (env_money_Of_ok K) (.inl ⟨callable Tryz.func11 (by kernel_rfl) (by kernel_rfl), money_To_ok K⟩)
def money_Write_dec : List U → Option (ByteArray × Int) := fun u => match u with | [.s s0, .i x1] => some (s0, x1) | _ => none
def money_Write_enc : (ByteArray × Int) → List U := fun r => [.s r.1, .i r.2]
def money_Write (K : Nat) (x0_0 : Int) (x0_1 : Int) : Option (ByteArray × Int) := ((money_To K x0_0 x0_1).bind fun r0 => (bi (r0.snd.snd.snd != 0)
    (some (({ data := #[] }, r0.snd.snd.snd)))
    ((digits_Write K r0.fst r0.snd.fst r0.snd.snd.fst).bind fun r1 => ((money_name K x0_0).bind fun r2 => (bi (decide ((↑(ByteArray.size r2 + 1) : Int) > 9223372036854775807))
    none
    (bi (decide ((↑((r2 ++ { data := #[32] }).size + r1.fst.size) : Int) > 9223372036854775807))
    none
    (some ((r2 ++ { data := #[32] } ++ r1.fst, 0)))))))))
theorem money_Write_eq (K : Nat) (x0_0 : Int) (x0_1 : Int) : (runF Tryz.prog (env_money_To K) (lenv0) Tryz.f5 [.agg [.int .i64, .int .i64]] [.one (.str), .one (.int .i64)] money_Write_dec [.i x0_0, .i x0_1]).den2 = money_Write K x0_0 x0_1 := by kernel_rfl
def money_Write_w (K : Nat) : List U → Option (ByteArray × Int) := fun us => match us with | [.i x0_0, .i x0_1] => money_Write K x0_0 x0_1 | _ => none
def money_Write_spec (K : Nat) : Vm.Spec := ⟨[.agg [.int .i64, .int .i64]], [.one (.str), .one (.int .i64)], ByteArray × Int, money_Write_w K, money_Write_enc⟩
theorem money_Write_ok (K : Nat) : FnOk Tryz.prog 5 (money_Write_spec K) := fn_ok' hmix (env_money_To_ok K) (lenv := lenv0) (args := [.agg [.int .i64, .int .i64]]) (res := [.one (.str), .one (.int .i64)]) (G := money_Write_w K) (enc := money_Write_enc) Tryz.func5 (lps_fn (l := []) (by kernel_rfl) trivial) (dec := money_Write_dec) (fun u r h => by unfold money_Write_dec at h; split at h; (cases h; rfl); cases h) (fun us r h => by unfold money_Write_w at h; split at h; exact ((den2_eq _).symm.trans (money_Write_eq K _ _)).trans h; cases h)
def env_money_Write (K : Nat) : FuncId → Option Vm.Spec := addS (env_money_To K) 5 (money_Write_spec K)
theorem env_money_Write_ok (K : Nat) : EnvOk Tryz.prog (env_money_Write K) := addS_ok (env_money_To_ok K) (.inl ⟨callable Tryz.func5 (by kernel_rfl) (by kernel_rfl), money_Write_ok K⟩)
end Go.Proofs.YtfeifhlnidkbbaaGreatDoor.F
