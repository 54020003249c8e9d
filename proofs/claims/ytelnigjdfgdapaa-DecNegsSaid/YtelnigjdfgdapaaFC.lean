import Derived.Test.YtelnigjdfgdapaaVmY
import Derived.Test.YtelnigjdfgdapaaProg
import Derived.Test.YtelnigjdfgdapaaFB
namespace Go.Proofs.Ytelnigjdfgdapaa.F
open Go Go.Proofs.Ytelnigjdfgdapaa.Vm
set_option maxRecDepth 100000
set_option linter.unusedVariables false
-- passbook/passbooklaw01.awake
def law01_awake_dec : List U → Option (Bool) := fun u => match u with | [.b c0] => some (c0) | _ => none
def law01_awake (K : Nat)  : Option (Bool) := ((dec_Add K 0 15 1 0 25 2).bind fun r0 => ((dec_Quo K 0 1 0 0 3 0 4 1).bind fun r1 => ((dec_Rescale K (-1) 18446744073709551591 1 0 2).bind fun r2 => (if (r0.snd.snd.snd == 0) = true then
    (if (r1.snd.snd.snd == 0) = true then
    (if (r2.snd.snd.snd == 0) = true then
    (if (r0.fst == 0 && (r0.snd.fst == 175 && (r0.snd.snd.fst == 2 && Bool.true))) = true then
    (if (r1.fst == 0 && (r1.snd.fst == 3334 && (r1.snd.snd.fst == 4 && Bool.true))) = true then
    (some (r2.fst == -1 && (r2.snd.fst == 18446744073709551613 && (r2.snd.snd.fst == 0 && Bool.true))))
    else (some Bool.false))
    else (some Bool.false))
    else (some Bool.false))
    else (some Bool.false))
    else (some Bool.false)))))
theorem law01_awake_eq (K : Nat)  : (runF Go.Proofs.Try.prog (env_ref01_DocQuo K) (lenv0) Go.Proofs.Try.f17 [] [.one (.bool)] law01_awake_dec []).den = law01_awake K  := by kernel_rfl
def law01_awake_w (K : Nat) : List U → Option (Bool) := fun us => match us with | [] => law01_awake K  | _ => none
def law01_awake_enc : (Bool) → List U := fun r => [.b r]
def law01_awake_spec (K : Nat) : Vm.Spec := ⟨[], [.one (.bool)], Bool, law01_awake_w K, law01_awake_enc⟩
theorem law01_awake_ok (K : Nat) : FnOk Go.Proofs.Try.prog 17 (law01_awake_spec K) := fn_ok' hmix (env_ref01_DocQuo_ok K) (lenv := lenv0) (args := []) (res := [.one (.bool)]) (G := law01_awake_w K) (enc := law01_awake_enc) Go.Proofs.Try.func17 (lps_fn (l := []) (by kernel_rfl) trivial) (dec := law01_awake_dec) (fun u r h => by unfold law01_awake_dec at h; split at h; (obtain rfl := Option.some.inj h; rfl); cases h) (fun us r h => by unfold law01_awake_w at h; split at h; exact (law01_awake_eq K).trans h; cases h)
def env_law01_awake (K : Nat) : FuncId → Option Vm.Spec := addS (env_ref01_DocQuo K) 17 (law01_awake_spec K)
theorem env_law01_awake_ok (K : Nat) : EnvOk Go.Proofs.Try.prog (env_law01_awake K) := addS_ok (env_ref01_DocQuo_ok K) (.inl ⟨callable Go.Proofs.Try.func17 (by kernel_rfl) (by kernel_rfl), law01_awake_ok K⟩)
-- passbook/passbooklaw01.equal
def law01_equal_dec : List U → Option (Bool) := fun u => match u with | [.b c0] => some (c0) | _ => none
def law01_equal (K : Nat) (x0_0 : Int) (x0_1 : Int) (x0_2 : Int) (x1_0 : Int) (x1_1 : Int) (x1_2 : Int) : Option (Bool) := ((dec_Cmp K x0_0 x0_1 x0_2 x1_0 x1_1 x1_2).bind fun r0 => (if (r0.snd == 0) = true then
    (some (r0.fst == 0))
    else (some Bool.false)))
theorem law01_equal_eq (K : Nat) (x0_0 : Int) (x0_1 : Int) (x0_2 : Int) (x1_0 : Int) (x1_1 : Int) (x1_2 : Int) : (runF Go.Proofs.Try.prog (env_law01_awake K) (lenv0) Go.Proofs.Try.f24 [.agg [.int .i64, .int .u64, .int .i64], .agg [.int .i64, .int .u64, .int .i64]] [.one (.bool)] law01_equal_dec [.i x0_0, .i x0_1, .i x0_2, .i x1_0, .i x1_1, .i x1_2]).den = law01_equal K x0_0 x0_1 x0_2 x1_0 x1_1 x1_2 := by kernel_rfl
def law01_equal_w (K : Nat) : List U → Option (Bool) := fun us => match us with | [.i x0_0, .i x0_1, .i x0_2, .i x1_0, .i x1_1, .i x1_2] => law01_equal K x0_0 x0_1 x0_2 x1_0 x1_1 x1_2 | _ => none
def law01_equal_enc : (Bool) → List U := fun r => [.b r]
def law01_equal_spec (K : Nat) : Vm.Spec := ⟨[.agg [.int .i64, .int .u64, .int .i64], .agg [.int .i64, .int .u64, .int .i64]], [.one (.bool)], Bool, law01_equal_w K, law01_equal_enc⟩
theorem law01_equal_ok (K : Nat) : FnOk Go.Proofs.Try.prog 24 (law01_equal_spec K) := fn_ok' hmix (env_law01_awake_ok K) (lenv := lenv0) (args := [.agg [.int .i64, .int .u64, .int .i64], .agg [.int .i64, .int .u64, .int .i64]]) (res := [.one (.bool)]) (G := law01_equal_w K) (enc := law01_equal_enc) Go.Proofs.Try.func24 (lps_fn (l := []) (by kernel_rfl) trivial) (dec := law01_equal_dec) (fun u r h => by unfold law01_equal_dec at h; split at h; (obtain rfl := Option.some.inj h; rfl); cases h) (fun us r h => by unfold law01_equal_w at h; split at h; exact (law01_equal_eq K _ _ _ _ _ _).trans h; cases h)
def env_law01_equal (K : Nat) : FuncId → Option Vm.Spec := addS (env_law01_awake K) 24 (law01_equal_spec K)
theorem env_law01_equal_ok (K : Nat) : EnvOk Go.Proofs.Try.prog (env_law01_equal K) := addS_ok (env_law01_awake_ok K) (.inl ⟨callable Go.Proofs.Try.func24 (by kernel_rfl) (by kernel_rfl), law01_equal_ok K⟩)
-- passbook/passbooklaw01.DecRounds
def law01_DecRounds_dec : List U → Option (Bool) := fun u => match u with | [.b c0] => some (c0) | _ => none
def law01_DecRounds (K : Nat) (x0_0 : Int) (x0_1 : Int) (x0_2 : Int) (x1 : Int) (x2 : Int) : Option (Bool) := ((dec_Rescale K x0_0 x0_1 x0_2 x1 x2).bind fun r0 => ((ref01_DocRescale K x0_0 x0_1 x0_2 x1 x2).bind fun r1 => ((law01_awake K).bind fun r2 => (if (r2) = true then
    (if (r0.fst == r1.fst && (r0.snd.fst == r1.snd.fst && (r0.snd.snd.fst == r1.snd.snd.fst && Bool.true))) = true then
    (some (r0.snd.snd.snd == r1.snd.snd.snd))
    else (some Bool.false))
    else (some Bool.false)))))
theorem law01_DecRounds_eq (K : Nat) (x0_0 : Int) (x0_1 : Int) (x0_2 : Int) (x1 : Int) (x2 : Int) : (runF Go.Proofs.Try.prog (env_law01_equal K) (lenv0) Go.Proofs.Try.f3 [.agg [.int .i64, .int .u64, .int .i64], .one (.int .i64), .one (.int .i64)] [.one (.bool)] law01_DecRounds_dec [.i x0_0, .i x0_1, .i x0_2, .i x1, .i x2]).den = law01_DecRounds K x0_0 x0_1 x0_2 x1 x2 := by kernel_rfl
def law01_DecRounds_w (K : Nat) : List U → Option (Bool) := fun us => match us with | [.i x0_0, .i x0_1, .i x0_2, .i x1, .i x2] => law01_DecRounds K x0_0 x0_1 x0_2 x1 x2 | _ => none
def law01_DecRounds_enc : (Bool) → List U := fun r => [.b r]
def law01_DecRounds_spec (K : Nat) : Vm.Spec := ⟨[.agg [.int .i64, .int .u64, .int .i64], .one (.int .i64), .one (.int .i64)], [.one (.bool)], Bool, law01_DecRounds_w K, law01_DecRounds_enc⟩
theorem law01_DecRounds_ok (K : Nat) : FnOk Go.Proofs.Try.prog 3 (law01_DecRounds_spec K) := fn_ok' hmix (env_law01_equal_ok K) (lenv := lenv0) (args := [.agg [.int .i64, .int .u64, .int .i64], .one (.int .i64), .one (.int .i64)]) (res := [.one (.bool)]) (G := law01_DecRounds_w K) (enc := law01_DecRounds_enc) Go.Proofs.Try.func3 (lps_fn (l := []) (by kernel_rfl) trivial) (dec := law01_DecRounds_dec) (fun u r h => by unfold law01_DecRounds_dec at h; split at h; (obtain rfl := Option.some.inj h; rfl); cases h) (fun us r h => by unfold law01_DecRounds_w at h; split at h; exact (law01_DecRounds_eq K _ _ _ _ _).trans h; cases h)
def env_law01_DecRounds (K : Nat) : FuncId → Option Vm.Spec := addS (env_law01_equal K) 3 (law01_DecRounds_spec K)
theorem env_law01_DecRounds_ok (K : Nat) : EnvOk Go.Proofs.Try.prog (env_law01_DecRounds K) := addS_ok (env_law01_equal_ok K) (.inl ⟨callable Go.Proofs.Try.func3 (by kernel_rfl) (by kernel_rfl), law01_DecRounds_ok K⟩)
-- passbook/passbooklaw01.DecQuotients
def law01_DecQuotients_dec : List U → Option (Bool) := fun u => match u with | [.b c0] => some (c0) | _ => none
def law01_DecQuotients (K : Nat) (x0_0 : Int) (x0_1 : Int) (x0_2 : Int) (x1_0 : Int) (x1_1 : Int) (x1_2 : Int) (x2 : Int) (x3 : Int) : Option (Bool) := ((dec_Quo K x0_0 x0_1 x0_2 x1_0 x1_1 x1_2 x2 x3).bind fun r0 => ((ref01_DocQuo K x0_0 x0_1 x0_2 x1_0 x1_1 x1_2 x2 x3).bind fun r1 => ((law01_awake K).bind fun r2 => (if (r2) = true then
    (if (r0.fst == r1.fst && (r0.snd.fst == r1.snd.fst && (r0.snd.snd.fst == r1.snd.snd.fst && Bool.true))) = true then
    (some (r0.snd.snd.snd == r1.snd.snd.snd))
    else (some Bool.false))
    else (some Bool.false)))))
theorem law01_DecQuotients_eq (K : Nat) (x0_0 : Int) (x0_1 : Int) (x0_2 : Int) (x1_0 : Int) (x1_1 : Int) (x1_2 : Int) (x2 : Int) (x3 : Int) : (runF Go.Proofs.Try.prog (env_law01_DecRounds K) (lenv0) Go.Proofs.Try.f4 [.agg [.int .i64, .int .u64, .int .i64], .agg [.int .i64, .int .u64, .int .i64], .one (.int .i64), .one (.int .i64)] [.one (.bool)] law01_DecQuotients_dec [.i x0_0, .i x0_1, .i x0_2, .i x1_0, .i x1_1, .i x1_2, .i x2, .i x3]).den = law01_DecQuotients K x0_0 x0_1 x0_2 x1_0 x1_1 x1_2 x2 x3 := by kernel_rfl
def law01_DecQuotients_w (K : Nat) : List U → Option (Bool) := fun us => match us with | [.i x0_0, .i x0_1, .i x0_2, .i x1_0, .i x1_1, .i x1_2, .i x2, .i x3] => law01_DecQuotients K x0_0 x0_1 x0_2 x1_0 x1_1 x1_2 x2 x3 | _ => none
def law01_DecQuotients_enc : (Bool) → List U := fun r => [.b r]
def law01_DecQuotients_spec (K : Nat) : Vm.Spec := ⟨[.agg [.int .i64, .int .u64, .int .i64], .agg [.int .i64, .int .u64, .int .i64], .one (.int .i64), .one (.int .i64)], [.one (.bool)], Bool, law01_DecQuotients_w K, law01_DecQuotients_enc⟩
theorem law01_DecQuotients_ok (K : Nat) : FnOk Go.Proofs.Try.prog 4 (law01_DecQuotients_spec K) := fn_ok' hmix (env_law01_DecRounds_ok K) (lenv := lenv0) (args := [.agg [.int .i64, .int .u64, .int .i64], .agg [.int .i64, .int .u64, .int .i64], .one (.int .i64), .one (.int .i64)]) (res := [.one (.bool)]) (G := law01_DecQuotients_w K) (enc := law01_DecQuotients_enc) Go.Proofs.Try.func4 (lps_fn (l := []) (by kernel_rfl) trivial) (dec := law01_DecQuotients_dec) (fun u r h => by unfold law01_DecQuotients_dec at h; split at h; (obtain rfl := Option.some.inj h; rfl); cases h) (fun us r h => by unfold law01_DecQuotients_w at h; split at h; exact (law01_DecQuotients_eq K _ _ _ _ _ _ _ _).trans h; cases h)
def env_law01_DecQuotients (K : Nat) : FuncId → Option Vm.Spec := addS (env_law01_DecRounds K) 4 (law01_DecQuotients_spec K)
theorem env_law01_DecQuotients_ok (K : Nat) : EnvOk Go.Proofs.Try.prog (env_law01_DecQuotients K) := addS_ok (env_law01_DecRounds_ok K) (.inl ⟨callable Go.Proofs.Try.func4 (by kernel_rfl) (by kernel_rfl), law01_DecQuotients_ok K⟩)
-- passbook/passbooklaw01.DecProducts
def law01_DecProducts_dec : List U → Option (Bool) := fun u => match u with | [.b c0] => some (c0) | _ => none
def law01_DecProducts (K : Nat) (x0_0 : Int) (x0_1 : Int) (x0_2 : Int) (x1_0 : Int) (x1_1 : Int) (x1_2 : Int) (x2 : Int) (x3 : Int) : Option (Bool) := ((dec_Mul K x0_0 x0_1 x0_2 x1_0 x1_1 x1_2 x2 x3).bind fun r0 => ((ref01_DocMul K x0_0 x0_1 x0_2 x1_0 x1_1 x1_2 x2 x3).bind fun r1 => ((law01_awake K).bind fun r2 => (if (r2) = true then
    (if (r0.fst == r1.fst && (r0.snd.fst == r1.snd.fst && (r0.snd.snd.fst == r1.snd.snd.fst && Bool.true))) = true then
    (some (r0.snd.snd.snd == r1.snd.snd.snd))
    else (some Bool.false))
    else (some Bool.false)))))
theorem law01_DecProducts_eq (K : Nat) (x0_0 : Int) (x0_1 : Int) (x0_2 : Int) (x1_0 : Int) (x1_1 : Int) (x1_2 : Int) (x2 : Int) (x3 : Int) : (runF Go.Proofs.Try.prog (env_law01_DecQuotients K) (lenv0) Go.Proofs.Try.f5 [.agg [.int .i64, .int .u64, .int .i64], .agg [.int .i64, .int .u64, .int .i64], .one (.int .i64), .one (.int .i64)] [.one (.bool)] law01_DecProducts_dec [.i x0_0, .i x0_1, .i x0_2, .i x1_0, .i x1_1, .i x1_2, .i x2, .i x3]).den = law01_DecProducts K x0_0 x0_1 x0_2 x1_0 x1_1 x1_2 x2 x3 := by kernel_rfl
def law01_DecProducts_w (K : Nat) : List U → Option (Bool) := fun us => match us with | [.i x0_0, .i x0_1, .i x0_2, .i x1_0, .i x1_1, .i x1_2, .i x2, .i x3] => law01_DecProducts K x0_0 x0_1 x0_2 x1_0 x1_1 x1_2 x2 x3 | _ => none
def law01_DecProducts_enc : (Bool) → List U := fun r => [.b r]
def law01_DecProducts_spec (K : Nat) : Vm.Spec := ⟨[.agg [.int .i64, .int .u64, .int .i64], .agg [.int .i64, .int .u64, .int .i64], .one (.int .i64), .one (.int .i64)], [.one (.bool)], Bool, law01_DecProducts_w K, law01_DecProducts_enc⟩
theorem law01_DecProducts_ok (K : Nat) : FnOk Go.Proofs.Try.prog 5 (law01_DecProducts_spec K) := fn_ok' hmix (env_law01_DecQuotients_ok K) (lenv := lenv0) (args := [.agg [.int .i64, .int .u64, .int .i64], .agg [.int .i64, .int .u64, .int .i64], .one (.int .i64), .one (.int .i64)]) (res := [.one (.bool)]) (G := law01_DecProducts_w K) (enc := law01_DecProducts_enc) Go.Proofs.Try.func5 (lps_fn (l := []) (by kernel_rfl) trivial) (dec := law01_DecProducts_dec) (fun u r h => by unfold law01_DecProducts_dec at h; split at h; (obtain rfl := Option.some.inj h; rfl); cases h) (fun us r h => by unfold law01_DecProducts_w at h; split at h; exact (law01_DecProducts_eq K _ _ _ _ _ _ _ _).trans h; cases h)
def env_law01_DecProducts (K : Nat) : FuncId → Option Vm.Spec := addS (env_law01_DecQuotients K) 5 (law01_DecProducts_spec K)
theorem env_law01_DecProducts_ok (K : Nat) : EnvOk Go.Proofs.Try.prog (env_law01_DecProducts K) := addS_ok (env_law01_DecQuotients_ok K) (.inl ⟨callable Go.Proofs.Try.func5 (by kernel_rfl) (by kernel_rfl), law01_DecProducts_ok K⟩)
-- passbook/passbooklaw01.DecWholes
def law01_DecWholes_dec : List U → Option (Bool) := fun u => match u with | [.b c0] => some (c0) | _ => none
def law01_DecWholes (K : Nat) (x0 : Int) (x1 : Int) (x2_0 : Int) (x2_1 : Int) (x2_2 : Int) : Option (Bool) := ((dec_Of K x0 x1).bind fun r0 => ((ref01_DocOf K x0 x1).bind fun r1 => ((dec_Int K x2_0 x2_1 x2_2).bind fun r2 => ((ref01_DocInt K x2_0 x2_1 x2_2).bind fun r3 => ((law01_awake K).bind fun r4 => (if (r4) = true then
    (if (r0.fst == r1.fst && (r0.snd.fst == r1.snd.fst && (r0.snd.snd.fst == r1.snd.snd.fst && Bool.true))) = true then
    (if (r0.snd.snd.snd == r1.snd.snd.snd) = true then
    (if (r2.fst == r3.fst) = true then
    (some (r2.snd == r3.snd))
    else (some Bool.false))
    else (some Bool.false))
    else (some Bool.false))
    else (some Bool.false)))))))
theorem law01_DecWholes_eq (K : Nat) (x0 : Int) (x1 : Int) (x2_0 : Int) (x2_1 : Int) (x2_2 : Int) : (runF Go.Proofs.Try.prog (env_law01_DecProducts K) (lenv0) Go.Proofs.Try.f9 [.one (.int .i64), .one (.int .i64), .agg [.int .i64, .int .u64, .int .i64]] [.one (.bool)] law01_DecWholes_dec [.i x0, .i x1, .i x2_0, .i x2_1, .i x2_2]).den = law01_DecWholes K x0 x1 x2_0 x2_1 x2_2 := by kernel_rfl
def law01_DecWholes_w (K : Nat) : List U → Option (Bool) := fun us => match us with | [.i x0, .i x1, .i x2_0, .i x2_1, .i x2_2] => law01_DecWholes K x0 x1 x2_0 x2_1 x2_2 | _ => none
def law01_DecWholes_enc : (Bool) → List U := fun r => [.b r]
def law01_DecWholes_spec (K : Nat) : Vm.Spec := ⟨[.one (.int .i64), .one (.int .i64), .agg [.int .i64, .int .u64, .int .i64]], [.one (.bool)], Bool, law01_DecWholes_w K, law01_DecWholes_enc⟩
theorem law01_DecWholes_ok (K : Nat) : FnOk Go.Proofs.Try.prog 9 (law01_DecWholes_spec K) := fn_ok' hmix (env_law01_DecProducts_ok K) (lenv := lenv0) (args := [.one (.int .i64), .one (.int .i64), .agg [.int .i64, .int .u64, .int .i64]]) (res := [.one (.bool)]) (G := law01_DecWholes_w K) (enc := law01_DecWholes_enc) Go.Proofs.Try.func9 (lps_fn (l := []) (by kernel_rfl) trivial) (dec := law01_DecWholes_dec) (fun u r h => by unfold law01_DecWholes_dec at h; split at h; (obtain rfl := Option.some.inj h; rfl); cases h) (fun us r h => by unfold law01_DecWholes_w at h; split at h; exact (law01_DecWholes_eq K _ _ _ _ _).trans h; cases h)
def env_law01_DecWholes (K : Nat) : FuncId → Option Vm.Spec := addS (env_law01_DecProducts K) 9 (law01_DecWholes_spec K)
theorem env_law01_DecWholes_ok (K : Nat) : EnvOk Go.Proofs.Try.prog (env_law01_DecWholes K) := addS_ok (env_law01_DecProducts_ok K) (.inl ⟨callable Go.Proofs.Try.func9 (by kernel_rfl) (by kernel_rfl), law01_DecWholes_ok K⟩)
-- passbook/passbooklaw01.DecBack
def law01_DecBack_l9_pre : Vm.Pat := ⟨95, [(1, .pv (.one (.int .i32))), (2, .pv (.one (.int .i64))), (43, .pv (.one (.int .i64))), (7, .box 0 0), (9, .box 1 0)], [.cells [.int .i64, .int .u64, .int .i64], .cells [.int .i64, .int .u64, .int .i64]]⟩
def law01_DecBack_l9_post0 : Vm.Pat := ⟨95, [], []⟩
def law01_DecBack_l9_enc0 : Unit → List U := fun _ => []
def law01_DecBack_l9_dec0 : List U → Option (Unit) := fun u => match u with | [] => some () | _ => none
def law01_DecBack_l9_post1 : Vm.Pat := ⟨95, [(6, .pv (.one (.bool)))], []⟩
def law01_DecBack_l9_enc1 : Bool → List U := fun r => [.b r]
def law01_DecBack_l9_dec1 : List U → Option (Bool) := fun u => match u with | [.b c6] => some (c6) | _ => none
def law01_DecBack_l9 (K : Nat) : Nat → Int → Int → Int → Int → Int → Int → Int → Int → Int → Option ((Unit) ⊕ (Bool))
  | 0, _, _, _, _, _, _, _, _, _ => none
  | k + 1, x1, x2, x43, x7_0, x7_1, x7_2, x9_0, x9_1, x9_2 => (if (Decidable.decide (x43 < 7)) = true then
    ((dec_Mul K x7_0 x7_1 x7_2 x9_0 x9_1 x9_2 x2 x43).bind fun r0 => (if (r0.snd.snd.snd != 0) = true then
    (some (Sum.inr Bool.false))
    else (if (x1 == 0) = true then
    ((dec_Quo K r0.fst r0.snd.fst r0.snd.snd.fst x9_0 x9_1 x9_2 x2 x43).bind fun r1 => (if (r1.snd.snd.snd != 5) = true then
    (some (Sum.inr Bool.false))
    else (if (!(r1.fst == 0 && (r1.snd.fst == 0 && (r1.snd.snd.fst == 0 && Bool.true)))) = true then
    (some (Sum.inr Bool.false))
    else (if (!(r0.fst == 0 && (r0.snd.fst == 0 && (r0.snd.snd.fst == x2 && Bool.true)))) = true then
    (some (Sum.inr Bool.false))
    else (law01_DecBack_l9 K k (x1) (x2) (Go.IntKind.i64.wrap (x43 + 1)) (x7_0) (x7_1) (x7_2) (x9_0) (x9_1) (x9_2))))))
    else ((dec_Quo K r0.fst r0.snd.fst r0.snd.snd.fst x9_0 x9_1 x9_2 x2 x43).bind fun r2 => (if (r2.snd.snd.snd != 0) = true then
    (some (Sum.inr Bool.false))
    else (if (!(r2.fst == x7_0 && (r2.snd.fst == x7_1 && (r2.snd.snd.fst == x7_2 && Bool.true)))) = true then
    (some (Sum.inr Bool.false))
    else (law01_DecBack_l9 K k (x1) (x2) (Go.IntKind.i64.wrap (x43 + 1)) (x7_0) (x7_1) (x7_2) (x9_0) (x9_1) (x9_2))))))))
    else (some (Sum.inl ())))
def law01_DecBack_l9_w (K k : Nat) : List U → Option ((Unit) ⊕ (Bool)) := fun us => match us with | [.i x1, .i x2, .i x43, .i x7_0, .i x7_1, .i x7_2, .i x9_0, .i x9_1, .i x9_2] => law01_DecBack_l9 K k x1 x2 x43 x7_0 x7_1 x7_2 x9_0 x9_1 x9_2 | _ => none
theorem law01_DecBack_l9_eq (K k : Nat) (x1 : Int) (x2 : Int) (x43 : Int) (x7_0 : Int) (x7_1 : Int) (x7_2 : Int) (x9_0 : Int) (x9_1 : Int) (x9_2 : Int) : (round2 Go.Proofs.Try.prog (env_law01_DecWholes K) (lenv0) (lp (bodyOf Go.Proofs.Try.f6) 0) law01_DecBack_l9_pre (.exit 0) law01_DecBack_l9_post0 .ret law01_DecBack_l9_post1 law01_DecBack_l9_dec0 law01_DecBack_l9_dec1 (law01_DecBack_l9_w K k) [.i x1, .i x2, .i x43, .i x7_0, .i x7_1, .i x7_2, .i x9_0, .i x9_1, .i x9_2]).den = law01_DecBack_l9 K (k + 1) x1 x2 x43 x7_0 x7_1 x7_2 x9_0 x9_1 x9_2 := by kernel_rfl
def law01_DecBack_l9_s (K : Nat) : Vm.LS := .two law01_DecBack_l9_pre _ _ (.exit 0) law01_DecBack_l9_post0 .ret law01_DecBack_l9_post1 (law01_DecBack_l9_w K K) law01_DecBack_l9_enc0 law01_DecBack_l9_enc1
theorem law01_DecBack_l9_ok (K : Nat) : LoopOk Go.Proofs.Try.prog (lp (bodyOf Go.Proofs.Try.f6) 0) (law01_DecBack_l9_s K) := loop_two hmix (env_law01_DecWholes_ok K) (lenv := lenv0) (L := law01_DecBack_l9_w K) (enc := law01_DecBack_l9_enc0) (dec := law01_DecBack_l9_dec0) (enc' := law01_DecBack_l9_enc1) (dec' := law01_DecBack_l9_dec1) (lps_ok (l := []) (by kernel_rfl) trivial) (fun u r h => by unfold law01_DecBack_l9_dec0 at h; split at h; (obtain rfl := Option.some.inj h; rfl); cases h) (fun u r h => by unfold law01_DecBack_l9_dec1 at h; split at h; (obtain rfl := Option.some.inj h; rfl); cases h) (fun us => by unfold law01_DecBack_l9_w; split <;> first | rfl | (simp only [law01_DecBack_l9])) (fun k us r h => by unfold law01_DecBack_l9_w at h; split at h; exact (law01_DecBack_l9_eq K k _ _ _ _ _ _ _ _ _).trans h; cases h) K
def law01_DecBack_v9 (K : Nat) : Nat → Option Vm.LS := addL (lenv0) 9 (law01_DecBack_l9_s K)
def law01_DecBack_dec : List U → Option (Bool) := fun u => match u with | [.b c0] => some (c0) | _ => none
def law01_DecBack (K : Nat) (x0 : Int) (x1 : Int) (x2 : Int) : Option (Bool) := ((law01_awake K).bind fun r0 => (if (!r0) = true then
    (some Bool.false)
    else ((dec_Of K (Go.IntKind.i64.wrap x0) (Go.IntKind.i64.wrap ((Go.IntKind.u64.wrap x2).tmod 10))).bind fun r1 => ((dec_Of K (Go.IntKind.i64.wrap x1) 0).bind fun r2 => (if (r1.snd.snd.snd != 0) = true then
    (some Bool.false)
    else (if (r2.snd.snd.snd != 0) = true then
    (some Bool.false)
    else (casO (law01_DecBack_l9 K K x1 (Go.IntKind.i64.wrap ((Go.IntKind.u64.wrap x2).tmod 10)) 0 r1.fst
  r1.snd.fst r1.snd.snd.fst r2.fst r2.snd.fst r2.snd.snd.fst) (fun r3 => (some Bool.true)) (fun r4 => (some r4)))))))))
theorem law01_DecBack_eq (K : Nat) (x0 : Int) (x1 : Int) (x2 : Int) : (runF Go.Proofs.Try.prog (env_law01_DecWholes K) (law01_DecBack_v9 K) Go.Proofs.Try.f6 [.one (.int .i32), .one (.int .i32), .one (.int .i64)] [.one (.bool)] law01_DecBack_dec [.i x0, .i x1, .i x2]).den = law01_DecBack K x0 x1 x2 := by kernel_rfl
def law01_DecBack_w (K : Nat) : List U → Option (Bool) := fun us => match us with | [.i x0, .i x1, .i x2] => law01_DecBack K x0 x1 x2 | _ => none
def law01_DecBack_enc : (Bool) → List U := fun r => [.b r]
def law01_DecBack_spec (K : Nat) : Vm.Spec := ⟨[.one (.int .i32), .one (.int .i32), .one (.int .i64)], [.one (.bool)], Bool, law01_DecBack_w K, law01_DecBack_enc⟩
theorem law01_DecBack_ok (K : Nat) : FnOk Go.Proofs.Try.prog 6 (law01_DecBack_spec K) := fn_ok' hmix (env_law01_DecWholes_ok K) (lenv := law01_DecBack_v9 K) (args := [.one (.int .i32), .one (.int .i32), .one (.int .i64)]) (res := [.one (.bool)]) (G := law01_DecBack_w K) (enc := law01_DecBack_enc) Go.Proofs.Try.func6 (lps_fn (l := [lp (bodyOf Go.Proofs.Try.f6) 0]) (by kernel_rfl) ⟨⟨9, law01_DecBack_l9_s K, by kernel_rfl, by kernel_rfl, law01_DecBack_l9_ok K⟩, trivial⟩) (dec := law01_DecBack_dec) (fun u r h => by unfold law01_DecBack_dec at h; split at h; (obtain rfl := Option.some.inj h; rfl); cases h) (fun us r h => by unfold law01_DecBack_w at h; split at h; exact (law01_DecBack_eq K _ _ _).trans h; cases h)
def env_law01_DecBack (K : Nat) : FuncId → Option Vm.Spec := addS (env_law01_DecWholes K) 6 (law01_DecBack_spec K)
theorem env_law01_DecBack_ok (K : Nat) : EnvOk Go.Proofs.Try.prog (env_law01_DecBack K) := addS_ok (env_law01_DecWholes_ok K) (.inl ⟨callable Go.Proofs.Try.func6 (by kernel_rfl) (by kernel_rfl), law01_DecBack_ok K⟩)
-- passbook/passbooklaw01.DecSpread
def law01_DecSpread_l11_pre : Vm.Pat := ⟨138, [(19, .pv (.one (.int .i64))), (85, .pv (.one (.int .i64))), (11, .box 0 0), (13, .box 1 0), (15, .box 2 0), (17, .box 3 0)], [.cells [.int .i64, .int .u64, .int .i64], .cells [.int .i64, .int .u64, .int .i64], .cells [.int .i64, .int .u64, .int .i64], .cells [.int .i64, .int .u64, .int .i64]]⟩
def law01_DecSpread_l11_post0 : Vm.Pat := ⟨138, [], []⟩
def law01_DecSpread_l11_enc0 : Unit → List U := fun _ => []
def law01_DecSpread_l11_dec0 : List U → Option (Unit) := fun u => match u with | [] => some () | _ => none
def law01_DecSpread_l11_post1 : Vm.Pat := ⟨138, [(10, .pv (.one (.bool)))], []⟩
def law01_DecSpread_l11_enc1 : Bool → List U := fun r => [.b r]
def law01_DecSpread_l11_dec1 : List U → Option (Bool) := fun u => match u with | [.b c10] => some (c10) | _ => none
def law01_DecSpread_l11 (K : Nat) : Nat → Int → Int → Int → Int → Int → Int → Int → Int → Int → Int → Int → Int → Int → Int → Option ((Unit) ⊕ (Bool))
  | 0, _, _, _, _, _, _, _, _, _, _, _, _, _, _ => none
  | k + 1, x19, x85, x11_0, x11_1, x11_2, x13_0, x13_1, x13_2, x15_0, x15_1, x15_2, x17_0, x17_1, x17_2 => (if (Decidable.decide (x85 < 7)) = true then
    ((dec_Mul K x17_0 x17_1 x17_2 x15_0 x15_1 x15_2 x19 x85).bind fun r0 => ((dec_Mul K x11_0 x11_1 x11_2 x15_0 x15_1 x15_2 x19 x85).bind fun r1 => ((dec_Mul K x13_0 x13_1 x13_2 x15_0 x15_1 x15_2 x19 x85).bind fun r2 => ((dec_Add K r1.fst r1.snd.fst r1.snd.snd.fst r2.fst r2.snd.fst r2.snd.snd.fst).bind fun r3 => (if (r0.snd.snd.snd != 0) = true then
    (some (Sum.inr Bool.false))
    else (if (r1.snd.snd.snd != 0) = true then
    (some (Sum.inr Bool.false))
    else (if (r2.snd.snd.snd != 0) = true then
    (some (Sum.inr Bool.false))
    else (if (r3.snd.snd.snd != 0) = true then
    (some (Sum.inr Bool.false))
    else (if (!(r0.fst == r3.fst && (r0.snd.fst == r3.snd.fst && (r0.snd.snd.fst == r3.snd.snd.fst && Bool.true)))) = true then
    (some (Sum.inr Bool.false))
    else (law01_DecSpread_l11 K k (x19) (Go.IntKind.i64.wrap (x85 + 1)) (x11_0) (x11_1) (x11_2) (x13_0) (x13_1) (x13_2) (x15_0) (x15_1) (x15_2) (x17_0) (x17_1) (x17_2)))))))))))
    else (some (Sum.inl ())))
def law01_DecSpread_l11_w (K k : Nat) : List U → Option ((Unit) ⊕ (Bool)) := fun us => match us with | [.i x19, .i x85, .i x11_0, .i x11_1, .i x11_2, .i x13_0, .i x13_1, .i x13_2, .i x15_0, .i x15_1, .i x15_2, .i x17_0, .i x17_1, .i x17_2] => law01_DecSpread_l11 K k x19 x85 x11_0 x11_1 x11_2 x13_0 x13_1 x13_2 x15_0 x15_1 x15_2 x17_0 x17_1 x17_2 | _ => none
theorem law01_DecSpread_l11_eq (K k : Nat) (x19 : Int) (x85 : Int) (x11_0 : Int) (x11_1 : Int) (x11_2 : Int) (x13_0 : Int) (x13_1 : Int) (x13_2 : Int) (x15_0 : Int) (x15_1 : Int) (x15_2 : Int) (x17_0 : Int) (x17_1 : Int) (x17_2 : Int) : (round2 Go.Proofs.Try.prog (env_law01_DecBack K) (lenv0) (lp (bodyOf Go.Proofs.Try.f8) 0) law01_DecSpread_l11_pre (.exit 0) law01_DecSpread_l11_post0 .ret law01_DecSpread_l11_post1 law01_DecSpread_l11_dec0 law01_DecSpread_l11_dec1 (law01_DecSpread_l11_w K k) [.i x19, .i x85, .i x11_0, .i x11_1, .i x11_2, .i x13_0, .i x13_1, .i x13_2, .i x15_0, .i x15_1, .i x15_2, .i x17_0, .i x17_1, .i x17_2]).den = law01_DecSpread_l11 K (k + 1) x19 x85 x11_0 x11_1 x11_2 x13_0 x13_1 x13_2 x15_0 x15_1 x15_2 x17_0 x17_1 x17_2 := by kernel_rfl
def law01_DecSpread_l11_s (K : Nat) : Vm.LS := .two law01_DecSpread_l11_pre _ _ (.exit 0) law01_DecSpread_l11_post0 .ret law01_DecSpread_l11_post1 (law01_DecSpread_l11_w K K) law01_DecSpread_l11_enc0 law01_DecSpread_l11_enc1
theorem law01_DecSpread_l11_ok (K : Nat) : LoopOk Go.Proofs.Try.prog (lp (bodyOf Go.Proofs.Try.f8) 0) (law01_DecSpread_l11_s K) := loop_two hmix (env_law01_DecBack_ok K) (lenv := lenv0) (L := law01_DecSpread_l11_w K) (enc := law01_DecSpread_l11_enc0) (dec := law01_DecSpread_l11_dec0) (enc' := law01_DecSpread_l11_enc1) (dec' := law01_DecSpread_l11_dec1) (lps_ok (l := []) (by kernel_rfl) trivial) (fun u r h => by unfold law01_DecSpread_l11_dec0 at h; split at h; (obtain rfl := Option.some.inj h; rfl); cases h) (fun u r h => by unfold law01_DecSpread_l11_dec1 at h; split at h; (obtain rfl := Option.some.inj h; rfl); cases h) (fun us => by unfold law01_DecSpread_l11_w; split <;> first | rfl | (simp only [law01_DecSpread_l11])) (fun k us r h => by unfold law01_DecSpread_l11_w at h; split at h; exact (law01_DecSpread_l11_eq K k _ _ _ _ _ _ _ _ _ _ _ _ _ _).trans h; cases h) K
def law01_DecSpread_v11 (K : Nat) : Nat → Option Vm.LS := addL (lenv0) 11 (law01_DecSpread_l11_s K)
def law01_DecSpread_dec : List U → Option (Bool) := fun u => match u with | [.b c0] => some (c0) | _ => none
def law01_DecSpread (K : Nat) (x0 : Int) (x1 : Int) (x2 : Int) (x3 : Int) (x4 : Int) : Option (Bool) := ((law01_awake K).bind fun r0 => (if (!r0) = true then
    (some Bool.false)
    else ((dec_Of K (Go.IntKind.i64.wrap x0) (Go.IntKind.i64.wrap (x3.tmod 10))).bind fun r1 => ((dec_Of K (Go.IntKind.i64.wrap x1) (Go.IntKind.i64.wrap (x3.tmod 10))).bind fun r2 => ((dec_Of K (Go.IntKind.i64.wrap x2) (Go.IntKind.i64.wrap (x4.tmod 9))).bind fun r3 => ((dec_Add K r1.fst r1.snd.fst r1.snd.snd.fst r2.fst r2.snd.fst r2.snd.snd.fst).bind fun r4 => (if (r1.snd.snd.snd != 0) = true then
    (some Bool.false)
    else (if (r2.snd.snd.snd != 0) = true then
    (some Bool.false)
    else (if (r3.snd.snd.snd != 0) = true then
    (some Bool.false)
    else (if (r4.snd.snd.snd != 0) = true then
    (some Bool.false)
    else (casO (law01_DecSpread_l11 K K
  (Go.IntKind.i64.wrap (Go.IntKind.i64.wrap (x3.tmod 10) + Go.IntKind.i64.wrap (x4.tmod 9))) 0 r1.fst r1.snd.fst
  r1.snd.snd.fst r2.fst r2.snd.fst r2.snd.snd.fst r3.fst r3.snd.fst r3.snd.snd.fst r4.fst r4.snd.fst r4.snd.snd.fst) (fun r5 => (some Bool.true)) (fun r6 => (some r6)))))))))))))
theorem law01_DecSpread_eq (K : Nat) (x0 : Int) (x1 : Int) (x2 : Int) (x3 : Int) (x4 : Int) : (runF Go.Proofs.Try.prog (env_law01_DecBack K) (law01_DecSpread_v11 K) Go.Proofs.Try.f8 [.one (.int .i32), .one (.int .i32), .one (.int .i32), .one (.int .u8), .one (.int .u8)] [.one (.bool)] law01_DecSpread_dec [.i x0, .i x1, .i x2, .i x3, .i x4]).den = law01_DecSpread K x0 x1 x2 x3 x4 := by kernel_rfl
def law01_DecSpread_w (K : Nat) : List U → Option (Bool) := fun us => match us with | [.i x0, .i x1, .i x2, .i x3, .i x4] => law01_DecSpread K x0 x1 x2 x3 x4 | _ => none
def law01_DecSpread_enc : (Bool) → List U := fun r => [.b r]
def law01_DecSpread_spec (K : Nat) : Vm.Spec := ⟨[.one (.int .i32), .one (.int .i32), .one (.int .i32), .one (.int .u8), .one (.int .u8)], [.one (.bool)], Bool, law01_DecSpread_w K, law01_DecSpread_enc⟩
theorem law01_DecSpread_ok (K : Nat) : FnOk Go.Proofs.Try.prog 8 (law01_DecSpread_spec K) := fn_ok' hmix (env_law01_DecBack_ok K) (lenv := law01_DecSpread_v11 K) (args := [.one (.int .i32), .one (.int .i32), .one (.int .i32), .one (.int .u8), .one (.int .u8)]) (res := [.one (.bool)]) (G := law01_DecSpread_w K) (enc := law01_DecSpread_enc) Go.Proofs.Try.func8 (lps_fn (l := [lp (bodyOf Go.Proofs.Try.f8) 0]) (by kernel_rfl) ⟨⟨11, law01_DecSpread_l11_s K, by kernel_rfl, by kernel_rfl, law01_DecSpread_l11_ok K⟩, trivial⟩) (dec := law01_DecSpread_dec) (fun u r h => by unfold law01_DecSpread_dec at h; split at h; (obtain rfl := Option.some.inj h; rfl); cases h) (fun us r h => by unfold law01_DecSpread_w at h; split at h; exact (law01_DecSpread_eq K _ _ _ _ _).trans h; cases h)
def env_law01_DecSpread (K : Nat) : FuncId → Option Vm.Spec := addS (env_law01_DecBack K) 8 (law01_DecSpread_spec K)
theorem env_law01_DecSpread_ok (K : Nat) : EnvOk Go.Proofs.Try.prog (env_law01_DecSpread K) := addS_ok (env_law01_DecBack_ok K) (.inl ⟨callable Go.Proofs.Try.func8 (by kernel_rfl) (by kernel_rfl), law01_DecSpread_ok K⟩)
-- passbook/passbooklaw01.DecScales
def law01_DecScales_l7_pre : Vm.Pat := ⟨64, [(5, .pv (.one (.int .i64))), (23, .pv (.one (.int .i64))), (2, .box 0 0)], [.cells [.int .i64, .int .u64, .int .i64]]⟩
def law01_DecScales_l7_post0 : Vm.Pat := ⟨64, [], []⟩
def law01_DecScales_l7_enc0 : Unit → List U := fun _ => []
def law01_DecScales_l7_dec0 : List U → Option (Unit) := fun u => match u with | [] => some () | _ => none
def law01_DecScales_l7_post1 : Vm.Pat := ⟨64, [(4, .pv (.one (.bool)))], []⟩
def law01_DecScales_l7_enc1 : Bool → List U := fun r => [.b r]
def law01_DecScales_l7_dec1 : List U → Option (Bool) := fun u => match u with | [.b c4] => some (c4) | _ => none
def law01_DecScales_l7 (K : Nat) : Nat → Int → Int → Int → Int → Int → Option ((Unit) ⊕ (Bool))
  | 0, _, _, _, _, _ => none
  | k + 1, x5, x23, x2_0, x2_1, x2_2 => (if (Decidable.decide (x23 < 7)) = true then
    ((dec_Rescale K x2_0 x2_1 x2_2 x5 x23).bind fun r0 => (if (r0.snd.snd.snd != 0) = true then
    (if (r0.snd.snd.snd == 4) = true then
    (some (Sum.inr (r0.fst == 0 && (r0.snd.fst == 0 && (r0.snd.snd.fst == 0 && Bool.true)))))
    else (some (Sum.inr Bool.false)))
    else ((dec_Rescale K r0.fst r0.snd.fst r0.snd.snd.fst x2_2 x23).bind fun r1 => (if (r1.snd.snd.snd != 0) = true then
    (some (Sum.inr Bool.false))
    else (if (!(r1.fst == x2_0 && (r1.snd.fst == x2_1 && (r1.snd.snd.fst == x2_2 && Bool.true)))) = true then
    (some (Sum.inr Bool.false))
    else ((law01_equal K r0.fst r0.snd.fst r0.snd.snd.fst x2_0 x2_1 x2_2).bind fun r2 => (if (!r2) = true then
    (some (Sum.inr Bool.false))
    else (law01_DecScales_l7 K k (x5) (Go.IntKind.i64.wrap (x23 + 1)) (x2_0) (x2_1) (x2_2)))))))))
    else (some (Sum.inl ())))
def law01_DecScales_l7_w (K k : Nat) : List U → Option ((Unit) ⊕ (Bool)) := fun us => match us with | [.i x5, .i x23, .i x2_0, .i x2_1, .i x2_2] => law01_DecScales_l7 K k x5 x23 x2_0 x2_1 x2_2 | _ => none
theorem law01_DecScales_l7_eq (K k : Nat) (x5 : Int) (x23 : Int) (x2_0 : Int) (x2_1 : Int) (x2_2 : Int) : (round2 Go.Proofs.Try.prog (env_law01_DecSpread K) (lenv0) (lp (bodyOf Go.Proofs.Try.f7) 0) law01_DecScales_l7_pre (.exit 0) law01_DecScales_l7_post0 .ret law01_DecScales_l7_post1 law01_DecScales_l7_dec0 law01_DecScales_l7_dec1 (law01_DecScales_l7_w K k) [.i x5, .i x23, .i x2_0, .i x2_1, .i x2_2]).den = law01_DecScales_l7 K (k + 1) x5 x23 x2_0 x2_1 x2_2 := by kernel_rfl
def law01_DecScales_l7_s (K : Nat) : Vm.LS := .two law01_DecScales_l7_pre _ _ (.exit 0) law01_DecScales_l7_post0 .ret law01_DecScales_l7_post1 (law01_DecScales_l7_w K K) law01_DecScales_l7_enc0 law01_DecScales_l7_enc1
theorem law01_DecScales_l7_ok (K : Nat) : LoopOk Go.Proofs.Try.prog (lp (bodyOf Go.Proofs.Try.f7) 0) (law01_DecScales_l7_s K) := loop_two hmix (env_law01_DecSpread_ok K) (lenv := lenv0) (L := law01_DecScales_l7_w K) (enc := law01_DecScales_l7_enc0) (dec := law01_DecScales_l7_dec0) (enc' := law01_DecScales_l7_enc1) (dec' := law01_DecScales_l7_dec1) (lps_ok (l := []) (by kernel_rfl) trivial) (fun u r h => by unfold law01_DecScales_l7_dec0 at h; split at h; (obtain rfl := Option.some.inj h; rfl); cases h) (fun u r h => by unfold law01_DecScales_l7_dec1 at h; split at h; (obtain rfl := Option.some.inj h; rfl); cases h) (fun us => by unfold law01_DecScales_l7_w; split <;> first | rfl | (simp only [law01_DecScales_l7])) (fun k us r h => by unfold law01_DecScales_l7_w at h; split at h; exact (law01_DecScales_l7_eq K k _ _ _ _ _).trans h; cases h) K
def law01_DecScales_v7 (K : Nat) : Nat → Option Vm.LS := addL (lenv0) 7 (law01_DecScales_l7_s K)
def law01_DecScales_dec : List U → Option (Bool) := fun u => match u with | [.b c0] => some (c0) | _ => none
def law01_DecScales (K : Nat) (x0_0 : Int) (x0_1 : Int) (x0_2 : Int) (x1 : Int) : Option (Bool) := ((law01_awake K).bind fun r0 => (if (!r0) = true then
    (some Bool.false)
    else ((dec_Check K x0_0 x0_1 x0_2).bind fun r1 => (if (r1 != 0) = true then
    (some Bool.true)
    else (casO (law01_DecScales_l7 K K
  (if 18 < Go.IntKind.i64.wrap (x0_2 + Go.IntKind.i64.wrap (x1.tmod 19)) then 18
  else Go.IntKind.i64.wrap (x0_2 + Go.IntKind.i64.wrap (x1.tmod 19)))
  0 x0_0 x0_1 x0_2) (fun r2 => (some Bool.true)) (fun r3 => (some r3)))))))
theorem law01_DecScales_eq (K : Nat) (x0_0 : Int) (x0_1 : Int) (x0_2 : Int) (x1 : Int) : (runF Go.Proofs.Try.prog (env_law01_DecSpread K) (law01_DecScales_v7 K) Go.Proofs.Try.f7 [.agg [.int .i64, .int .u64, .int .i64], .one (.int .u8)] [.one (.bool)] law01_DecScales_dec [.i x0_0, .i x0_1, .i x0_2, .i x1]).den = law01_DecScales K x0_0 x0_1 x0_2 x1 := by kernel_rfl
def law01_DecScales_w (K : Nat) : List U → Option (Bool) := fun us => match us with | [.i x0_0, .i x0_1, .i x0_2, .i x1] => law01_DecScales K x0_0 x0_1 x0_2 x1 | _ => none
def law01_DecScales_enc : (Bool) → List U := fun r => [.b r]
def law01_DecScales_spec (K : Nat) : Vm.Spec := ⟨[.agg [.int .i64, .int .u64, .int .i64], .one (.int .u8)], [.one (.bool)], Bool, law01_DecScales_w K, law01_DecScales_enc⟩
theorem law01_DecScales_ok (K : Nat) : FnOk Go.Proofs.Try.prog 7 (law01_DecScales_spec K) := fn_ok' hmix (env_law01_DecSpread_ok K) (lenv := law01_DecScales_v7 K) (args := [.agg [.int .i64, .int .u64, .int .i64], .one (.int .u8)]) (res := [.one (.bool)]) (G := law01_DecScales_w K) (enc := law01_DecScales_enc) Go.Proofs.Try.func7 (lps_fn (l := [lp (bodyOf Go.Proofs.Try.f7) 0]) (by kernel_rfl) ⟨⟨7, law01_DecScales_l7_s K, by kernel_rfl, by kernel_rfl, law01_DecScales_l7_ok K⟩, trivial⟩) (dec := law01_DecScales_dec) (fun u r h => by unfold law01_DecScales_dec at h; split at h; (obtain rfl := Option.some.inj h; rfl); cases h) (fun us r h => by unfold law01_DecScales_w at h; split at h; exact (law01_DecScales_eq K _ _ _ _).trans h; cases h)
def env_law01_DecScales (K : Nat) : FuncId → Option Vm.Spec := addS (env_law01_DecSpread K) 7 (law01_DecScales_spec K)
theorem env_law01_DecScales_ok (K : Nat) : EnvOk Go.Proofs.Try.prog (env_law01_DecScales K) := addS_ok (env_law01_DecSpread_ok K) (.inl ⟨callable Go.Proofs.Try.func7 (by kernel_rfl) (by kernel_rfl), law01_DecScales_ok K⟩)
-- passbook/passbooklaw01.DecOrder
def law01_DecOrder_dec : List U → Option (Bool) := fun u => match u with | [.b c0] => some (c0) | _ => none
def law01_DecOrder (K : Nat) (x0_0 : Int) (x0_1 : Int) (x0_2 : Int) (x1_0 : Int) (x1_1 : Int) (x1_2 : Int) (x2_0 : Int) (x2_1 : Int) (x2_2 : Int) : Option (Bool) := ((law01_awake K).bind fun r0 => (if (!r0) = true then
    (some Bool.false)
    else ((dec_Cmp K x0_0 x0_1 x0_2 x1_0 x1_1 x1_2).bind fun r1 => ((dec_Cmp K x1_0 x1_1 x1_2 x0_0 x0_1 x0_2).bind fun r2 => (if (r1.snd != 0) = true then
    (if (r1.snd == r2.snd) = true then
    (if (r1.fst == 0) = true then
    (some (r2.fst == 0))
    else (some Bool.false))
    else (some Bool.false))
    else (if (r2.snd != 0) = true then
    (if (r1.snd == r2.snd) = true then
    (if (r1.fst == 0) = true then
    (some (r2.fst == 0))
    else (some Bool.false))
    else (some Bool.false))
    else ((dec_Neg K x0_0 x0_1 x0_2).bind fun r3 => ((dec_Neg K x1_0 x1_1 x1_2).bind fun r4 => ((dec_Cmp K r3.fst r3.snd.fst r3.snd.snd.fst r4.fst r4.snd.fst r4.snd.snd.fst).bind fun r5 => (if (r1.fst != Go.IntKind.i64.wrap (0 - r2.fst)) = true then
    (some Bool.false)
    else (if (r3.snd.snd.snd != 0) = true then
    (some Bool.false)
    else (if (r4.snd.snd.snd != 0) = true then
    (some Bool.false)
    else (if (r5.snd != 0) = true then
    (some Bool.false)
    else (if (r5.fst != Go.IntKind.i64.wrap (0 - r1.fst)) = true then
    (some Bool.false)
    else ((law01_equal K x0_0 x0_1 x0_2 x0_0 x0_1 x0_2).bind fun r6 => (if (!r6) = true then
    (some Bool.false)
    else ((dec_Add K x0_0 x0_1 x0_2 x2_0 x2_1 x2_2).bind fun r7 => ((dec_Add K x1_0 x1_1 x1_2 x2_0 x2_1 x2_2).bind fun r8 => (if (r7.snd.snd.snd != 0) = true then
    (some Bool.true)
    else (if (r8.snd.snd.snd != 0) = true then
    (some Bool.true)
    else ((dec_Cmp K r7.fst r7.snd.fst r7.snd.snd.fst r8.fst r8.snd.fst r8.snd.snd.fst).bind fun r9 => (if (r9.snd == 0) = true then
    (some (r9.fst == r1.fst))
    else (some Bool.false)))))))))))))))))))))))
theorem law01_DecOrder_eq (K : Nat) (x0_0 : Int) (x0_1 : Int) (x0_2 : Int) (x1_0 : Int) (x1_1 : Int) (x1_2 : Int) (x2_0 : Int) (x2_1 : Int) (x2_2 : Int) : (runF Go.Proofs.Try.prog (env_law01_DecScales K) (lenv0) Go.Proofs.Try.f10 [.agg [.int .i64, .int .u64, .int .i64], .agg [.int .i64, .int .u64, .int .i64], .agg [.int .i64, .int .u64, .int .i64]] [.one (.bool)] law01_DecOrder_dec [.i x0_0, .i x0_1, .i x0_2, .i x1_0, .i x1_1, .i x1_2, .i x2_0, .i x2_1, .i x2_2]).den = law01_DecOrder K x0_0 x0_1 x0_2 x1_0 x1_1 x1_2 x2_0 x2_1 x2_2 := by kernel_rfl
def law01_DecOrder_w (K : Nat) : List U → Option (Bool) := fun us => match us with | [.i x0_0, .i x0_1, .i x0_2, .i x1_0, .i x1_1, .i x1_2, .i x2_0, .i x2_1, .i x2_2] => law01_DecOrder K x0_0 x0_1 x0_2 x1_0 x1_1 x1_2 x2_0 x2_1 x2_2 | _ => none
def law01_DecOrder_enc : (Bool) → List U := fun r => [.b r]
def law01_DecOrder_spec (K : Nat) : Vm.Spec := ⟨[.agg [.int .i64, .int .u64, .int .i64], .agg [.int .i64, .int .u64, .int .i64], .agg [.int .i64, .int .u64, .int .i64]], [.one (.bool)], Bool, law01_DecOrder_w K, law01_DecOrder_enc⟩
theorem law01_DecOrder_ok (K : Nat) : FnOk Go.Proofs.Try.prog 10 (law01_DecOrder_spec K) := fn_ok' hmix (env_law01_DecScales_ok K) (lenv := lenv0) (args := [.agg [.int .i64, .int .u64, .int .i64], .agg [.int .i64, .int .u64, .int .i64], .agg [.int .i64, .int .u64, .int .i64]]) (res := [.one (.bool)]) (G := law01_DecOrder_w K) (enc := law01_DecOrder_enc) Go.Proofs.Try.func10 (lps_fn (l := []) (by kernel_rfl) trivial) (dec := law01_DecOrder_dec) (fun u r h => by unfold law01_DecOrder_dec at h; split at h; (obtain rfl := Option.some.inj h; rfl); cases h) (fun us r h => by unfold law01_DecOrder_w at h; split at h; exact (law01_DecOrder_eq K _ _ _ _ _ _ _ _ _).trans h; cases h)
def env_law01_DecOrder (K : Nat) : FuncId → Option Vm.Spec := addS (env_law01_DecScales K) 10 (law01_DecOrder_spec K)
theorem env_law01_DecOrder_ok (K : Nat) : EnvOk Go.Proofs.Try.prog (env_law01_DecOrder K) := addS_ok (env_law01_DecScales_ok K) (.inl ⟨callable Go.Proofs.Try.func10 (by kernel_rfl) (by kernel_rfl), law01_DecOrder_ok K⟩)
-- passbook/passbooklaw01.DecNegs
def law01_DecNegs_dec : List U → Option (Bool) := fun u => match u with | [.b c0] => some (c0) | _ => none
def law01_DecNegs (K : Nat) (x0_0 : Int) (x0_1 : Int) (x0_2 : Int) (x1_0 : Int) (x1_1 : Int) (x1_2 : Int) : Option (Bool) := ((law01_awake K).bind fun r0 => (if (!r0) = true then
    (some Bool.false)
    else ((dec_Neg K x1_0 x1_1 x1_2).bind fun r1 => (if (r1.snd.snd.snd != 0) = true then
    (if (r1.fst == 0 && (r1.snd.fst == 0 && (r1.snd.snd.fst == 0 && Bool.true))) = true then
    (some (r1.snd.snd.snd == 3))
    else (some Bool.false))
    else ((dec_Neg K r1.fst r1.snd.fst r1.snd.snd.fst).bind fun r2 => ((dec_Add K x1_0 x1_1 x1_2 r1.fst r1.snd.fst r1.snd.snd.fst).bind fun r3 => ((dec_Sign K x1_0 x1_1 x1_2).bind fun r4 => ((dec_Sign K r1.fst r1.snd.fst r1.snd.snd.fst).bind fun r5 => ((dec_Sub K x0_0 x0_1 x0_2 x1_0 x1_1 x1_2).bind fun r6 => ((dec_Add K x0_0 x0_1 x0_2 r1.fst r1.snd.fst r1.snd.snd.fst).bind fun r7 => (if (r2.snd.snd.snd == 0) = true then
    (if (r2.fst == x1_0 && (r2.snd.fst == x1_1 && (r2.snd.snd.fst == x1_2 && Bool.true))) = true then
    (if (r3.snd.snd.snd == 0) = true then
    (if (r3.fst == 0 && (r3.snd.fst == 0 && (r3.snd.snd.fst == x1_2 && Bool.true))) = true then
    (if (r4.snd == 0) = true then
    (if (r5.snd == 0) = true then
    (if (r4.fst == Go.IntKind.i64.wrap (0 - r5.fst)) = true then
    (if (r6.fst == r7.fst && (r6.snd.fst == r7.snd.fst && (r6.snd.snd.fst == r7.snd.snd.fst && Bool.true))) = true then
    (some (r6.snd.snd.snd == r7.snd.snd.snd))
    else (some Bool.false))
    else (some Bool.false))
    else (some Bool.false))
    else (some Bool.false))
    else (some Bool.false))
    else (some Bool.false))
    else (some Bool.false))
    else (some Bool.false))))))))))))
theorem law01_DecNegs_eq (K : Nat) (x0_0 : Int) (x0_1 : Int) (x0_2 : Int) (x1_0 : Int) (x1_1 : Int) (x1_2 : Int) : (runF Go.Proofs.Try.prog (env_law01_DecOrder K) (lenv0) Go.Proofs.Try.f11 [.agg [.int .i64, .int .u64, .int .i64], .agg [.int .i64, .int .u64, .int .i64]] [.one (.bool)] law01_DecNegs_dec [.i x0_0, .i x0_1, .i x0_2, .i x1_0, .i x1_1, .i x1_2]).den = law01_DecNegs K x0_0 x0_1 x0_2 x1_0 x1_1 x1_2 := by kernel_rfl
def law01_DecNegs_w (K : Nat) : List U → Option (Bool) := fun us => match us with | [.i x0_0, .i x0_1, .i x0_2, .i x1_0, .i x1_1, .i x1_2] => law01_DecNegs K x0_0 x0_1 x0_2 x1_0 x1_1 x1_2 | _ => none
def law01_DecNegs_enc : (Bool) → List U := fun r => [.b r]
def law01_DecNegs_spec (K : Nat) : Vm.Spec := ⟨[.agg [.int .i64, .int .u64, .int .i64], .agg [.int .i64, .int .u64, .int .i64]], [.one (.bool)], Bool, law01_DecNegs_w K, law01_DecNegs_enc⟩
theorem law01_DecNegs_ok (K : Nat) : FnOk Go.Proofs.Try.prog 11 (law01_DecNegs_spec K) := fn_ok' hmix (env_law01_DecOrder_ok K) (lenv := lenv0) (args := [.agg [.int .i64, .int .u64, .int .i64], .agg [.int .i64, .int .u64, .int .i64]]) (res := [.one (.bool)]) (G := law01_DecNegs_w K) (enc := law01_DecNegs_enc) Go.Proofs.Try.func11 (lps_fn (l := []) (by kernel_rfl) trivial) (dec := law01_DecNegs_dec) (fun u r h => by unfold law01_DecNegs_dec at h; split at h; (obtain rfl := Option.some.inj h; rfl); cases h) (fun us r h => by unfold law01_DecNegs_w at h; split at h; exact (law01_DecNegs_eq K _ _ _ _ _ _).trans h; cases h)
def env_law01_DecNegs (K : Nat) : FuncId → Option Vm.Spec := addS (env_law01_DecOrder K) 11 (law01_DecNegs_spec K)
theorem env_law01_DecNegs_ok (K : Nat) : EnvOk Go.Proofs.Try.prog (env_law01_DecNegs K) := addS_ok (env_law01_DecOrder_ok K) (.inl ⟨callable Go.Proofs.Try.func11 (by kernel_rfl) (by kernel_rfl), law01_DecNegs_ok K⟩)
-- passbook/passbooklaw01.DecLaws
def law01_DecLaws_dec : List U → Option (Bool) := fun u => match u with | [.b c0] => some (c0) | _ => none
def law01_DecLaws (K : Nat) (x0_0 : Int) (x0_1 : Int) (x0_2 : Int) (x1_0 : Int) (x1_1 : Int) (x1_2 : Int) (x2_0 : Int) (x2_1 : Int) (x2_2 : Int) : Option (Bool) := ((law01_awake K).bind fun r0 => (if (!r0) = true then
    (some Bool.false)
    else ((dec_Add K x0_0 x0_1 x0_2 x1_0 x1_1 x1_2).bind fun r1 => ((dec_Add K x1_0 x1_1 x1_2 x0_0 x0_1 x0_2).bind fun r2 => (if (!(r1.fst == r2.fst && (r1.snd.fst == r2.snd.fst && (r1.snd.snd.fst == r2.snd.snd.fst && Bool.true)))) = true then
    (some Bool.false)
    else (if (r1.snd.snd.snd != r2.snd.snd.snd) = true then
    (some Bool.false)
    else (if (r1.snd.snd.snd != 0) = true then
    (some (r1.fst == 0 && (r1.snd.fst == 0 && (r1.snd.snd.fst == 0 && Bool.true))))
    else ((dec_Sub K r1.fst r1.snd.fst r1.snd.snd.fst x1_0 x1_1 x1_2).bind fun r3 => (if (r3.snd.snd.snd == 0) = true then
    ((law01_equal K r3.fst r3.snd.fst r3.snd.snd.fst x0_0 x0_1 x0_2).bind fun r4 => (if (!r4) = true then
    (some Bool.false)
    else ((dec_Add K r1.fst r1.snd.fst r1.snd.snd.fst x2_0 x2_1 x2_2).bind fun r5 => ((dec_Add K x1_0 x1_1 x1_2 x2_0 x2_1 x2_2).bind fun r6 => (if (r5.snd.snd.snd != 0) = true then
    (some Bool.true)
    else (if (r6.snd.snd.snd != 0) = true then
    (some Bool.true)
    else ((dec_Add K x0_0 x0_1 x0_2 r6.fst r6.snd.fst r6.snd.snd.fst).bind fun r7 => (if (r7.snd.snd.snd == 0) = true then
    (some (r7.fst == r5.fst && (r7.snd.fst == r5.snd.fst && (r7.snd.snd.fst == r5.snd.snd.fst && Bool.true))))
    else (some Bool.false)))))))))
    else ((dec_Add K r1.fst r1.snd.fst r1.snd.snd.fst x2_0 x2_1 x2_2).bind fun r8 => ((dec_Add K x1_0 x1_1 x1_2 x2_0 x2_1 x2_2).bind fun r9 => (if (r8.snd.snd.snd != 0) = true then
    (some Bool.true)
    else (if (r9.snd.snd.snd != 0) = true then
    (some Bool.true)
    else ((dec_Add K x0_0 x0_1 x0_2 r9.fst r9.snd.fst r9.snd.snd.fst).bind fun r10 => (if (r10.snd.snd.snd == 0) = true then
    (some (r10.fst == r8.fst && (r10.snd.fst == r8.snd.fst && (r10.snd.snd.fst == r8.snd.snd.fst && Bool.true))))
    else (some Bool.false))))))))))))))))
theorem law01_DecLaws_eq (K : Nat) (x0_0 : Int) (x0_1 : Int) (x0_2 : Int) (x1_0 : Int) (x1_1 : Int) (x1_2 : Int) (x2_0 : Int) (x2_1 : Int) (x2_2 : Int) : (runF Go.Proofs.Try.prog (env_law01_DecNegs K) (lenv0) Go.Proofs.Try.f12 [.agg [.int .i64, .int .u64, .int .i64], .agg [.int .i64, .int .u64, .int .i64], .agg [.int .i64, .int .u64, .int .i64]] [.one (.bool)] law01_DecLaws_dec [.i x0_0, .i x0_1, .i x0_2, .i x1_0, .i x1_1, .i x1_2, .i x2_0, .i x2_1, .i x2_2]).den = law01_DecLaws K x0_0 x0_1 x0_2 x1_0 x1_1 x1_2 x2_0 x2_1 x2_2 := by kernel_rfl
def law01_DecLaws_w (K : Nat) : List U → Option (Bool) := fun us => match us with | [.i x0_0, .i x0_1, .i x0_2, .i x1_0, .i x1_1, .i x1_2, .i x2_0, .i x2_1, .i x2_2] => law01_DecLaws K x0_0 x0_1 x0_2 x1_0 x1_1 x1_2 x2_0 x2_1 x2_2 | _ => none
def law01_DecLaws_enc : (Bool) → List U := fun r => [.b r]
def law01_DecLaws_spec (K : Nat) : Vm.Spec := ⟨[.agg [.int .i64, .int .u64, .int .i64], .agg [.int .i64, .int .u64, .int .i64], .agg [.int .i64, .int .u64, .int .i64]], [.one (.bool)], Bool, law01_DecLaws_w K, law01_DecLaws_enc⟩
theorem law01_DecLaws_ok (K : Nat) : FnOk Go.Proofs.Try.prog 12 (law01_DecLaws_spec K) := fn_ok' hmix (env_law01_DecNegs_ok K) (lenv := lenv0) (args := [.agg [.int .i64, .int .u64, .int .i64], .agg [.int .i64, .int .u64, .int .i64], .agg [.int .i64, .int .u64, .int .i64]]) (res := [.one (.bool)]) (G := law01_DecLaws_w K) (enc := law01_DecLaws_enc) Go.Proofs.Try.func12 (lps_fn (l := []) (by kernel_rfl) trivial) (dec := law01_DecLaws_dec) (fun u r h => by unfold law01_DecLaws_dec at h; split at h; (obtain rfl := Option.some.inj h; rfl); cases h) (fun us r h => by unfold law01_DecLaws_w at h; split at h; exact (law01_DecLaws_eq K _ _ _ _ _ _ _ _ _).trans h; cases h)
def env_law01_DecLaws (K : Nat) : FuncId → Option Vm.Spec := addS (env_law01_DecNegs K) 12 (law01_DecLaws_spec K)
theorem env_law01_DecLaws_ok (K : Nat) : EnvOk Go.Proofs.Try.prog (env_law01_DecLaws K) := addS_ok (env_law01_DecNegs_ok K) (.inl ⟨callable Go.Proofs.Try.func12 (by kernel_rfl) (by kernel_rfl), law01_DecLaws_ok K⟩)
-- passbook/passbooklaw01.DecBetween
def law01_DecBetween_l14_pre : Vm.Pat := ⟨143, [(1, .pv (.one (.int .i64))), (120, .pv (.one (.int .i64))), (2, .box 0 0), (5, .box 1 0), (7, .box 2 0)], [.cells [.int .i64, .int .u64, .int .i64], .cells [.int .i64, .int .u64, .int .i64], .cells [.int .i64, .int .u64, .int .i64]]⟩
def law01_DecBetween_l14_post0 : Vm.Pat := ⟨143, [], []⟩
def law01_DecBetween_l14_enc0 : Unit → List U := fun _ => []
def law01_DecBetween_l14_dec0 : List U → Option (Unit) := fun u => match u with | [] => some () | _ => none
def law01_DecBetween_l14_post1 : Vm.Pat := ⟨143, [(4, .pv (.one (.bool)))], []⟩
def law01_DecBetween_l14_enc1 : Bool → List U := fun r => [.b r]
def law01_DecBetween_l14_dec1 : List U → Option (Bool) := fun u => match u with | [.b c4] => some (c4) | _ => none
def law01_DecBetween_l14 (K : Nat) : Nat → Int → Int → Int → Int → Int → Int → Int → Int → Int → Int → Int → Option ((Unit) ⊕ (Bool))
  | 0, _, _, _, _, _, _, _, _, _, _, _ => none
  | k + 1, x1, x120, x2_0, x2_1, x2_2, x5_0, x5_1, x5_2, x7_0, x7_1, x7_2 => (if (Decidable.decide (x120 < 7)) = true then
    ((dec_Rescale K x2_0 x2_1 x2_2 x1 x120).bind fun r0 => (if (r0.snd.snd.snd != 0) = true then
    (some (Sum.inr Bool.false))
    else (if (!(r0.fst == x5_0 && (r0.snd.fst == x5_1 && (r0.snd.snd.fst == x5_2 && Bool.true)))) = true then
    (if (!(r0.fst == x7_0 && (r0.snd.fst == x7_1 && (r0.snd.snd.fst == x7_2 && Bool.true)))) = true then
    (some (Sum.inr Bool.false))
    else (law01_DecBetween_l14 K k (x1) (Go.IntKind.i64.wrap (x120 + 1)) (x2_0) (x2_1) (x2_2) (x5_0) (x5_1) (x5_2) (x7_0) (x7_1) (x7_2)))
    else (law01_DecBetween_l14 K k (x1) (Go.IntKind.i64.wrap (x120 + 1)) (x2_0) (x2_1) (x2_2) (x5_0) (x5_1) (x5_2) (x7_0) (x7_1) (x7_2)))))
    else (some (Sum.inl ())))
def law01_DecBetween_l14_w (K k : Nat) : List U → Option ((Unit) ⊕ (Bool)) := fun us => match us with | [.i x1, .i x120, .i x2_0, .i x2_1, .i x2_2, .i x5_0, .i x5_1, .i x5_2, .i x7_0, .i x7_1, .i x7_2] => law01_DecBetween_l14 K k x1 x120 x2_0 x2_1 x2_2 x5_0 x5_1 x5_2 x7_0 x7_1 x7_2 | _ => none
theorem law01_DecBetween_l14_eq (K k : Nat) (x1 : Int) (x120 : Int) (x2_0 : Int) (x2_1 : Int) (x2_2 : Int) (x5_0 : Int) (x5_1 : Int) (x5_2 : Int) (x7_0 : Int) (x7_1 : Int) (x7_2 : Int) : (round2 Go.Proofs.Try.prog (env_law01_DecLaws K) (lenv0) (lp (bodyOf Go.Proofs.Try.f13) 0) law01_DecBetween_l14_pre (.exit 0) law01_DecBetween_l14_post0 .ret law01_DecBetween_l14_post1 law01_DecBetween_l14_dec0 law01_DecBetween_l14_dec1 (law01_DecBetween_l14_w K k) [.i x1, .i x120, .i x2_0, .i x2_1, .i x2_2, .i x5_0, .i x5_1, .i x5_2, .i x7_0, .i x7_1, .i x7_2]).den = law01_DecBetween_l14 K (k + 1) x1 x120 x2_0 x2_1 x2_2 x5_0 x5_1 x5_2 x7_0 x7_1 x7_2 := by kernel_rfl
def law01_DecBetween_l14_s (K : Nat) : Vm.LS := .two law01_DecBetween_l14_pre _ _ (.exit 0) law01_DecBetween_l14_post0 .ret law01_DecBetween_l14_post1 (law01_DecBetween_l14_w K K) law01_DecBetween_l14_enc0 law01_DecBetween_l14_enc1
theorem law01_DecBetween_l14_ok (K : Nat) : LoopOk Go.Proofs.Try.prog (lp (bodyOf Go.Proofs.Try.f13) 0) (law01_DecBetween_l14_s K) := loop_two hmix (env_law01_DecLaws_ok K) (lenv := lenv0) (L := law01_DecBetween_l14_w K) (enc := law01_DecBetween_l14_enc0) (dec := law01_DecBetween_l14_dec0) (enc' := law01_DecBetween_l14_enc1) (dec' := law01_DecBetween_l14_dec1) (lps_ok (l := []) (by kernel_rfl) trivial) (fun u r h => by unfold law01_DecBetween_l14_dec0 at h; split at h; (obtain rfl := Option.some.inj h; rfl); cases h) (fun u r h => by unfold law01_DecBetween_l14_dec1 at h; split at h; (obtain rfl := Option.some.inj h; rfl); cases h) (fun us => by unfold law01_DecBetween_l14_w; split <;> first | rfl | (simp only [law01_DecBetween_l14])) (fun k us r h => by unfold law01_DecBetween_l14_w at h; split at h; exact (law01_DecBetween_l14_eq K k _ _ _ _ _ _ _ _ _ _ _).trans h; cases h) K
def law01_DecBetween_v14 (K : Nat) : Nat → Option Vm.LS := addL (lenv0) 14 (law01_DecBetween_l14_s K)
def law01_DecBetween_dec : List U → Option (Bool) := fun u => match u with | [.b c0] => some (c0) | _ => none
def law01_DecBetween (K : Nat) (x0_0 : Int) (x0_1 : Int) (x0_2 : Int) (x1 : Int) : Option (Bool) := ((law01_awake K).bind fun r0 => (if (!r0) = true then
    (some Bool.false)
    else ((dec_Rescale K x0_0 x0_1 x0_2 x1 2).bind fun r1 => ((dec_Rescale K x0_0 x0_1 x0_2 x1 3).bind fun r2 => (if (r1.snd.snd.snd != 0) = true then
    (if (r1.snd.snd.snd != 0) = true then
    (if (r1.fst == 0 && (r1.snd.fst == 0 && (r1.snd.snd.fst == 0 && Bool.true))) = true then
    (some Bool.true)
    else (if (r2.snd.snd.snd != 0) = true then
    (some (r2.fst == 0 && (r2.snd.fst == 0 && (r2.snd.snd.fst == 0 && Bool.true))))
    else (some Bool.false)))
    else (if (r2.snd.snd.snd != 0) = true then
    (some (r2.fst == 0 && (r2.snd.fst == 0 && (r2.snd.snd.fst == 0 && Bool.true))))
    else (some Bool.false)))
    else (if (r2.snd.snd.snd != 0) = true then
    (if (r1.snd.snd.snd != 0) = true then
    (if (r1.fst == 0 && (r1.snd.fst == 0 && (r1.snd.snd.fst == 0 && Bool.true))) = true then
    (some Bool.true)
    else (if (r2.snd.snd.snd != 0) = true then
    (some (r2.fst == 0 && (r2.snd.fst == 0 && (r2.snd.snd.fst == 0 && Bool.true))))
    else (some Bool.false)))
    else (if (r2.snd.snd.snd != 0) = true then
    (some (r2.fst == 0 && (r2.snd.fst == 0 && (r2.snd.snd.fst == 0 && Bool.true))))
    else (some Bool.false)))
    else ((dec_Cmp K r1.fst r1.snd.fst r1.snd.snd.fst x0_0 x0_1 x0_2).bind fun r3 => ((dec_Cmp K x0_0 x0_1 x0_2 r2.fst r2.snd.fst r2.snd.snd.fst).bind fun r4 => ((dec_Sub K r2.fst r2.snd.fst r2.snd.snd.fst r1.fst r1.snd.fst r1.snd.snd.fst).bind fun r5 => ((dec_Of K 1 x1).bind fun r6 => (if (r3.snd != 0) = true then
    (some Bool.false)
    else (if (r4.snd != 0) = true then
    (some Bool.false)
    else (if (r5.snd.snd.snd != 0) = true then
    (some Bool.false)
    else (if (r6.snd.snd.snd != 0) = true then
    (some Bool.false)
    else (if (Decidable.decide (r3.fst > 0)) = true then
    (some Bool.false)
    else (if (Decidable.decide (r4.fst > 0)) = true then
    (some Bool.false)
    else (if (!(r5.fst == r6.fst && (r5.snd.fst == r6.snd.fst && (r5.snd.snd.fst == r6.snd.snd.fst && Bool.true)))) = true then
    (if (!(r5.fst == 0 && (r5.snd.fst == 0 && (r5.snd.snd.fst == x1 && Bool.true)))) = true then
    (some Bool.false)
    else (if (!(r5.fst == r6.fst && (r5.snd.fst == r6.snd.fst && (r5.snd.snd.fst == r6.snd.snd.fst && Bool.true))) ==
    Decidable.decide (r3.fst < 0)) = true then
    (some Bool.false)
    else (casO (law01_DecBetween_l14 K K x1 0 x0_0 x0_1 x0_2 r1.fst r1.snd.fst r1.snd.snd.fst r2.fst
  r2.snd.fst r2.snd.snd.fst) (fun r7 => (some Bool.true)) (fun r8 => (some r8)))))
    else (if (!(r5.fst == r6.fst && (r5.snd.fst == r6.snd.fst && (r5.snd.snd.fst == r6.snd.snd.fst && Bool.true))) ==
    Decidable.decide (r3.fst < 0)) = true then
    (some Bool.false)
    else (casO (law01_DecBetween_l14 K K x1 0 x0_0 x0_1 x0_2 r1.fst r1.snd.fst r1.snd.snd.fst r2.fst
  r2.snd.fst r2.snd.snd.fst) (fun r9 => (some Bool.true)) (fun r10 => (some r10)))))))))))))))))))))
theorem law01_DecBetween_eq (K : Nat) (x0_0 : Int) (x0_1 : Int) (x0_2 : Int) (x1 : Int) : (runF Go.Proofs.Try.prog (env_law01_DecLaws K) (law01_DecBetween_v14 K) Go.Proofs.Try.f13 [.agg [.int .i64, .int .u64, .int .i64], .one (.int .i64)] [.one (.bool)] law01_DecBetween_dec [.i x0_0, .i x0_1, .i x0_2, .i x1]).den = law01_DecBetween K x0_0 x0_1 x0_2 x1 := by kernel_rfl
def law01_DecBetween_w (K : Nat) : List U → Option (Bool) := fun us => match us with | [.i x0_0, .i x0_1, .i x0_2, .i x1] => law01_DecBetween K x0_0 x0_1 x0_2 x1 | _ => none
def law01_DecBetween_enc : (Bool) → List U := fun r => [.b r]
def law01_DecBetween_spec (K : Nat) : Vm.Spec := ⟨[.agg [.int .i64, .int .u64, .int .i64], .one (.int .i64)], [.one (.bool)], Bool, law01_DecBetween_w K, law01_DecBetween_enc⟩
theorem law01_DecBetween_ok (K : Nat) : FnOk Go.Proofs.Try.prog 13 (law01_DecBetween_spec K) := fn_ok' hmix (env_law01_DecLaws_ok K) (lenv := law01_DecBetween_v14 K) (args := [.agg [.int .i64, .int .u64, .int .i64], .one (.int .i64)]) (res := [.one (.bool)]) (G := law01_DecBetween_w K) (enc := law01_DecBetween_enc) Go.Proofs.Try.func13 (lps_fn (l := [lp (bodyOf Go.Proofs.Try.f13) 0]) (by kernel_rfl) ⟨⟨14, law01_DecBetween_l14_s K, by kernel_rfl, by kernel_rfl, law01_DecBetween_l14_ok K⟩, trivial⟩) (dec := law01_DecBetween_dec) (fun u r h => by unfold law01_DecBetween_dec at h; split at h; (obtain rfl := Option.some.inj h; rfl); cases h) (fun us r h => by unfold law01_DecBetween_w at h; split at h; exact (law01_DecBetween_eq K _ _ _ _).trans h; cases h)
def env_law01_DecBetween (K : Nat) : FuncId → Option Vm.Spec := addS (env_law01_DecLaws K) 13 (law01_DecBetween_spec K)
theorem env_law01_DecBetween_ok (K : Nat) : EnvOk Go.Proofs.Try.prog (env_law01_DecBetween K) := addS_ok (env_law01_DecLaws_ok K) (.inl ⟨callable Go.Proofs.Try.func13 (by kernel_rfl) (by kernel_rfl), law01_DecBetween_ok K⟩)
-- passbook/passbooklaw01.DecSums
def law01_DecSums_dec : List U → Option (Bool) := fun u => match u with | [.b c0] => some (c0) | _ => none
def law01_DecSums (K : Nat) (x0_0 : Int) (x0_1 : Int) (x0_2 : Int) (x1_0 : Int) (x1_1 : Int) (x1_2 : Int) : Option (Bool) := ((dec_Add K x0_0 x0_1 x0_2 x1_0 x1_1 x1_2).bind fun r0 => ((ref01_DocAdd K x0_0 x0_1 x0_2 x1_0 x1_1 x1_2 Bool.false).bind fun r1 => ((dec_Sub K x0_0 x0_1 x0_2 x1_0 x1_1 x1_2).bind fun r2 => ((ref01_DocAdd K x0_0 x0_1 x0_2 x1_0 x1_1 x1_2 Bool.true).bind fun r3 => ((dec_Cmp K x0_0 x0_1 x0_2 x1_0 x1_1 x1_2).bind fun r4 => ((ref01_DocCmp K x0_0 x0_1 x0_2 x1_0 x1_1 x1_2).bind fun r5 => ((law01_awake K).bind fun r6 => (if (!r6) = true then
    (some Bool.false)
    else (if (!(r0.fst == r1.fst && (r0.snd.fst == r1.snd.fst && (r0.snd.snd.fst == r1.snd.snd.fst && Bool.true)))) = true then
    (some Bool.false)
    else (if (r0.snd.snd.snd != r1.snd.snd.snd) = true then
    (some Bool.false)
    else (if (!(r2.fst == r3.fst && (r2.snd.fst == r3.snd.fst && (r2.snd.snd.fst == r3.snd.snd.fst && Bool.true)))) = true then
    (some Bool.false)
    else (if (r2.snd.snd.snd != r3.snd.snd.snd) = true then
    (some Bool.false)
    else (if (r4.fst != r5.fst) = true then
    (some Bool.false)
    else (if (r4.snd != r5.snd) = true then
    (some Bool.false)
    else ((dec_Neg K x0_0 x0_1 x0_2).bind fun r7 => ((ref01_DocNeg K x0_0 x0_1 x0_2).bind fun r8 => ((dec_Sign K x0_0 x0_1 x0_2).bind fun r9 => ((ref01_DocSign K x0_0 x0_1 x0_2).bind fun r10 => (if (r7.fst == r8.fst && (r7.snd.fst == r8.snd.fst && (r7.snd.snd.fst == r8.snd.snd.fst && Bool.true))) = true then
    (if (r7.fst == r8.fst && (r7.snd.fst == r8.snd.fst && (r7.snd.snd.fst == r8.snd.snd.fst && Bool.true))) = true then
    (if (r7.fst == r8.fst && (r7.snd.fst == r8.snd.fst && (r7.snd.snd.fst == r8.snd.snd.fst && Bool.true))) = true then
    (if (r7.fst == r8.fst && (r7.snd.fst == r8.snd.fst && (r7.snd.snd.fst == r8.snd.snd.fst && Bool.true))) = true then
    (if (r7.snd.snd.snd == r8.snd.snd.snd) = true then
    (if (r7.snd.snd.snd == r8.snd.snd.snd) = true then
    (if (r7.snd.snd.snd == r8.snd.snd.snd) = true then
    (if (r7.snd.snd.snd == r8.snd.snd.snd) = true then
    (if (r9.fst == r10.fst) = true then
    (if (r9.fst == r10.fst) = true then
    (if (r9.fst == r10.fst) = true then
    (if (r9.fst == r10.fst) = true then
    (if (r9.snd == r10.snd) = true then
    (if (r9.snd == r10.snd) = true then
    ((dec_Check K x0_0 x0_1 x0_2).bind fun r11 => (if (r9.snd == r10.snd) = true then
    (if (r9.snd == r10.snd) = true then
    (if (r9.snd == r10.snd) = true then
    ((ref01_Form K x0_0 x0_1 x0_2).bind fun r12 => (if (r9.snd == r10.snd) = true then
    (if (r9.snd == r10.snd) = true then
    (if ((r11 == 0) == r12) = true then
    (if ((r11 == 0) == r12) = true then
    ((ref01_Form K x0_0 x0_1 x0_2).bind fun r13 => (if ((r11 == 0) == r12) = true then
    (if (r13) = true then
    (if (r13) = true then
    (if (r13) = true then
    (if ((r11 == 0) == r12) = true then
    (if (r13) = true then
    (if ((r11 == 0) == r12) = true then
    (some Bool.true)
    else (some Bool.false))
    else (if ((r11 == 0) == r12) = true then
    none
    else (some Bool.false)))
    else (if ((r11 == 0) == r12) = true then
    none
    else (some Bool.false)))
    else none)
    else none)
    else (if (r13) = true then
    (if (r13) = true then
    (if ((r11 == 0) == r12) = true then
    (if (r13) = true then
    (if ((r11 == 0) == r12) = true then
    (some Bool.true)
    else (some Bool.false))
    else (if ((r11 == 0) == r12) = true then
    none
    else (some Bool.false)))
    else (if ((r11 == 0) == r12) = true then
    none
    else (some Bool.false)))
    else none)
    else ((dec_Check K x0_0 x0_1 x0_2).bind fun r14 => (if (r13) = true then
    (if ((r11 == 0) == r12) = true then
    (if (r13) = true then
    (if ((r11 == 0) == r12) = true then
    (some Bool.true)
    else (some Bool.false))
    else (if ((r11 == 0) == r12) = true then
    none
    else (some Bool.false)))
    else (if ((r11 == 0) == r12) = true then
    none
    else (some Bool.false)))
    else (if ((r11 == 0) == r12) = true then
    (if (r13) = true then
    (if ((r11 == 0) == r12) = true then
    (some Bool.true)
    else (some Bool.false))
    else (if ((r11 == 0) == r12) = true then
    (some (r14 == 3))
    else (some Bool.false)))
    else (if ((r11 == 0) == r12) = true then
    none
    else (some Bool.false)))))))
    else (if ((r11 == 0) == r12) = true then
    none
    else (if ((r11 == 0) == r12) = true then
    none
    else (some Bool.false)))))
    else (if ((r11 == 0) == r12) = true then
    (if ((r11 == 0) == r12) = true then
    none
    else (if ((r11 == 0) == r12) = true then
    none
    else (some Bool.false)))
    else (if ((r11 == 0) == r12) = true then
    none
    else (if ((r11 == 0) == r12) = true then
    none
    else (some Bool.false)))))
    else (if ((r11 == 0) == r12) = true then
    none
    else (if ((r11 == 0) == r12) = true then
    (if ((r11 == 0) == r12) = true then
    none
    else (if ((r11 == 0) == r12) = true then
    none
    else (some Bool.false)))
    else (if ((r11 == 0) == r12) = true then
    none
    else (if ((r11 == 0) == r12) = true then
    none
    else (some Bool.false))))))
    else (some Bool.false))
    else (if (r9.snd == r10.snd) = true then
    none
    else (some Bool.false))))
    else (if (r9.snd == r10.snd) = true then
    none
    else (if (r9.snd == r10.snd) = true then
    none
    else (some Bool.false))))
    else (if (r9.snd == r10.snd) = true then
    none
    else (if (r9.snd == r10.snd) = true then
    none
    else (if (r9.snd == r10.snd) = true then
    none
    else (some Bool.false)))))
    else (if (r9.snd == r10.snd) = true then
    (if (r9.snd == r10.snd) = true then
    ((ref01_Form K x0_0 x0_1 x0_2).bind fun r15 => (if (r9.snd == r10.snd) = true then
    none
    else (if (r9.snd == r10.snd) = true then
    none
    else (some Bool.false))))
    else (if (r9.snd == r10.snd) = true then
    none
    else (if (r9.snd == r10.snd) = true then
    none
    else (some Bool.false))))
    else (if (r9.snd == r10.snd) = true then
    none
    else (if (r9.snd == r10.snd) = true then
    none
    else (if (r9.snd == r10.snd) = true then
    none
    else (some Bool.false)))))))
    else (if (r9.snd == r10.snd) = true then
    none
    else (if (r9.snd == r10.snd) = true then
    (if (r9.snd == r10.snd) = true then
    ((ref01_Form K x0_0 x0_1 x0_2).bind fun r16 => (if (r9.snd == r10.snd) = true then
    none
    else (if (r9.snd == r10.snd) = true then
    none
    else (some Bool.false))))
    else (if (r9.snd == r10.snd) = true then
    none
    else (if (r9.snd == r10.snd) = true then
    none
    else (some Bool.false))))
    else (if (r9.snd == r10.snd) = true then
    none
    else (if (r9.snd == r10.snd) = true then
    none
    else (if (r9.snd == r10.snd) = true then
    none
    else (some Bool.false)))))))
    else (if (r9.snd == r10.snd) = true then
    none
    else (if (r9.snd == r10.snd) = true then
    none
    else (if (r9.snd == r10.snd) = true then
    (if (r9.snd == r10.snd) = true then
    ((ref01_Form K x0_0 x0_1 x0_2).bind fun r17 => (if (r9.snd == r10.snd) = true then
    none
    else (if (r9.snd == r10.snd) = true then
    none
    else (some Bool.false))))
    else (if (r9.snd == r10.snd) = true then
    none
    else (if (r9.snd == r10.snd) = true then
    none
    else (some Bool.false))))
    else (if (r9.snd == r10.snd) = true then
    none
    else (if (r9.snd == r10.snd) = true then
    none
    else (if (r9.snd == r10.snd) = true then
    none
    else (some Bool.false))))))))
    else (some Bool.false))
    else (if (r9.fst == r10.fst) = true then
    none
    else (some Bool.false)))
    else (if (r9.fst == r10.fst) = true then
    none
    else (if (r9.fst == r10.fst) = true then
    none
    else (some Bool.false))))
    else (if (r9.fst == r10.fst) = true then
    (if (r9.fst == r10.fst) = true then
    none
    else (if (r9.fst == r10.fst) = true then
    none
    else (some Bool.false)))
    else (if (r9.fst == r10.fst) = true then
    none
    else (if (r9.fst == r10.fst) = true then
    none
    else (some Bool.false)))))
    else (some Bool.false))
    else (if (r7.snd.snd.snd == r8.snd.snd.snd) = true then
    none
    else (some Bool.false)))
    else (if (r7.snd.snd.snd == r8.snd.snd.snd) = true then
    none
    else (if (r7.snd.snd.snd == r8.snd.snd.snd) = true then
    none
    else (some Bool.false))))
    else (if (r7.snd.snd.snd == r8.snd.snd.snd) = true then
    (if (r7.snd.snd.snd == r8.snd.snd.snd) = true then
    none
    else (if (r7.snd.snd.snd == r8.snd.snd.snd) = true then
    none
    else (some Bool.false)))
    else (if (r7.snd.snd.snd == r8.snd.snd.snd) = true then
    none
    else (if (r7.snd.snd.snd == r8.snd.snd.snd) = true then
    none
    else (some Bool.false)))))
    else (some Bool.false))
    else (if (r7.fst == r8.fst && (r7.snd.fst == r8.snd.fst && (r7.snd.snd.fst == r8.snd.snd.fst && Bool.true))) = true then
    none
    else (some Bool.false)))
    else (if (r7.fst == r8.fst && (r7.snd.fst == r8.snd.fst && (r7.snd.snd.fst == r8.snd.snd.fst && Bool.true))) = true then
    none
    else (if (r7.fst == r8.fst && (r7.snd.fst == r8.snd.fst && (r7.snd.snd.fst == r8.snd.snd.fst && Bool.true))) = true then
    none
    else (some Bool.false))))
    else (if (r7.fst == r8.fst && (r7.snd.fst == r8.snd.fst && (r7.snd.snd.fst == r8.snd.snd.fst && Bool.true))) = true then
    (if (r7.fst == r8.fst && (r7.snd.fst == r8.snd.fst && (r7.snd.snd.fst == r8.snd.snd.fst && Bool.true))) = true then
    none
    else (if (r7.fst == r8.fst && (r7.snd.fst == r8.snd.fst && (r7.snd.snd.fst == r8.snd.snd.fst && Bool.true))) = true then
    none
    else (some Bool.false)))
    else (if (r7.fst == r8.fst && (r7.snd.fst == r8.snd.fst && (r7.snd.snd.fst == r8.snd.snd.fst && Bool.true))) = true then
    none
    else (if (r7.fst == r8.fst && (r7.snd.fst == r8.snd.fst && (r7.snd.snd.fst == r8.snd.snd.fst && Bool.true))) = true then
    none
    else (some Bool.false)))))))))))))))))))))))
theorem law01_DecSums_eq (K : Nat) (x0_0 : Int) (x0_1 : Int) (x0_2 : Int) (x1_0 : Int) (x1_1 : Int) (x1_2 : Int) : (runF Go.Proofs.Try.prog (env_law01_DecBetween K) (lenv0) Go.Proofs.Try.f14 [.agg [.int .i64, .int .u64, .int .i64], .agg [.int .i64, .int .u64, .int .i64]] [.one (.bool)] law01_DecSums_dec [.i x0_0, .i x0_1, .i x0_2, .i x1_0, .i x1_1, .i x1_2]).den = law01_DecSums K x0_0 x0_1 x0_2 x1_0 x1_1 x1_2 := by kernel_rfl
def law01_DecSums_w (K : Nat) : List U → Option (Bool) := fun us => match us with | [.i x0_0, .i x0_1, .i x0_2, .i x1_0, .i x1_1, .i x1_2] => law01_DecSums K x0_0 x0_1 x0_2 x1_0 x1_1 x1_2 | _ => none
def law01_DecSums_enc : (Bool) → List U := fun r => [.b r]
def law01_DecSums_spec (K : Nat) : Vm.Spec := ⟨[.agg [.int .i64, .int .u64, .int .i64], .agg [.int .i64, .int .u64, .int .i64]], [.one (.bool)], Bool, law01_DecSums_w K, law01_DecSums_enc⟩
theorem law01_DecSums_ok (K : Nat) : FnOk Go.Proofs.Try.prog 14 (law01_DecSums_spec K) := fn_ok' hmix (env_law01_DecBetween_ok K) (lenv := lenv0) (args := [.agg [.int .i64, .int .u64, .int .i64], .agg [.int .i64, .int .u64, .int .i64]]) (res := [.one (.bool)]) (G := law01_DecSums_w K) (enc := law01_DecSums_enc) Go.Proofs.Try.func14 (lps_fn (l := []) (by kernel_rfl) trivial) (dec := law01_DecSums_dec) (fun u r h => by unfold law01_DecSums_dec at h; split at h; (obtain rfl := Option.some.inj h; rfl); cases h) (fun us r h => by unfold law01_DecSums_w at h; split at h; exact (law01_DecSums_eq K _ _ _ _ _ _).trans h; cases h)
def env_law01_DecSums (K : Nat) : FuncId → Option Vm.Spec := addS (env_law01_DecBetween K) 14 (law01_DecSums_spec K)
theorem env_law01_DecSums_ok (K : Nat) : EnvOk Go.Proofs.Try.prog (env_law01_DecSums K) := addS_ok (env_law01_DecBetween_ok K) (.inl ⟨callable Go.Proofs.Try.func14 (by kernel_rfl) (by kernel_rfl), law01_DecSums_ok K⟩)
end Go.Proofs.Ytelnigjdfgdapaa.F
