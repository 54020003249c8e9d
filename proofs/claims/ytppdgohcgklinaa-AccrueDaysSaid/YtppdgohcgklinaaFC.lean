import Derived.Test.YtppdgohcgklinaaVmY
import Derived.Test.YtppdgohcgklinaaProg
import Derived.Test.YtppdgohcgklinaaFB
namespace Go.Proofs.Ytppdgohcgklinaa.F
open Go Go.Proofs.Ytppdgohcgklinaa.Vm
set_option maxRecDepth 1000000
set_option linter.unusedVariables false
-- passbook/cal.leap
def cal_leap_dec : List U → Option (Bool) := fun u => match u with | [.b c0] => some (c0) | _ => none
def cal_leap (K : Nat) (x0 : Int) : Option (Bool) := (bi (x0.tmod 4 == 0)
    (bi (x0.tmod 100 != 0)
    (some Bool.true)
    (some (x0.tmod 400 == 0)))
    (some (x0.tmod 400 == 0)))
theorem cal_leap_eq (K : Nat) (x0 : Int) : (runF Go.Proofs.Try.prog (env_ref01_Rounded K) (lenv0) Go.Proofs.Try.f95 [.one (.int .i64)] [.one (.bool)] cal_leap_dec [.i x0]).den2 = cal_leap K x0 := by kernel_rfl
def cal_leap_w (K : Nat) : List U → Option (Bool) := fun us => match us with | [.i x0] => cal_leap K x0 | _ => none
def cal_leap_enc : (Bool) → List U := fun r => [.b r]
def cal_leap_spec (K : Nat) : Vm.Spec := ⟨[.one (.int .i64)], [.one (.bool)], Bool, cal_leap_w K, cal_leap_enc⟩
theorem cal_leap_ok (K : Nat) : FnOk Go.Proofs.Try.prog 95 (cal_leap_spec K) := fn_ok' hmix (env_ref01_Rounded_ok K) (lenv := lenv0) (args := [.one (.int .i64)]) (res := [.one (.bool)]) (G := cal_leap_w K) (enc := cal_leap_enc) Go.Proofs.Try.func95 (lps_fn (l := []) (by kernel_rfl) trivial) (dec := cal_leap_dec) (fun u r h => by unfold cal_leap_dec at h; split at h; (obtain rfl := Option.some.inj h; rfl); cases h) (fun us r h => by unfold cal_leap_w at h; split at h; exact ((den2_eq _).symm.trans (cal_leap_eq K _)).trans h; cases h)
def env_cal_leap (K : Nat) : FuncId → Option Vm.Spec := addS (env_ref01_Rounded K) 95 (cal_leap_spec K)
theorem env_cal_leap_ok (K : Nat) : EnvOk Go.Proofs.Try.prog (env_cal_leap K) := addS_ok (env_ref01_Rounded_ok K) (.inl ⟨callable Go.Proofs.Try.func95 (by kernel_rfl) (by kernel_rfl), cal_leap_ok K⟩)
-- passbook/cal.length
def cal_length_dec : List U → Option (Int) := fun u => match u with | [.i x0] => some (x0) | _ => none
def cal_length (K : Nat) (x0 : Int) (x1 : Int) : Option (Int) := (bi (x1 == 2)
    ((cal_leap K x0).bind fun r0 => (bi (r0)
    (some (29))
    (bi (x1 == 2)
    (some (28))
    (some (Go.IntKind.i64.wrap (30 + land Go.IntKind.i64 (Go.IntKind.i64.wrap (x1 + x1.fdiv 8)) 1))))))
    (bi (x1 == 2)
    (some (28))
    (some (Go.IntKind.i64.wrap (30 + land Go.IntKind.i64 (Go.IntKind.i64.wrap (x1 + x1.fdiv 8)) 1)))))
theorem cal_length_eq (K : Nat) (x0 : Int) (x1 : Int) : (runF Go.Proofs.Try.prog (env_cal_leap K) (lenv0) Go.Proofs.Try.f88 [.one (.int .i64), .one (.int .i64)] [.one (.int .i64)] cal_length_dec [.i x0, .i x1]).den2 = cal_length K x0 x1 := by kernel_rfl
def cal_length_w (K : Nat) : List U → Option (Int) := fun us => match us with | [.i x0, .i x1] => cal_length K x0 x1 | _ => none
def cal_length_enc : (Int) → List U := fun r => [.i r]
def cal_length_spec (K : Nat) : Vm.Spec := ⟨[.one (.int .i64), .one (.int .i64)], [.one (.int .i64)], Int, cal_length_w K, cal_length_enc⟩
theorem cal_length_ok (K : Nat) : FnOk Go.Proofs.Try.prog 88 (cal_length_spec K) := fn_ok' hmix (env_cal_leap_ok K) (lenv := lenv0) (args := [.one (.int .i64), .one (.int .i64)]) (res := [.one (.int .i64)]) (G := cal_length_w K) (enc := cal_length_enc) Go.Proofs.Try.func88 (lps_fn (l := []) (by kernel_rfl) trivial) (dec := cal_length_dec) (fun u r h => by unfold cal_length_dec at h; split at h; (obtain rfl := Option.some.inj h; rfl); cases h) (fun us r h => by unfold cal_length_w at h; split at h; exact ((den2_eq _).symm.trans (cal_length_eq K _ _)).trans h; cases h)
def env_cal_length (K : Nat) : FuncId → Option Vm.Spec := addS (env_cal_leap K) 88 (cal_length_spec K)
theorem env_cal_length_ok (K : Nat) : EnvOk Go.Proofs.Try.prog (env_cal_length K) := addS_ok (env_cal_leap_ok K) (.inl ⟨callable Go.Proofs.Try.func88 (by kernel_rfl) (by kernel_rfl), cal_length_ok K⟩)
-- passbook/cal.ahead
def cal_ahead_dec : List U → Option (Int) := fun u => match u with | [.i x0] => some (x0) | _ => none
def cal_ahead (K : Nat) (x0 : Int) : Option (Int) := (some (Go.IntKind.i64.wrap
  (Go.IntKind.i64.wrap
      (Go.IntKind.i64.wrap
          (Go.IntKind.i64.wrap (365 * Go.IntKind.i64.wrap (x0 - 1)) +
            Go.IntKind.i64.wrap ((Go.IntKind.i64.wrap (x0 - 1)).tdiv 4)) -
        Go.IntKind.i64.wrap ((Go.IntKind.i64.wrap (x0 - 1)).tdiv 100)) +
    Go.IntKind.i64.wrap ((Go.IntKind.i64.wrap (x0 - 1)).tdiv 400))))
theorem cal_ahead_eq (K : Nat) (x0 : Int) : (runF Go.Proofs.Try.prog (env_cal_length K) (lenv0) Go.Proofs.Try.f89 [.one (.int .i64)] [.one (.int .i64)] cal_ahead_dec [.i x0]).den2 = cal_ahead K x0 := by kernel_rfl
def cal_ahead_w (K : Nat) : List U → Option (Int) := fun us => match us with | [.i x0] => cal_ahead K x0 | _ => none
def cal_ahead_enc : (Int) → List U := fun r => [.i r]
def cal_ahead_spec (K : Nat) : Vm.Spec := ⟨[.one (.int .i64)], [.one (.int .i64)], Int, cal_ahead_w K, cal_ahead_enc⟩
theorem cal_ahead_ok (K : Nat) : FnOk Go.Proofs.Try.prog 89 (cal_ahead_spec K) := fn_ok' hmix (env_cal_length_ok K) (lenv := lenv0) (args := [.one (.int .i64)]) (res := [.one (.int .i64)]) (G := cal_ahead_w K) (enc := cal_ahead_enc) Go.Proofs.Try.func89 (lps_fn (l := []) (by kernel_rfl) trivial) (dec := cal_ahead_dec) (fun u r h => by unfold cal_ahead_dec at h; split at h; (obtain rfl := Option.some.inj h; rfl); cases h) (fun us r h => by unfold cal_ahead_w at h; split at h; exact ((den2_eq _).symm.trans (cal_ahead_eq K _)).trans h; cases h)
def env_cal_ahead (K : Nat) : FuncId → Option Vm.Spec := addS (env_cal_length K) 89 (cal_ahead_spec K)
theorem env_cal_ahead_ok (K : Nat) : EnvOk Go.Proofs.Try.prog (env_cal_ahead K) := addS_ok (env_cal_length_ok K) (.inl ⟨callable Go.Proofs.Try.func89 (by kernel_rfl) (by kernel_rfl), cal_ahead_ok K⟩)
-- passbook/cal.is
def cal_is_dec : List U → Option (Bool) := fun u => match u with | [.b c0] => some (c0) | _ => none
def cal_is (K : Nat) (x0 : Int) : Option (Bool) := (bi (Decidable.decide (x0 ≥ 1))
    (some (Decidable.decide (x0 ≤ 3652059)))
    (some Bool.false))
theorem cal_is_eq (K : Nat) (x0 : Int) : (runF Go.Proofs.Try.prog (env_cal_ahead K) (lenv0) Go.Proofs.Try.f86 [.one (.int .i64)] [.one (.bool)] cal_is_dec [.i x0]).den2 = cal_is K x0 := by kernel_rfl
def cal_is_w (K : Nat) : List U → Option (Bool) := fun us => match us with | [.i x0] => cal_is K x0 | _ => none
def cal_is_enc : (Bool) → List U := fun r => [.b r]
def cal_is_spec (K : Nat) : Vm.Spec := ⟨[.one (.int .i64)], [.one (.bool)], Bool, cal_is_w K, cal_is_enc⟩
theorem cal_is_ok (K : Nat) : FnOk Go.Proofs.Try.prog 86 (cal_is_spec K) := fn_ok' hmix (env_cal_ahead_ok K) (lenv := lenv0) (args := [.one (.int .i64)]) (res := [.one (.bool)]) (G := cal_is_w K) (enc := cal_is_enc) Go.Proofs.Try.func86 (lps_fn (l := []) (by kernel_rfl) trivial) (dec := cal_is_dec) (fun u r h => by unfold cal_is_dec at h; split at h; (obtain rfl := Option.some.inj h; rfl); cases h) (fun us r h => by unfold cal_is_w at h; split at h; exact ((den2_eq _).symm.trans (cal_is_eq K _)).trans h; cases h)
def env_cal_is (K : Nat) : FuncId → Option Vm.Spec := addS (env_cal_ahead K) 86 (cal_is_spec K)
theorem env_cal_is_ok (K : Nat) : EnvOk Go.Proofs.Try.prog (env_cal_is K) := addS_ok (env_cal_ahead_ok K) (.inl ⟨callable Go.Proofs.Try.func86 (by kernel_rfl) (by kernel_rfl), cal_is_ok K⟩)
-- passbook/cal.Length
def cal_Length_dec : List U → Option (Int × Int) := fun u => match u with | [.i x0, .i x1] => some (x0, x1) | _ => none
def cal_Length (K : Nat) (x0 : Int) (x1 : Int) : Option (Int × Int) := (bi (Decidable.decide (x0 < 1))
    (some ((0, 1)))
    (bi (Decidable.decide (x0 > 9999))
    (some ((0, 1)))
    (bi (Decidable.decide (x1 < 1))
    (some ((0, 1)))
    (bi (Decidable.decide (x1 > 12))
    (some ((0, 1)))
    ((cal_length K x0 x1).bind fun r0 => (some ((r0, 0))))))))
theorem cal_Length_eq (K : Nat) (x0 : Int) (x1 : Int) : (runF Go.Proofs.Try.prog (env_cal_is K) (lenv0) Go.Proofs.Try.f66 [.one (.int .i64), .one (.int .i64)] [.one (.int .i64), .one (.int .i64)] cal_Length_dec [.i x0, .i x1]).den2 = cal_Length K x0 x1 := by kernel_rfl
def cal_Length_w (K : Nat) : List U → Option (Int × Int) := fun us => match us with | [.i x0, .i x1] => cal_Length K x0 x1 | _ => none
def cal_Length_enc : (Int × Int) → List U := fun r => [.i r.1, .i r.2]
def cal_Length_spec (K : Nat) : Vm.Spec := ⟨[.one (.int .i64), .one (.int .i64)], [.one (.int .i64), .one (.int .i64)], Int × Int, cal_Length_w K, cal_Length_enc⟩
theorem cal_Length_ok (K : Nat) : FnOk Go.Proofs.Try.prog 66 (cal_Length_spec K) := fn_ok' hmix (env_cal_is_ok K) (lenv := lenv0) (args := [.one (.int .i64), .one (.int .i64)]) (res := [.one (.int .i64), .one (.int .i64)]) (G := cal_Length_w K) (enc := cal_Length_enc) Go.Proofs.Try.func66 (lps_fn (l := []) (by kernel_rfl) trivial) (dec := cal_Length_dec) (fun u r h => by unfold cal_Length_dec at h; split at h; (obtain rfl := Option.some.inj h; rfl); cases h) (fun us r h => by unfold cal_Length_w at h; split at h; exact ((den2_eq _).symm.trans (cal_Length_eq K _ _)).trans h; cases h)
def env_cal_Length (K : Nat) : FuncId → Option Vm.Spec := addS (env_cal_is K) 66 (cal_Length_spec K)
theorem env_cal_Length_ok (K : Nat) : EnvOk Go.Proofs.Try.prog (env_cal_Length K) := addS_ok (env_cal_is_ok K) (.inl ⟨callable Go.Proofs.Try.func66 (by kernel_rfl) (by kernel_rfl), cal_Length_ok K⟩)
-- passbook/cal.Number
def cal_Number_l7_pre : Vm.Pat := ⟨50, [(0, .pv (.one (.int .i64))), (1, .pv (.one (.int .i64))), (8, .pv (.one (.int .i64))), (9, .pv (.one (.int .i64)))], []⟩
def cal_Number_l7_post0 : Vm.Pat := ⟨50, [(8, .pv (.one (.int .i64)))], []⟩
def cal_Number_l7_enc0 : Int → List U := fun r => [.i r]
def cal_Number_l7_dec0 : List U → Option (Int) := fun u => match u with | [.i x8] => some (x8) | _ => none
def cal_Number_l7 (K : Nat) : Nat → Int → Int → Int → Int → Option (Int)
  | 0, _, _, _, _ => none
  | k + 1, x0, x1, x8, x9 => (bi (Decidable.decide (x9 < x1))
    ((cal_length K x0 x9).bind fun r0 => (cal_Number_l7 K k (x0) (x1) (Go.IntKind.i64.wrap (x8 + r0)) (Go.IntKind.i64.wrap (x9 + 1))))
    (some x8))
def cal_Number_l7_w (K k : Nat) : List U → Option (Int) := fun us => match us with | [.i x0, .i x1, .i x8, .i x9] => cal_Number_l7 K k x0 x1 x8 x9 | _ => none
theorem cal_Number_l7_eq (K k : Nat) (x0 : Int) (x1 : Int) (x8 : Int) (x9 : Int) : (round1 Go.Proofs.Try.prog (env_cal_Length K) (lenv0) (lp (bodyOf Go.Proofs.Try.f65) 0) cal_Number_l7_pre (.exit 1) cal_Number_l7_post0 cal_Number_l7_dec0 (cal_Number_l7_w K k) [.i x0, .i x1, .i x8, .i x9]).den2 = cal_Number_l7 K (k + 1) x0 x1 x8 x9 := by kernel_rfl
def cal_Number_l7_s (K : Nat) : Vm.LS := .one cal_Number_l7_pre _ (.exit 1) cal_Number_l7_post0 (cal_Number_l7_w K K) cal_Number_l7_enc0
theorem cal_Number_l7_ok (K : Nat) : LoopOk Go.Proofs.Try.prog (lp (bodyOf Go.Proofs.Try.f65) 0) (cal_Number_l7_s K) := loop_one hmix (env_cal_Length_ok K) (lenv := lenv0) (L := cal_Number_l7_w K) (enc := cal_Number_l7_enc0) (dec := cal_Number_l7_dec0) (lps_ok (l := []) (by kernel_rfl) trivial) (fun u r h => by unfold cal_Number_l7_dec0 at h; split at h; (obtain rfl := Option.some.inj h; rfl); cases h) (fun us => by unfold cal_Number_l7_w; split <;> first | rfl | (simp only [cal_Number_l7])) (fun k us r h => by unfold cal_Number_l7_w at h; split at h; exact ((den2_eq _).symm.trans (cal_Number_l7_eq K k _ _ _ _)).trans h; cases h) K
def cal_Number_v7 (K : Nat) : Nat → Option Vm.LS := addL (lenv0) 7 (cal_Number_l7_s K)
def cal_Number_dec : List U → Option (Int × Int) := fun u => match u with | [.i x0, .i x1] => some (x0, x1) | _ => none
def cal_Number (K : Nat) (x0 : Int) (x1 : Int) (x2 : Int) : Option (Int × Int) := (bi (Decidable.decide (x0 < 1))
    (some ((0, 1)))
    (bi (Decidable.decide (x0 > 9999))
    (some ((0, 1)))
    (bi (Decidable.decide (x1 < 1))
    (some ((0, 9)))
    (bi (Decidable.decide (x1 > 12))
    (some ((0, 9)))
    (bi (Decidable.decide (x2 < 1))
    (some ((0, 9)))
    ((cal_length K x0 x1).bind fun r0 => (bi (Decidable.decide (x2 > r0))
    (some ((0, 9)))
    ((cal_ahead K x0).bind fun r1 => ((cal_Number_l7 K K x0 x1 (Go.IntKind.i64.wrap (r1 + x2)) 1).bind fun r2 => (some ((r2, 0))))))))))))
theorem cal_Number_eq (K : Nat) (x0 : Int) (x1 : Int) (x2 : Int) : (runF Go.Proofs.Try.prog (env_cal_Length K) (cal_Number_v7 K) Go.Proofs.Try.f65 [.one (.int .i64), .one (.int .i64), .one (.int .i64)] [.one (.int .i64), .one (.int .i64)] cal_Number_dec [.i x0, .i x1, .i x2]).den2 = cal_Number K x0 x1 x2 := by kernel_rfl
def cal_Number_w (K : Nat) : List U → Option (Int × Int) := fun us => match us with | [.i x0, .i x1, .i x2] => cal_Number K x0 x1 x2 | _ => none
def cal_Number_enc : (Int × Int) → List U := fun r => [.i r.1, .i r.2]
def cal_Number_spec (K : Nat) : Vm.Spec := ⟨[.one (.int .i64), .one (.int .i64), .one (.int .i64)], [.one (.int .i64), .one (.int .i64)], Int × Int, cal_Number_w K, cal_Number_enc⟩
theorem cal_Number_ok (K : Nat) : FnOk Go.Proofs.Try.prog 65 (cal_Number_spec K) := fn_ok' hmix (env_cal_Length_ok K) (lenv := cal_Number_v7 K) (args := [.one (.int .i64), .one (.int .i64), .one (.int .i64)]) (res := [.one (.int .i64), .one (.int .i64)]) (G := cal_Number_w K) (enc := cal_Number_enc) Go.Proofs.Try.func65 (lps_fn (l := [lp (bodyOf Go.Proofs.Try.f65) 0]) (by kernel_rfl) ⟨⟨7, cal_Number_l7_s K, by kernel_rfl, by kernel_rfl, cal_Number_l7_ok K⟩, trivial⟩) (dec := cal_Number_dec) (fun u r h => by unfold cal_Number_dec at h; split at h; (obtain rfl := Option.some.inj h; rfl); cases h) (fun us r h => by unfold cal_Number_w at h; split at h; exact ((den2_eq _).symm.trans (cal_Number_eq K _ _ _)).trans h; cases h)
def env_cal_Number (K : Nat) : FuncId → Option Vm.Spec := addS (env_cal_Length K) 65 (cal_Number_spec K)
theorem env_cal_Number_ok (K : Nat) : EnvOk Go.Proofs.Try.prog (env_cal_Number K) := addS_ok (env_cal_Length_ok K) (.inl ⟨callable Go.Proofs.Try.func65 (by kernel_rfl) (by kernel_rfl), cal_Number_ok K⟩)
-- passbook/cal.civil
def cal_civil_l6_pre : Vm.Pat := ⟨36, [(0, .pv (.one (.int .i64))), (5, .pv (.one (.int .i64))), (6, .pv (.one (.int .i64)))], []⟩
def cal_civil_l6_post0 : Vm.Pat := ⟨36, [(0, .pv (.one (.int .i64))), (5, .pv (.one (.int .i64))), (6, .pv (.one (.int .i64)))], []⟩
def cal_civil_l6_enc0 : Int × Int × Int → List U := fun r => [.i r.1, .i r.2.1, .i r.2.2]
def cal_civil_l6_dec0 : List U → Option (Int × Int × Int) := fun u => match u with | [.i x0, .i x5, .i x6] => some (x0, x5, x6) | _ => none
def cal_civil_l6 (K : Nat) : Nat → Int → Int → Int → Option (Int × Int × Int)
  | 0, _, _, _ => none
  | k + 1, x0, x5, x6 => ((cal_length K x5 x6).bind fun r0 => (bi (Decidable.decide (x0 > r0))
    ((cal_length K x5 x6).bind fun r1 => (cal_civil_l6 K k (Go.IntKind.i64.wrap (x0 - r1)) (x5) (Go.IntKind.i64.wrap (x6 + 1))))
    (some ((x0, x5, x6)))))
def cal_civil_l6_w (K k : Nat) : List U → Option (Int × Int × Int) := fun us => match us with | [.i x0, .i x5, .i x6] => cal_civil_l6 K k x0 x5 x6 | _ => none
theorem cal_civil_l6_eq (K k : Nat) (x0 : Int) (x5 : Int) (x6 : Int) : (round1 Go.Proofs.Try.prog (env_cal_Number K) (lenv0) (lp (bodyOf Go.Proofs.Try.f87) 1) cal_civil_l6_pre (.exit 2) cal_civil_l6_post0 cal_civil_l6_dec0 (cal_civil_l6_w K k) [.i x0, .i x5, .i x6]).den2 = cal_civil_l6 K (k + 1) x0 x5 x6 := by kernel_rfl
def cal_civil_l6_s (K : Nat) : Vm.LS := .one cal_civil_l6_pre _ (.exit 2) cal_civil_l6_post0 (cal_civil_l6_w K K) cal_civil_l6_enc0
theorem cal_civil_l6_ok (K : Nat) : LoopOk Go.Proofs.Try.prog (lp (bodyOf Go.Proofs.Try.f87) 1) (cal_civil_l6_s K) := loop_one hmix (env_cal_Number_ok K) (lenv := lenv0) (L := cal_civil_l6_w K) (enc := cal_civil_l6_enc0) (dec := cal_civil_l6_dec0) (lps_ok (l := []) (by kernel_rfl) trivial) (fun u r h => by unfold cal_civil_l6_dec0 at h; split at h; (obtain rfl := Option.some.inj h; rfl); cases h) (fun us => by unfold cal_civil_l6_w; split <;> first | rfl | (simp only [cal_civil_l6])) (fun k us r h => by unfold cal_civil_l6_w at h; split at h; exact ((den2_eq _).symm.trans (cal_civil_l6_eq K k _ _ _)).trans h; cases h) K
def cal_civil_v6 (K : Nat) : Nat → Option Vm.LS := addL (lenv0) 6 (cal_civil_l6_s K)
def cal_civil_l2_pre : Vm.Pat := ⟨36, [(0, .pv (.one (.int .i64))), (5, .pv (.one (.int .i64)))], []⟩
def cal_civil_l2_post0 : Vm.Pat := ⟨36, [(0, .pv (.one (.int .i64))), (5, .pv (.one (.int .i64)))], []⟩
def cal_civil_l2_enc0 : Int × Int → List U := fun r => [.i r.1, .i r.2]
def cal_civil_l2_dec0 : List U → Option (Int × Int) := fun u => match u with | [.i x0, .i x5] => some (x0, x5) | _ => none
def cal_civil_l2 (K : Nat) : Nat → Int → Int → Option (Int × Int)
  | 0, _, _ => none
  | k + 1, x0, x5 => ((cal_ahead K (Go.IntKind.i64.wrap (x5 + 1))).bind fun r0 => (bi (Decidable.decide (r0 < x0))
    (cal_civil_l2 K k (x0) (Go.IntKind.i64.wrap (x5 + 1)))
    (some ((x0, x5)))))
def cal_civil_l2_w (K k : Nat) : List U → Option (Int × Int) := fun us => match us with | [.i x0, .i x5] => cal_civil_l2 K k x0 x5 | _ => none
theorem cal_civil_l2_eq (K k : Nat) (x0 : Int) (x5 : Int) : (round1 Go.Proofs.Try.prog (env_cal_Number K) (cal_civil_v6 K) (lp (bodyOf Go.Proofs.Try.f87) 0) cal_civil_l2_pre (.exit 0) cal_civil_l2_post0 cal_civil_l2_dec0 (cal_civil_l2_w K k) [.i x0, .i x5]).den2 = cal_civil_l2 K (k + 1) x0 x5 := by kernel_rfl
def cal_civil_l2_s (K : Nat) : Vm.LS := .one cal_civil_l2_pre _ (.exit 0) cal_civil_l2_post0 (cal_civil_l2_w K K) cal_civil_l2_enc0
theorem cal_civil_l2_ok (K : Nat) : LoopOk Go.Proofs.Try.prog (lp (bodyOf Go.Proofs.Try.f87) 0) (cal_civil_l2_s K) := loop_one hmix (env_cal_Number_ok K) (lenv := cal_civil_v6 K) (L := cal_civil_l2_w K) (enc := cal_civil_l2_enc0) (dec := cal_civil_l2_dec0) (lps_ok (l := []) (by kernel_rfl) trivial) (fun u r h => by unfold cal_civil_l2_dec0 at h; split at h; (obtain rfl := Option.some.inj h; rfl); cases h) (fun us => by unfold cal_civil_l2_w; split <;> first | rfl | (simp only [cal_civil_l2])) (fun k us r h => by unfold cal_civil_l2_w at h; split at h; exact ((den2_eq _).symm.trans (cal_civil_l2_eq K k _ _)).trans h; cases h) K
def cal_civil_v2 (K : Nat) : Nat → Option Vm.LS := addL (cal_civil_v6 K) 2 (cal_civil_l2_s K)
def cal_civil_dec : List U → Option (Int × Int × Int) := fun u => match u with | [.i x0, .i x1, .i x2] => some (x0, x1, x2) | _ => none
def cal_civil (K : Nat) (x0 : Int) : Option (Int × Int × Int) := ((cal_civil_l2 K K x0 (Go.IntKind.i64.wrap (Go.IntKind.i64.wrap (x0.tdiv 366) + 1))).bind fun r0 => ((cal_ahead K r0.snd).bind fun r1 => ((cal_civil_l6 K K (Go.IntKind.i64.wrap (r0.fst - r1)) r0.snd 1).bind fun r2 => (some ((r2.snd.fst, r2.snd.snd, r2.fst))))))
theorem cal_civil_eq (K : Nat) (x0 : Int) : (runF Go.Proofs.Try.prog (env_cal_Number K) (cal_civil_v2 K) Go.Proofs.Try.f87 [.one (.int .i64)] [.one (.int .i64), .one (.int .i64), .one (.int .i64)] cal_civil_dec [.i x0]).den2 = cal_civil K x0 := by kernel_rfl
def cal_civil_w (K : Nat) : List U → Option (Int × Int × Int) := fun us => match us with | [.i x0] => cal_civil K x0 | _ => none
def cal_civil_enc : (Int × Int × Int) → List U := fun r => [.i r.1, .i r.2.1, .i r.2.2]
def cal_civil_spec (K : Nat) : Vm.Spec := ⟨[.one (.int .i64)], [.one (.int .i64), .one (.int .i64), .one (.int .i64)], Int × Int × Int, cal_civil_w K, cal_civil_enc⟩
theorem cal_civil_ok (K : Nat) : FnOk Go.Proofs.Try.prog 87 (cal_civil_spec K) := fn_ok' hmix (env_cal_Number_ok K) (lenv := cal_civil_v2 K) (args := [.one (.int .i64)]) (res := [.one (.int .i64), .one (.int .i64), .one (.int .i64)]) (G := cal_civil_w K) (enc := cal_civil_enc) Go.Proofs.Try.func87 (lps_fn (l := [lp (bodyOf Go.Proofs.Try.f87) 0, lp (bodyOf Go.Proofs.Try.f87) 1]) (by kernel_rfl) ⟨⟨2, cal_civil_l2_s K, by kernel_rfl, by kernel_rfl, cal_civil_l2_ok K⟩, ⟨⟨6, cal_civil_l6_s K, by kernel_rfl, by kernel_rfl, cal_civil_l6_ok K⟩, trivial⟩⟩) (dec := cal_civil_dec) (fun u r h => by unfold cal_civil_dec at h; split at h; (obtain rfl := Option.some.inj h; rfl); cases h) (fun us r h => by unfold cal_civil_w at h; split at h; exact ((den2_eq _).symm.trans (cal_civil_eq K _)).trans h; cases h)
def env_cal_civil (K : Nat) : FuncId → Option Vm.Spec := addS (env_cal_Number K) 87 (cal_civil_spec K)
theorem env_cal_civil_ok (K : Nat) : EnvOk Go.Proofs.Try.prog (env_cal_civil K) := addS_ok (env_cal_Number_ok K) (.inl ⟨callable Go.Proofs.Try.func87 (by kernel_rfl) (by kernel_rfl), cal_civil_ok K⟩)
-- passbook/cal.Civil
def cal_Civil_dec : List U → Option (Int × Int × Int × Int) := fun u => match u with | [.i x0, .i x1, .i x2, .i x3] => some (x0, x1, x2, x3) | _ => none
def cal_Civil (K : Nat) (x0 : Int) : Option (Int × Int × Int × Int) := ((cal_is K x0).bind fun r0 => (bi (!r0)
    (some ((0, 0, 0, 1)))
    ((cal_civil K x0).bind fun r1 => (some ((r1.fst, r1.snd.fst, r1.snd.snd, 0))))))
theorem cal_Civil_eq (K : Nat) (x0 : Int) : (runF Go.Proofs.Try.prog (env_cal_civil K) (lenv0) Go.Proofs.Try.f64 [.one (.int .i64)] [.one (.int .i64), .one (.int .i64), .one (.int .i64), .one (.int .i64)] cal_Civil_dec [.i x0]).den2 = cal_Civil K x0 := by kernel_rfl
def cal_Civil_w (K : Nat) : List U → Option (Int × Int × Int × Int) := fun us => match us with | [.i x0] => cal_Civil K x0 | _ => none
def cal_Civil_enc : (Int × Int × Int × Int) → List U := fun r => [.i r.1, .i r.2.1, .i r.2.2.1, .i r.2.2.2]
def cal_Civil_spec (K : Nat) : Vm.Spec := ⟨[.one (.int .i64)], [.one (.int .i64), .one (.int .i64), .one (.int .i64), .one (.int .i64)], Int × Int × Int × Int, cal_Civil_w K, cal_Civil_enc⟩
theorem cal_Civil_ok (K : Nat) : FnOk Go.Proofs.Try.prog 64 (cal_Civil_spec K) := fn_ok' hmix (env_cal_civil_ok K) (lenv := lenv0) (args := [.one (.int .i64)]) (res := [.one (.int .i64), .one (.int .i64), .one (.int .i64), .one (.int .i64)]) (G := cal_Civil_w K) (enc := cal_Civil_enc) Go.Proofs.Try.func64 (lps_fn (l := []) (by kernel_rfl) trivial) (dec := cal_Civil_dec) (fun u r h => by unfold cal_Civil_dec at h; split at h; (obtain rfl := Option.some.inj h; rfl); cases h) (fun us r h => by unfold cal_Civil_w at h; split at h; exact ((den2_eq _).symm.trans (cal_Civil_eq K _)).trans h; cases h)
def env_cal_Civil (K : Nat) : FuncId → Option Vm.Spec := addS (env_cal_civil K) 64 (cal_Civil_spec K)
theorem env_cal_Civil_ok (K : Nat) : EnvOk Go.Proofs.Try.prog (env_cal_Civil K) := addS_ok (env_cal_civil_ok K) (.inl ⟨callable Go.Proofs.Try.func64 (by kernel_rfl) (by kernel_rfl), cal_Civil_ok K⟩)
-- passbook/passbookref03.Leap
def ref03_Leap_dec : List U → Option (Bool) := fun u => match u with | [.b c0] => some (c0) | _ => none
def ref03_Leap (K : Nat) (x0 : Int) : Option (Bool) := (bi (x0.tmod 100 == 0)
    (some (x0.tmod 400 == 0))
    (some (x0.tmod 4 == 0)))
theorem ref03_Leap_eq (K : Nat) (x0 : Int) : (runF Go.Proofs.Try.prog (env_cal_Civil K) (lenv0) Go.Proofs.Try.f83 [.one (.int .i64)] [.one (.bool)] ref03_Leap_dec [.i x0]).den2 = ref03_Leap K x0 := by kernel_rfl
def ref03_Leap_w (K : Nat) : List U → Option (Bool) := fun us => match us with | [.i x0] => ref03_Leap K x0 | _ => none
def ref03_Leap_enc : (Bool) → List U := fun r => [.b r]
def ref03_Leap_spec (K : Nat) : Vm.Spec := ⟨[.one (.int .i64)], [.one (.bool)], Bool, ref03_Leap_w K, ref03_Leap_enc⟩
theorem ref03_Leap_ok (K : Nat) : FnOk Go.Proofs.Try.prog 83 (ref03_Leap_spec K) := fn_ok' hmix (env_cal_Civil_ok K) (lenv := lenv0) (args := [.one (.int .i64)]) (res := [.one (.bool)]) (G := ref03_Leap_w K) (enc := ref03_Leap_enc) Go.Proofs.Try.func83 (lps_fn (l := []) (by kernel_rfl) trivial) (dec := ref03_Leap_dec) (fun u r h => by unfold ref03_Leap_dec at h; split at h; (obtain rfl := Option.some.inj h; rfl); cases h) (fun us r h => by unfold ref03_Leap_w at h; split at h; exact ((den2_eq _).symm.trans (ref03_Leap_eq K _)).trans h; cases h)
def env_ref03_Leap (K : Nat) : FuncId → Option Vm.Spec := addS (env_cal_Civil K) 83 (ref03_Leap_spec K)
theorem env_ref03_Leap_ok (K : Nat) : EnvOk Go.Proofs.Try.prog (env_ref03_Leap K) := addS_ok (env_cal_Civil_ok K) (.inl ⟨callable Go.Proofs.Try.func83 (by kernel_rfl) (by kernel_rfl), ref03_Leap_ok K⟩)
-- passbook/passbookref03.Length
def ref03_Length_dec : List U → Option (Int) := fun u => match u with | [.i x0] => some (x0) | _ => none
def ref03_Length (K : Nat) (x0 : Int) (x1 : Int) : Option (Int) := (bi (x1 == 4)
    (some (30))
    (bi (x1 == 6)
    (some (30))
    (bi (x1 == 9)
    (some (30))
    (bi (x1 == 11)
    (some (30))
    (bi (x1 == 2)
    ((ref03_Leap K x0).bind fun r0 => (bi (r0)
    (some (29))
    (some (28))))
    (some (31)))))))
theorem ref03_Length_eq (K : Nat) (x0 : Int) (x1 : Int) : (runF Go.Proofs.Try.prog (env_ref03_Leap K) (lenv0) Go.Proofs.Try.f92 [.one (.int .i64), .one (.int .i64)] [.one (.int .i64)] ref03_Length_dec [.i x0, .i x1]).den2 = ref03_Length K x0 x1 := by kernel_rfl
def ref03_Length_w (K : Nat) : List U → Option (Int) := fun us => match us with | [.i x0, .i x1] => ref03_Length K x0 x1 | _ => none
def ref03_Length_enc : (Int) → List U := fun r => [.i r]
def ref03_Length_spec (K : Nat) : Vm.Spec := ⟨[.one (.int .i64), .one (.int .i64)], [.one (.int .i64)], Int, ref03_Length_w K, ref03_Length_enc⟩
theorem ref03_Length_ok (K : Nat) : FnOk Go.Proofs.Try.prog 92 (ref03_Length_spec K) := fn_ok' hmix (env_ref03_Leap_ok K) (lenv := lenv0) (args := [.one (.int .i64), .one (.int .i64)]) (res := [.one (.int .i64)]) (G := ref03_Length_w K) (enc := ref03_Length_enc) Go.Proofs.Try.func92 (lps_fn (l := []) (by kernel_rfl) trivial) (dec := ref03_Length_dec) (fun u r h => by unfold ref03_Length_dec at h; split at h; (obtain rfl := Option.some.inj h; rfl); cases h) (fun us r h => by unfold ref03_Length_w at h; split at h; exact ((den2_eq _).symm.trans (ref03_Length_eq K _ _)).trans h; cases h)
def env_ref03_Length (K : Nat) : FuncId → Option Vm.Spec := addS (env_ref03_Leap K) 92 (ref03_Length_spec K)
theorem env_ref03_Length_ok (K : Nat) : EnvOk Go.Proofs.Try.prog (env_ref03_Length K) := addS_ok (env_ref03_Leap_ok K) (.inl ⟨callable Go.Proofs.Try.func92 (by kernel_rfl) (by kernel_rfl), ref03_Length_ok K⟩)
-- passbook/passbookref03.Year
def ref03_Year_dec : List U → Option (Int) := fun u => match u with | [.i x0] => some (x0) | _ => none
def ref03_Year (K : Nat) (x0 : Int) : Option (Int) := ((ref03_Leap K x0).bind fun r0 => (bi (r0)
    (some (366))
    (some (365))))
theorem ref03_Year_eq (K : Nat) (x0 : Int) : (runF Go.Proofs.Try.prog (env_ref03_Length K) (lenv0) Go.Proofs.Try.f91 [.one (.int .i64)] [.one (.int .i64)] ref03_Year_dec [.i x0]).den2 = ref03_Year K x0 := by kernel_rfl
def ref03_Year_w (K : Nat) : List U → Option (Int) := fun us => match us with | [.i x0] => ref03_Year K x0 | _ => none
def ref03_Year_enc : (Int) → List U := fun r => [.i r]
def ref03_Year_spec (K : Nat) : Vm.Spec := ⟨[.one (.int .i64)], [.one (.int .i64)], Int, ref03_Year_w K, ref03_Year_enc⟩
theorem ref03_Year_ok (K : Nat) : FnOk Go.Proofs.Try.prog 91 (ref03_Year_spec K) := fn_ok' hmix (env_ref03_Length_ok K) (lenv := lenv0) (args := [.one (.int .i64)]) (res := [.one (.int .i64)]) (G := ref03_Year_w K) (enc := ref03_Year_enc) Go.Proofs.Try.func91 (lps_fn (l := []) (by kernel_rfl) trivial) (dec := ref03_Year_dec) (fun u r h => by unfold ref03_Year_dec at h; split at h; (obtain rfl := Option.some.inj h; rfl); cases h) (fun us r h => by unfold ref03_Year_w at h; split at h; exact ((den2_eq _).symm.trans (ref03_Year_eq K _)).trans h; cases h)
def env_ref03_Year (K : Nat) : FuncId → Option Vm.Spec := addS (env_ref03_Length K) 91 (ref03_Year_spec K)
theorem env_ref03_Year_ok (K : Nat) : EnvOk Go.Proofs.Try.prog (env_ref03_Year K) := addS_ok (env_ref03_Length_ok K) (.inl ⟨callable Go.Proofs.Try.func91 (by kernel_rfl) (by kernel_rfl), ref03_Year_ok K⟩)
-- passbook/passbookref03.Is
def ref03_Is_dec : List U → Option (Bool) := fun u => match u with | [.b c0] => some (c0) | _ => none
def ref03_Is (K : Nat) (x0 : Int) : Option (Bool) := (bi (Decidable.decide (x0 ≥ 1))
    (some (Decidable.decide (x0 ≤ 3652059)))
    (some Bool.false))
theorem ref03_Is_eq (K : Nat) (x0 : Int) : (runF Go.Proofs.Try.prog (env_ref03_Year K) (lenv0) Go.Proofs.Try.f54 [.one (.int .i64)] [.one (.bool)] ref03_Is_dec [.i x0]).den2 = ref03_Is K x0 := by kernel_rfl
def ref03_Is_w (K : Nat) : List U → Option (Bool) := fun us => match us with | [.i x0] => ref03_Is K x0 | _ => none
def ref03_Is_enc : (Bool) → List U := fun r => [.b r]
def ref03_Is_spec (K : Nat) : Vm.Spec := ⟨[.one (.int .i64)], [.one (.bool)], Bool, ref03_Is_w K, ref03_Is_enc⟩
theorem ref03_Is_ok (K : Nat) : FnOk Go.Proofs.Try.prog 54 (ref03_Is_spec K) := fn_ok' hmix (env_ref03_Year_ok K) (lenv := lenv0) (args := [.one (.int .i64)]) (res := [.one (.bool)]) (G := ref03_Is_w K) (enc := ref03_Is_enc) Go.Proofs.Try.func54 (lps_fn (l := []) (by kernel_rfl) trivial) (dec := ref03_Is_dec) (fun u r h => by unfold ref03_Is_dec at h; split at h; (obtain rfl := Option.some.inj h; rfl); cases h) (fun us r h => by unfold ref03_Is_w at h; split at h; exact ((den2_eq _).symm.trans (ref03_Is_eq K _)).trans h; cases h)
def env_ref03_Is (K : Nat) : FuncId → Option Vm.Spec := addS (env_ref03_Year K) 54 (ref03_Is_spec K)
theorem env_ref03_Is_ok (K : Nat) : EnvOk Go.Proofs.Try.prog (env_ref03_Is K) := addS_ok (env_ref03_Year_ok K) (.inl ⟨callable Go.Proofs.Try.func54 (by kernel_rfl) (by kernel_rfl), ref03_Is_ok K⟩)
-- passbook/passbookref03.Civil
def ref03_Civil_l7_pre : Vm.Pat := ⟨41, [(0, .pv (.one (.int .i64))), (5, .pv (.one (.int .i64))), (6, .pv (.one (.int .i64)))], []⟩
def ref03_Civil_l7_post0 : Vm.Pat := ⟨41, [(0, .pv (.one (.int .i64))), (5, .pv (.one (.int .i64))), (6, .pv (.one (.int .i64)))], []⟩
def ref03_Civil_l7_enc0 : Int × Int × Int → List U := fun r => [.i r.1, .i r.2.1, .i r.2.2]
def ref03_Civil_l7_dec0 : List U → Option (Int × Int × Int) := fun u => match u with | [.i x0, .i x5, .i x6] => some (x0, x5, x6) | _ => none
def ref03_Civil_l7 (K : Nat) : Nat → Int → Int → Int → Option (Int × Int × Int)
  | 0, _, _, _ => none
  | k + 1, x0, x5, x6 => ((ref03_Length K x5 x6).bind fun r0 => (bi (Decidable.decide (x0 ≥ r0))
    ((ref03_Length K x5 x6).bind fun r1 => (ref03_Civil_l7 K k (Go.IntKind.i64.wrap (x0 - r1)) (x5) (Go.IntKind.i64.wrap (x6 + 1))))
    (some ((x0, x5, x6)))))
def ref03_Civil_l7_w (K k : Nat) : List U → Option (Int × Int × Int) := fun us => match us with | [.i x0, .i x5, .i x6] => ref03_Civil_l7 K k x0 x5 x6 | _ => none
theorem ref03_Civil_l7_eq (K k : Nat) (x0 : Int) (x5 : Int) (x6 : Int) : (round1 Go.Proofs.Try.prog (env_ref03_Is K) (lenv0) (lp (bodyOf Go.Proofs.Try.f81) 1) ref03_Civil_l7_pre (.exit 2) ref03_Civil_l7_post0 ref03_Civil_l7_dec0 (ref03_Civil_l7_w K k) [.i x0, .i x5, .i x6]).den2 = ref03_Civil_l7 K (k + 1) x0 x5 x6 := by kernel_rfl
def ref03_Civil_l7_s (K : Nat) : Vm.LS := .one ref03_Civil_l7_pre _ (.exit 2) ref03_Civil_l7_post0 (ref03_Civil_l7_w K K) ref03_Civil_l7_enc0
theorem ref03_Civil_l7_ok (K : Nat) : LoopOk Go.Proofs.Try.prog (lp (bodyOf Go.Proofs.Try.f81) 1) (ref03_Civil_l7_s K) := loop_one hmix (env_ref03_Is_ok K) (lenv := lenv0) (L := ref03_Civil_l7_w K) (enc := ref03_Civil_l7_enc0) (dec := ref03_Civil_l7_dec0) (lps_ok (l := []) (by kernel_rfl) trivial) (fun u r h => by unfold ref03_Civil_l7_dec0 at h; split at h; (obtain rfl := Option.some.inj h; rfl); cases h) (fun us => by unfold ref03_Civil_l7_w; split <;> first | rfl | (simp only [ref03_Civil_l7])) (fun k us r h => by unfold ref03_Civil_l7_w at h; split at h; exact ((den2_eq _).symm.trans (ref03_Civil_l7_eq K k _ _ _)).trans h; cases h) K
def ref03_Civil_v7 (K : Nat) : Nat → Option Vm.LS := addL (lenv0) 7 (ref03_Civil_l7_s K)
def ref03_Civil_l3_pre : Vm.Pat := ⟨41, [(0, .pv (.one (.int .i64))), (5, .pv (.one (.int .i64)))], []⟩
def ref03_Civil_l3_post0 : Vm.Pat := ⟨41, [(0, .pv (.one (.int .i64))), (5, .pv (.one (.int .i64)))], []⟩
def ref03_Civil_l3_enc0 : Int × Int → List U := fun r => [.i r.1, .i r.2]
def ref03_Civil_l3_dec0 : List U → Option (Int × Int) := fun u => match u with | [.i x0, .i x5] => some (x0, x5) | _ => none
def ref03_Civil_l3 (K : Nat) : Nat → Int → Int → Option (Int × Int)
  | 0, _, _ => none
  | k + 1, x0, x5 => ((ref03_Year K x5).bind fun r0 => (bi (Decidable.decide (x0 ≥ r0))
    ((ref03_Year K x5).bind fun r1 => (ref03_Civil_l3 K k (Go.IntKind.i64.wrap (x0 - r1)) (Go.IntKind.i64.wrap (x5 + 1))))
    (some ((x0, x5)))))
def ref03_Civil_l3_w (K k : Nat) : List U → Option (Int × Int) := fun us => match us with | [.i x0, .i x5] => ref03_Civil_l3 K k x0 x5 | _ => none
theorem ref03_Civil_l3_eq (K k : Nat) (x0 : Int) (x5 : Int) : (round1 Go.Proofs.Try.prog (env_ref03_Is K) (ref03_Civil_v7 K) (lp (bodyOf Go.Proofs.Try.f81) 0) ref03_Civil_l3_pre (.exit 0) ref03_Civil_l3_post0 ref03_Civil_l3_dec0 (ref03_Civil_l3_w K k) [.i x0, .i x5]).den2 = ref03_Civil_l3 K (k + 1) x0 x5 := by kernel_rfl
def ref03_Civil_l3_s (K : Nat) : Vm.LS := .one ref03_Civil_l3_pre _ (.exit 0) ref03_Civil_l3_post0 (ref03_Civil_l3_w K K) ref03_Civil_l3_enc0
theorem ref03_Civil_l3_ok (K : Nat) : LoopOk Go.Proofs.Try.prog (lp (bodyOf Go.Proofs.Try.f81) 0) (ref03_Civil_l3_s K) := loop_one hmix (env_ref03_Is_ok K) (lenv := ref03_Civil_v7 K) (L := ref03_Civil_l3_w K) (enc := ref03_Civil_l3_enc0) (dec := ref03_Civil_l3_dec0) (lps_ok (l := []) (by kernel_rfl) trivial) (fun u r h => by unfold ref03_Civil_l3_dec0 at h; split at h; (obtain rfl := Option.some.inj h; rfl); cases h) (fun us => by unfold ref03_Civil_l3_w; split <;> first | rfl | (simp only [ref03_Civil_l3])) (fun k us r h => by unfold ref03_Civil_l3_w at h; split at h; exact ((den2_eq _).symm.trans (ref03_Civil_l3_eq K k _ _)).trans h; cases h) K
def ref03_Civil_v3 (K : Nat) : Nat → Option Vm.LS := addL (ref03_Civil_v7 K) 3 (ref03_Civil_l3_s K)
def ref03_Civil_dec : List U → Option (Int × Int × Int) := fun u => match u with | [.i x0, .i x1, .i x2] => some (x0, x1, x2) | _ => none
def ref03_Civil (K : Nat) (x0 : Int) : Option (Int × Int × Int) := ((ref03_Civil_l3 K K ((Go.IntKind.i64.wrap (x0 - 1)).tmod 146097)
  (Go.IntKind.i64.wrap
    (1 + Go.IntKind.i64.wrap (400 * Go.IntKind.i64.wrap ((Go.IntKind.i64.wrap (x0 - 1)).tdiv 146097))))).bind fun r0 => ((ref03_Civil_l7 K K r0.fst r0.snd 1).bind fun r1 => (some ((r1.snd.fst, r1.snd.snd, Go.IntKind.i64.wrap (r1.fst + 1))))))
theorem ref03_Civil_eq (K : Nat) (x0 : Int) : (runF Go.Proofs.Try.prog (env_ref03_Is K) (ref03_Civil_v3 K) Go.Proofs.Try.f81 [.one (.int .i64)] [.one (.int .i64), .one (.int .i64), .one (.int .i64)] ref03_Civil_dec [.i x0]).den2 = ref03_Civil K x0 := by kernel_rfl
def ref03_Civil_w (K : Nat) : List U → Option (Int × Int × Int) := fun us => match us with | [.i x0] => ref03_Civil K x0 | _ => none
def ref03_Civil_enc : (Int × Int × Int) → List U := fun r => [.i r.1, .i r.2.1, .i r.2.2]
def ref03_Civil_spec (K : Nat) : Vm.Spec := ⟨[.one (.int .i64)], [.one (.int .i64), .one (.int .i64), .one (.int .i64)], Int × Int × Int, ref03_Civil_w K, ref03_Civil_enc⟩
theorem ref03_Civil_ok (K : Nat) : FnOk Go.Proofs.Try.prog 81 (ref03_Civil_spec K) := fn_ok' hmix (env_ref03_Is_ok K) (lenv := ref03_Civil_v3 K) (args := [.one (.int .i64)]) (res := [.one (.int .i64), .one (.int .i64), .one (.int .i64)]) (G := ref03_Civil_w K) (enc := ref03_Civil_enc) Go.Proofs.Try.func81 (lps_fn (l := [lp (bodyOf Go.Proofs.Try.f81) 0, lp (bodyOf Go.Proofs.Try.f81) 1]) (by kernel_rfl) ⟨⟨3, ref03_Civil_l3_s K, by kernel_rfl, by kernel_rfl, ref03_Civil_l3_ok K⟩, ⟨⟨7, ref03_Civil_l7_s K, by kernel_rfl, by kernel_rfl, ref03_Civil_l7_ok K⟩, trivial⟩⟩) (dec := ref03_Civil_dec) (fun u r h => by unfold ref03_Civil_dec at h; split at h; (obtain rfl := Option.some.inj h; rfl); cases h) (fun us r h => by unfold ref03_Civil_w at h; split at h; exact ((den2_eq _).symm.trans (ref03_Civil_eq K _)).trans h; cases h)
def env_ref03_Civil (K : Nat) : FuncId → Option Vm.Spec := addS (env_ref03_Is K) 81 (ref03_Civil_spec K)
theorem env_ref03_Civil_ok (K : Nat) : EnvOk Go.Proofs.Try.prog (env_ref03_Civil K) := addS_ok (env_ref03_Is_ok K) (.inl ⟨callable Go.Proofs.Try.func81 (by kernel_rfl) (by kernel_rfl), ref03_Civil_ok K⟩)
-- passbook/passbookref03.Number
def ref03_Number_l7_pre : Vm.Pat := ⟨41, [(0, .pv (.one (.int .i64))), (1, .pv (.one (.int .i64))), (2, .pv (.one (.int .i64))), (7, .pv (.one (.int .i64))), (9, .pv (.one (.int .i64)))], []⟩
def ref03_Number_l7_post0 : Vm.Pat := ⟨41, [(2, .pv (.one (.int .i64))), (7, .pv (.one (.int .i64)))], []⟩
def ref03_Number_l7_enc0 : Int × Int → List U := fun r => [.i r.1, .i r.2]
def ref03_Number_l7_dec0 : List U → Option (Int × Int) := fun u => match u with | [.i x2, .i x7] => some (x2, x7) | _ => none
def ref03_Number_l7 (K : Nat) : Nat → Int → Int → Int → Int → Int → Option (Int × Int)
  | 0, _, _, _, _, _ => none
  | k + 1, x0, x1, x2, x7, x9 => (bi (Decidable.decide (x9 < x1))
    ((ref03_Length K x0 x9).bind fun r0 => (ref03_Number_l7 K k (x0) (x1) (x2) (Go.IntKind.i64.wrap (x7 + r0)) (Go.IntKind.i64.wrap (x9 + 1))))
    (some ((x2, x7))))
def ref03_Number_l7_w (K k : Nat) : List U → Option (Int × Int) := fun us => match us with | [.i x0, .i x1, .i x2, .i x7, .i x9] => ref03_Number_l7 K k x0 x1 x2 x7 x9 | _ => none
theorem ref03_Number_l7_eq (K k : Nat) (x0 : Int) (x1 : Int) (x2 : Int) (x7 : Int) (x9 : Int) : (round1 Go.Proofs.Try.prog (env_ref03_Civil K) (lenv0) (lp (bodyOf Go.Proofs.Try.f82) 1) ref03_Number_l7_pre (.exit 2) ref03_Number_l7_post0 ref03_Number_l7_dec0 (ref03_Number_l7_w K k) [.i x0, .i x1, .i x2, .i x7, .i x9]).den2 = ref03_Number_l7 K (k + 1) x0 x1 x2 x7 x9 := by kernel_rfl
def ref03_Number_l7_s (K : Nat) : Vm.LS := .one ref03_Number_l7_pre _ (.exit 2) ref03_Number_l7_post0 (ref03_Number_l7_w K K) ref03_Number_l7_enc0
theorem ref03_Number_l7_ok (K : Nat) : LoopOk Go.Proofs.Try.prog (lp (bodyOf Go.Proofs.Try.f82) 1) (ref03_Number_l7_s K) := loop_one hmix (env_ref03_Civil_ok K) (lenv := lenv0) (L := ref03_Number_l7_w K) (enc := ref03_Number_l7_enc0) (dec := ref03_Number_l7_dec0) (lps_ok (l := []) (by kernel_rfl) trivial) (fun u r h => by unfold ref03_Number_l7_dec0 at h; split at h; (obtain rfl := Option.some.inj h; rfl); cases h) (fun us => by unfold ref03_Number_l7_w; split <;> first | rfl | (simp only [ref03_Number_l7])) (fun k us r h => by unfold ref03_Number_l7_w at h; split at h; exact ((den2_eq _).symm.trans (ref03_Number_l7_eq K k _ _ _ _ _)).trans h; cases h) K
def ref03_Number_v7 (K : Nat) : Nat → Option Vm.LS := addL (lenv0) 7 (ref03_Number_l7_s K)
def ref03_Number_l3_pre : Vm.Pat := ⟨41, [(0, .pv (.one (.int .i64))), (1, .pv (.one (.int .i64))), (2, .pv (.one (.int .i64))), (7, .pv (.one (.int .i64))), (8, .pv (.one (.int .i64)))], []⟩
def ref03_Number_l3_post0 : Vm.Pat := ⟨41, [(0, .pv (.one (.int .i64))), (1, .pv (.one (.int .i64))), (2, .pv (.one (.int .i64))), (7, .pv (.one (.int .i64)))], []⟩
def ref03_Number_l3_enc0 : Int × Int × Int × Int → List U := fun r => [.i r.1, .i r.2.1, .i r.2.2.1, .i r.2.2.2]
def ref03_Number_l3_dec0 : List U → Option (Int × Int × Int × Int) := fun u => match u with | [.i x0, .i x1, .i x2, .i x7] => some (x0, x1, x2, x7) | _ => none
def ref03_Number_l3 (K : Nat) : Nat → Int → Int → Int → Int → Int → Option (Int × Int × Int × Int)
  | 0, _, _, _, _, _ => none
  | k + 1, x0, x1, x2, x7, x8 => (bi (Decidable.decide (x8 < x0))
    ((ref03_Year K x8).bind fun r0 => (ref03_Number_l3 K k (x0) (x1) (x2) (Go.IntKind.i64.wrap (x7 + r0)) (Go.IntKind.i64.wrap (x8 + 1))))
    (some ((x0, x1, x2, x7))))
def ref03_Number_l3_w (K k : Nat) : List U → Option (Int × Int × Int × Int) := fun us => match us with | [.i x0, .i x1, .i x2, .i x7, .i x8] => ref03_Number_l3 K k x0 x1 x2 x7 x8 | _ => none
theorem ref03_Number_l3_eq (K k : Nat) (x0 : Int) (x1 : Int) (x2 : Int) (x7 : Int) (x8 : Int) : (round1 Go.Proofs.Try.prog (env_ref03_Civil K) (ref03_Number_v7 K) (lp (bodyOf Go.Proofs.Try.f82) 0) ref03_Number_l3_pre (.exit 0) ref03_Number_l3_post0 ref03_Number_l3_dec0 (ref03_Number_l3_w K k) [.i x0, .i x1, .i x2, .i x7, .i x8]).den2 = ref03_Number_l3 K (k + 1) x0 x1 x2 x7 x8 := by kernel_rfl
def ref03_Number_l3_s (K : Nat) : Vm.LS := .one ref03_Number_l3_pre _ (.exit 0) ref03_Number_l3_post0 (ref03_Number_l3_w K K) ref03_Number_l3_enc0
theorem ref03_Number_l3_ok (K : Nat) : LoopOk Go.Proofs.Try.prog (lp (bodyOf Go.Proofs.Try.f82) 0) (ref03_Number_l3_s K) := loop_one hmix (env_ref03_Civil_ok K) (lenv := ref03_Number_v7 K) (L := ref03_Number_l3_w K) (enc := ref03_Number_l3_enc0) (dec := ref03_Number_l3_dec0) (lps_ok (l := []) (by kernel_rfl) trivial) (fun u r h => by unfold ref03_Number_l3_dec0 at h; split at h; (obtain rfl := Option.some.inj h; rfl); cases h) (fun us => by unfold ref03_Number_l3_w; split <;> first | rfl | (simp only [ref03_Number_l3])) (fun k us r h => by unfold ref03_Number_l3_w at h; split at h; exact ((den2_eq _).symm.trans (ref03_Number_l3_eq K k _ _ _ _ _)).trans h; cases h) K
def ref03_Number_v3 (K : Nat) : Nat → Option Vm.LS := addL (ref03_Number_v7 K) 3 (ref03_Number_l3_s K)
def ref03_Number_dec : List U → Option (Int) := fun u => match u with | [.i x0] => some (x0) | _ => none
def ref03_Number (K : Nat) (x0 : Int) (x1 : Int) (x2 : Int) : Option (Int) := ((ref03_Number_l3 K K x0 x1 x2
  (Go.IntKind.i64.wrap (146097 * Go.IntKind.i64.wrap ((Go.IntKind.i64.wrap (x0 - 1)).tdiv 400)))
  (Go.IntKind.i64.wrap (1 + Go.IntKind.i64.wrap (400 * Go.IntKind.i64.wrap ((Go.IntKind.i64.wrap (x0 - 1)).tdiv 400))))).bind fun r0 => ((ref03_Number_l7 K K r0.fst r0.snd.fst r0.snd.snd.fst r0.snd.snd.snd 1).bind fun r1 => (some (Go.IntKind.i64.wrap (r1.snd + r1.fst)))))
theorem ref03_Number_eq (K : Nat) (x0 : Int) (x1 : Int) (x2 : Int) : (runF Go.Proofs.Try.prog (env_ref03_Civil K) (ref03_Number_v3 K) Go.Proofs.Try.f82 [.one (.int .i64), .one (.int .i64), .one (.int .i64)] [.one (.int .i64)] ref03_Number_dec [.i x0, .i x1, .i x2]).den2 = ref03_Number K x0 x1 x2 := by kernel_rfl
def ref03_Number_w (K : Nat) : List U → Option (Int) := fun us => match us with | [.i x0, .i x1, .i x2] => ref03_Number K x0 x1 x2 | _ => none
def ref03_Number_enc : (Int) → List U := fun r => [.i r]
def ref03_Number_spec (K : Nat) : Vm.Spec := ⟨[.one (.int .i64), .one (.int .i64), .one (.int .i64)], [.one (.int .i64)], Int, ref03_Number_w K, ref03_Number_enc⟩
theorem ref03_Number_ok (K : Nat) : FnOk Go.Proofs.Try.prog 82 (ref03_Number_spec K) := fn_ok' hmix (env_ref03_Civil_ok K) (lenv := ref03_Number_v3 K) (args := [.one (.int .i64), .one (.int .i64), .one (.int .i64)]) (res := [.one (.int .i64)]) (G := ref03_Number_w K) (enc := ref03_Number_enc) Go.Proofs.Try.func82 (lps_fn (l := [lp (bodyOf Go.Proofs.Try.f82) 0, lp (bodyOf Go.Proofs.Try.f82) 1]) (by kernel_rfl) ⟨⟨3, ref03_Number_l3_s K, by kernel_rfl, by kernel_rfl, ref03_Number_l3_ok K⟩, ⟨⟨7, ref03_Number_l7_s K, by kernel_rfl, by kernel_rfl, ref03_Number_l7_ok K⟩, trivial⟩⟩) (dec := ref03_Number_dec) (fun u r h => by unfold ref03_Number_dec at h; split at h; (obtain rfl := Option.some.inj h; rfl); cases h) (fun us r h => by unfold ref03_Number_w at h; split at h; exact ((den2_eq _).symm.trans (ref03_Number_eq K _ _ _)).trans h; cases h)
def env_ref03_Number (K : Nat) : FuncId → Option Vm.Spec := addS (env_ref03_Civil K) 82 (ref03_Number_spec K)
theorem env_ref03_Number_ok (K : Nat) : EnvOk Go.Proofs.Try.prog (env_ref03_Number K) := addS_ok (env_ref03_Civil_ok K) (.inl ⟨callable Go.Proofs.Try.func82 (by kernel_rfl) (by kernel_rfl), ref03_Number_ok K⟩)
-- passbook/basis.check
def basis_check_dec : List U → Option (Int) := fun u => match u with | [.i x0] => some (x0) | _ => none
def basis_check (K : Nat) (x0 : Int) (x1 : Int) (x2 : Int) : Option (Int) := (bi (Decidable.decide (x0 < 0))
    (some (1))
    (bi (Decidable.decide (x0 > 3))
    (some (1))
    (bi (Decidable.decide (x1 < 1))
    (some (1))
    (bi (Decidable.decide (x1 > 3652059))
    (some (1))
    (bi (Decidable.decide (x2 < 1))
    (some (1))
    (bi (Decidable.decide (x2 > 3652059))
    (some (1))
    (bi (Decidable.decide (x1 > x2))
    (some (9))
    (some (0)))))))))
theorem basis_check_eq (K : Nat) (x0 : Int) (x1 : Int) (x2 : Int) : (runF Go.Proofs.Try.prog (env_ref03_Number K) (lenv0) Go.Proofs.Try.f36 [.one (.int .i64), .one (.int .i64), .one (.int .i64)] [.one (.int .i64)] basis_check_dec [.i x0, .i x1, .i x2]).den2 = basis_check K x0 x1 x2 := by kernel_rfl
def basis_check_w (K : Nat) : List U → Option (Int) := fun us => match us with | [.i x0, .i x1, .i x2] => basis_check K x0 x1 x2 | _ => none
def basis_check_enc : (Int) → List U := fun r => [.i r]
def basis_check_spec (K : Nat) : Vm.Spec := ⟨[.one (.int .i64), .one (.int .i64), .one (.int .i64)], [.one (.int .i64)], Int, basis_check_w K, basis_check_enc⟩
theorem basis_check_ok (K : Nat) : FnOk Go.Proofs.Try.prog 36 (basis_check_spec K) := fn_ok' hmix (env_ref03_Number_ok K) (lenv := lenv0) (args := [.one (.int .i64), .one (.int .i64), .one (.int .i64)]) (res := [.one (.int .i64)]) (G := basis_check_w K) (enc := basis_check_enc) Go.Proofs.Try.func36 (lps_fn (l := []) (by kernel_rfl) trivial) (dec := basis_check_dec) (fun u r h => by unfold basis_check_dec at h; split at h; (obtain rfl := Option.some.inj h; rfl); cases h) (fun us r h => by unfold basis_check_w at h; split at h; exact ((den2_eq _).symm.trans (basis_check_eq K _ _ _)).trans h; cases h)
def env_basis_check (K : Nat) : FuncId → Option Vm.Spec := addS (env_ref03_Number K) 36 (basis_check_spec K)
theorem env_basis_check_ok (K : Nat) : EnvOk Go.Proofs.Try.prog (env_basis_check K) := addS_ok (env_ref03_Number_ok K) (.inl ⟨callable Go.Proofs.Try.func36 (by kernel_rfl) (by kernel_rfl), basis_check_ok K⟩)
-- passbook/basis.thirty
def basis_thirty_dec : List U → Option (Int) := fun u => match u with | [.i x0] => some (x0) | _ => none
def basis_thirty (K : Nat) (x0 : Int) (x1 : Int) : Option (Int) := ((cal_Civil K x0).bind fun r0 => ((cal_Civil K x1).bind fun r1 => (some (Go.IntKind.i64.wrap
  (Go.IntKind.i64.wrap
      (Go.IntKind.i64.wrap
          (Go.IntKind.i64.wrap (360 * Go.IntKind.i64.wrap (r1.fst - r0.fst)) +
            Go.IntKind.i64.wrap (30 * Go.IntKind.i64.wrap (r1.snd.fst - r0.snd.fst))) +
        if 30 < r1.snd.snd.fst then 30 else r1.snd.snd.fst) -
    if 30 < r0.snd.snd.fst then 30 else r0.snd.snd.fst)))))
theorem basis_thirty_eq (K : Nat) (x0 : Int) (x1 : Int) : (runF Go.Proofs.Try.prog (env_basis_check K) (lenv0) Go.Proofs.Try.f37 [.one (.int .i64), .one (.int .i64)] [.one (.int .i64)] basis_thirty_dec [.i x0, .i x1]).den2 = basis_thirty K x0 x1 := by kernel_rfl
def basis_thirty_w (K : Nat) : List U → Option (Int) := fun us => match us with | [.i x0, .i x1] => basis_thirty K x0 x1 | _ => none
def basis_thirty_enc : (Int) → List U := fun r => [.i r]
def basis_thirty_spec (K : Nat) : Vm.Spec := ⟨[.one (.int .i64), .one (.int .i64)], [.one (.int .i64)], Int, basis_thirty_w K, basis_thirty_enc⟩
theorem basis_thirty_ok (K : Nat) : FnOk Go.Proofs.Try.prog 37 (basis_thirty_spec K) := fn_ok' hmix (env_basis_check_ok K) (lenv := lenv0) (args := [.one (.int .i64), .one (.int .i64)]) (res := [.one (.int .i64)]) (G := basis_thirty_w K) (enc := basis_thirty_enc) Go.Proofs.Try.func37 (lps_fn (l := []) (by kernel_rfl) trivial) (dec := basis_thirty_dec) (fun u r h => by unfold basis_thirty_dec at h; split at h; (obtain rfl := Option.some.inj h; rfl); cases h) (fun us r h => by unfold basis_thirty_w at h; split at h; exact ((den2_eq _).symm.trans (basis_thirty_eq K _ _)).trans h; cases h)
def env_basis_thirty (K : Nat) : FuncId → Option Vm.Spec := addS (env_basis_check K) 37 (basis_thirty_spec K)
theorem env_basis_thirty_ok (K : Nat) : EnvOk Go.Proofs.Try.prog (env_basis_thirty K) := addS_ok (env_basis_check_ok K) (.inl ⟨callable Go.Proofs.Try.func37 (by kernel_rfl) (by kernel_rfl), basis_thirty_ok K⟩)
-- passbook/basis.leaps
def basis_leaps_dec : List U → Option (Int × Int) := fun u => match u with | [.i x0, .i x1] => some (x0, x1) | _ => none
def basis_leaps (K : Nat) (x0 : Int) : Option (Int × Int) := ((cal_Civil K x0).bind fun r0 => ((cal_Number K r0.fst 1 1).bind fun r1 => ((cal_Length K r0.fst 2).bind fun r2 => (bi (r2.fst == 29)
    (some ((Go.IntKind.i64.wrap
    (Go.IntKind.i64.wrap
        (Go.IntKind.i64.wrap
            (366 *
              Go.IntKind.i64.wrap
                (Go.IntKind.i64.wrap
                    (Go.IntKind.i64.wrap ((Go.IntKind.i64.wrap (r0.fst - 1)).tdiv 4) -
                      Go.IntKind.i64.wrap ((Go.IntKind.i64.wrap (r0.fst - 1)).tdiv 100)) +
                  Go.IntKind.i64.wrap ((Go.IntKind.i64.wrap (r0.fst - 1)).tdiv 400))) +
          x0) -
      r1.fst),
  r0.fst)))
    (some ((Go.IntKind.i64.wrap
    (366 *
      Go.IntKind.i64.wrap
        (Go.IntKind.i64.wrap
            (Go.IntKind.i64.wrap ((Go.IntKind.i64.wrap (r0.fst - 1)).tdiv 4) -
              Go.IntKind.i64.wrap ((Go.IntKind.i64.wrap (r0.fst - 1)).tdiv 100)) +
          Go.IntKind.i64.wrap ((Go.IntKind.i64.wrap (r0.fst - 1)).tdiv 400))),
  r0.fst)))))))
theorem basis_leaps_eq (K : Nat) (x0 : Int) : (runF Go.Proofs.Try.prog (env_basis_thirty K) (lenv0) Go.Proofs.Try.f38 [.one (.int .i64)] [.one (.int .i64), .one (.int .i64)] basis_leaps_dec [.i x0]).den2 = basis_leaps K x0 := by kernel_rfl
def basis_leaps_w (K : Nat) : List U → Option (Int × Int) := fun us => match us with | [.i x0] => basis_leaps K x0 | _ => none
def basis_leaps_enc : (Int × Int) → List U := fun r => [.i r.1, .i r.2]
def basis_leaps_spec (K : Nat) : Vm.Spec := ⟨[.one (.int .i64)], [.one (.int .i64), .one (.int .i64)], Int × Int, basis_leaps_w K, basis_leaps_enc⟩
theorem basis_leaps_ok (K : Nat) : FnOk Go.Proofs.Try.prog 38 (basis_leaps_spec K) := fn_ok' hmix (env_basis_thirty_ok K) (lenv := lenv0) (args := [.one (.int .i64)]) (res := [.one (.int .i64), .one (.int .i64)]) (G := basis_leaps_w K) (enc := basis_leaps_enc) Go.Proofs.Try.func38 (lps_fn (l := []) (by kernel_rfl) trivial) (dec := basis_leaps_dec) (fun u r h => by unfold basis_leaps_dec at h; split at h; (obtain rfl := Option.some.inj h; rfl); cases h) (fun us r h => by unfold basis_leaps_w at h; split at h; exact ((den2_eq _).symm.trans (basis_leaps_eq K _)).trans h; cases h)
def env_basis_leaps (K : Nat) : FuncId → Option Vm.Spec := addS (env_basis_thirty K) 38 (basis_leaps_spec K)
theorem env_basis_leaps_ok (K : Nat) : EnvOk Go.Proofs.Try.prog (env_basis_leaps K) := addS_ok (env_basis_thirty_ok K) (.inl ⟨callable Go.Proofs.Try.func38 (by kernel_rfl) (by kernel_rfl), basis_leaps_ok K⟩)
-- passbook/basis.Part
def basis_Part_dec : List U → Option (Int × Int × Int) := fun u => match u with | [.i x0, .i x1, .i x2] => some (x0, x1, x2) | _ => none
def basis_Part (K : Nat) (x0 : Int) (x1 : Int) (x2 : Int) : Option (Int × Int × Int) := ((basis_check K x0 x1 x2).bind fun r0 => (bi (r0 != 0)
    (some ((0, 0, r0)))
    (bi (x0 == 0)
    (some ((Go.IntKind.i64.wrap (x2 - x1), 360, 0)))
    (bi (x0 == 1)
    (some ((Go.IntKind.i64.wrap (x2 - x1), 365, 0)))
    (bi (x0 == 2)
    ((basis_thirty K x1 x2).bind fun r1 => (some ((r1, 360, 0))))
    ((basis_leaps K x1).bind fun r2 => ((basis_leaps K x2).bind fun r3 => (some ((Go.IntKind.i64.wrap
    (Go.IntKind.i64.wrap (365 * Go.IntKind.i64.wrap (r3.fst - r2.fst)) +
      Go.IntKind.i64.wrap
        (366 * Go.IntKind.i64.wrap (Go.IntKind.i64.wrap (x2 - x1) - Go.IntKind.i64.wrap (r3.fst - r2.fst)))),
  133590, 0))))))))))
theorem basis_Part_eq (K : Nat) (x0 : Int) (x1 : Int) (x2 : Int) : (runF Go.Proofs.Try.prog (env_basis_leaps K) (lenv0) Go.Proofs.Try.f20 [.one (.int .i64), .one (.int .i64), .one (.int .i64)] [.one (.int .i64), .one (.int .i64), .one (.int .i64)] basis_Part_dec [.i x0, .i x1, .i x2]).den2 = basis_Part K x0 x1 x2 := by kernel_rfl
def basis_Part_w (K : Nat) : List U → Option (Int × Int × Int) := fun us => match us with | [.i x0, .i x1, .i x2] => basis_Part K x0 x1 x2 | _ => none
def basis_Part_enc : (Int × Int × Int) → List U := fun r => [.i r.1, .i r.2.1, .i r.2.2]
def basis_Part_spec (K : Nat) : Vm.Spec := ⟨[.one (.int .i64), .one (.int .i64), .one (.int .i64)], [.one (.int .i64), .one (.int .i64), .one (.int .i64)], Int × Int × Int, basis_Part_w K, basis_Part_enc⟩
theorem basis_Part_ok (K : Nat) : FnOk Go.Proofs.Try.prog 20 (basis_Part_spec K) := fn_ok' hmix (env_basis_leaps_ok K) (lenv := lenv0) (args := [.one (.int .i64), .one (.int .i64), .one (.int .i64)]) (res := [.one (.int .i64), .one (.int .i64), .one (.int .i64)]) (G := basis_Part_w K) (enc := basis_Part_enc) Go.Proofs.Try.func20 (lps_fn (l := []) (by kernel_rfl) trivial) (dec := basis_Part_dec) (fun u r h => by unfold basis_Part_dec at h; split at h; (obtain rfl := Option.some.inj h; rfl); cases h) (fun us r h => by unfold basis_Part_w at h; split at h; exact ((den2_eq _).symm.trans (basis_Part_eq K _ _ _)).trans h; cases h)
def env_basis_Part (K : Nat) : FuncId → Option Vm.Spec := addS (env_basis_leaps K) 20 (basis_Part_spec K)
theorem env_basis_Part_ok (K : Nat) : EnvOk Go.Proofs.Try.prog (env_basis_Part K) := addS_ok (env_basis_leaps_ok K) (.inl ⟨callable Go.Proofs.Try.func20 (by kernel_rfl) (by kernel_rfl), basis_Part_ok K⟩)
-- passbook/passbookref04.Check
def ref04_Check_dec : List U → Option (Int) := fun u => match u with | [.i x0] => some (x0) | _ => none
def ref04_Check (K : Nat) (x0 : Int) (x1 : Int) (x2 : Int) : Option (Int) := (bi (Decidable.decide (x0 < 0))
    (some (1))
    (bi (Decidable.decide (x0 > 3))
    (some (1))
    ((ref03_Is K x1).bind fun r0 => (bi (!r0)
    (some (1))
    ((ref03_Is K x2).bind fun r1 => (bi (!r1)
    (some (1))
    (bi (Decidable.decide (x1 > x2))
    (some (9))
    (some (0)))))))))
theorem ref04_Check_eq (K : Nat) (x0 : Int) (x1 : Int) (x2 : Int) : (runF Go.Proofs.Try.prog (env_basis_Part K) (lenv0) Go.Proofs.Try.f30 [.one (.int .i64), .one (.int .i64), .one (.int .i64)] [.one (.int .i64)] ref04_Check_dec [.i x0, .i x1, .i x2]).den2 = ref04_Check K x0 x1 x2 := by kernel_rfl
def ref04_Check_w (K : Nat) : List U → Option (Int) := fun us => match us with | [.i x0, .i x1, .i x2] => ref04_Check K x0 x1 x2 | _ => none
def ref04_Check_enc : (Int) → List U := fun r => [.i r]
def ref04_Check_spec (K : Nat) : Vm.Spec := ⟨[.one (.int .i64), .one (.int .i64), .one (.int .i64)], [.one (.int .i64)], Int, ref04_Check_w K, ref04_Check_enc⟩
theorem ref04_Check_ok (K : Nat) : FnOk Go.Proofs.Try.prog 30 (ref04_Check_spec K) := fn_ok' hmix (env_basis_Part_ok K) (lenv := lenv0) (args := [.one (.int .i64), .one (.int .i64), .one (.int .i64)]) (res := [.one (.int .i64)]) (G := ref04_Check_w K) (enc := ref04_Check_enc) Go.Proofs.Try.func30 (lps_fn (l := []) (by kernel_rfl) trivial) (dec := ref04_Check_dec) (fun u r h => by unfold ref04_Check_dec at h; split at h; (obtain rfl := Option.some.inj h; rfl); cases h) (fun us r h => by unfold ref04_Check_w at h; split at h; exact ((den2_eq _).symm.trans (ref04_Check_eq K _ _ _)).trans h; cases h)
def env_ref04_Check (K : Nat) : FuncId → Option Vm.Spec := addS (env_basis_Part K) 30 (ref04_Check_spec K)
theorem env_ref04_Check_ok (K : Nat) : EnvOk Go.Proofs.Try.prog (env_ref04_Check K) := addS_ok (env_basis_Part_ok K) (.inl ⟨callable Go.Proofs.Try.func30 (by kernel_rfl) (by kernel_rfl), ref04_Check_ok K⟩)
-- passbook/passbookref04.Thirty
def ref04_Thirty_dec : List U → Option (Int) := fun u => match u with | [.i x0] => some (x0) | _ => none
def ref04_Thirty (K : Nat) (x0 : Int) (x1 : Int) : Option (Int) := ((ref03_Civil K x0).bind fun r0 => ((ref03_Civil K x1).bind fun r1 => (bi (r0.snd.snd == 31)
    (bi (r1.snd.snd == 31)
    (some (Go.IntKind.i64.wrap
  (Go.IntKind.i64.wrap
      (Go.IntKind.i64.wrap (Go.IntKind.i64.wrap (360 * r1.fst) + Go.IntKind.i64.wrap (30 * r1.snd.fst)) + 30) -
    Go.IntKind.i64.wrap
      (Go.IntKind.i64.wrap (Go.IntKind.i64.wrap (360 * r0.fst) + Go.IntKind.i64.wrap (30 * r0.snd.fst)) + 30))))
    (some (Go.IntKind.i64.wrap
  (Go.IntKind.i64.wrap
      (Go.IntKind.i64.wrap (Go.IntKind.i64.wrap (360 * r1.fst) + Go.IntKind.i64.wrap (30 * r1.snd.fst)) + r1.snd.snd) -
    Go.IntKind.i64.wrap
      (Go.IntKind.i64.wrap (Go.IntKind.i64.wrap (360 * r0.fst) + Go.IntKind.i64.wrap (30 * r0.snd.fst)) + 30)))))
    (bi (r1.snd.snd == 31)
    (some (Go.IntKind.i64.wrap
  (Go.IntKind.i64.wrap
      (Go.IntKind.i64.wrap (Go.IntKind.i64.wrap (360 * r1.fst) + Go.IntKind.i64.wrap (30 * r1.snd.fst)) + 30) -
    Go.IntKind.i64.wrap
      (Go.IntKind.i64.wrap (Go.IntKind.i64.wrap (360 * r0.fst) + Go.IntKind.i64.wrap (30 * r0.snd.fst)) + r0.snd.snd))))
    (some (Go.IntKind.i64.wrap
  (Go.IntKind.i64.wrap
      (Go.IntKind.i64.wrap (Go.IntKind.i64.wrap (360 * r1.fst) + Go.IntKind.i64.wrap (30 * r1.snd.fst)) + r1.snd.snd) -
    Go.IntKind.i64.wrap
      (Go.IntKind.i64.wrap (Go.IntKind.i64.wrap (360 * r0.fst) + Go.IntKind.i64.wrap (30 * r0.snd.fst)) + r0.snd.snd))))))))
theorem ref04_Thirty_eq (K : Nat) (x0 : Int) (x1 : Int) : (runF Go.Proofs.Try.prog (env_ref04_Check K) (lenv0) Go.Proofs.Try.f80 [.one (.int .i64), .one (.int .i64)] [.one (.int .i64)] ref04_Thirty_dec [.i x0, .i x1]).den2 = ref04_Thirty K x0 x1 := by kernel_rfl
def ref04_Thirty_w (K : Nat) : List U → Option (Int) := fun us => match us with | [.i x0, .i x1] => ref04_Thirty K x0 x1 | _ => none
def ref04_Thirty_enc : (Int) → List U := fun r => [.i r]
def ref04_Thirty_spec (K : Nat) : Vm.Spec := ⟨[.one (.int .i64), .one (.int .i64)], [.one (.int .i64)], Int, ref04_Thirty_w K, ref04_Thirty_enc⟩
theorem ref04_Thirty_ok (K : Nat) : FnOk Go.Proofs.Try.prog 80 (ref04_Thirty_spec K) := fn_ok' hmix (env_ref04_Check_ok K) (lenv := lenv0) (args := [.one (.int .i64), .one (.int .i64)]) (res := [.one (.int .i64)]) (G := ref04_Thirty_w K) (enc := ref04_Thirty_enc) Go.Proofs.Try.func80 (lps_fn (l := []) (by kernel_rfl) trivial) (dec := ref04_Thirty_dec) (fun u r h => by unfold ref04_Thirty_dec at h; split at h; (obtain rfl := Option.some.inj h; rfl); cases h) (fun us r h => by unfold ref04_Thirty_w at h; split at h; exact ((den2_eq _).symm.trans (ref04_Thirty_eq K _ _)).trans h; cases h)
def env_ref04_Thirty (K : Nat) : FuncId → Option Vm.Spec := addS (env_ref04_Check K) 80 (ref04_Thirty_spec K)
theorem env_ref04_Thirty_ok (K : Nat) : EnvOk Go.Proofs.Try.prog (env_ref04_Thirty K) := addS_ok (env_ref04_Check_ok K) (.inl ⟨callable Go.Proofs.Try.func80 (by kernel_rfl) (by kernel_rfl), ref04_Thirty_ok K⟩)
-- passbook/passbookref04.Part
def ref04_Part_l10_pre : Vm.Pat := ⟨63, [(2, .pv (.one (.int .i64))), (8, .pv (.one (.int .i64))), (9, .pv (.one (.int .i64)))], []⟩
def ref04_Part_l10_post0 : Vm.Pat := ⟨63, [(8, .pv (.one (.int .i64)))], []⟩
def ref04_Part_l10_enc0 : Int → List U := fun r => [.i r]
def ref04_Part_l10_dec0 : List U → Option (Int) := fun u => match u with | [.i x8] => some (x8) | _ => none
def ref04_Part_l10 (K : Nat) : Nat → Int → Int → Int → Option (Int)
  | 0, _, _, _ => none
  | k + 1, x2, x8, x9 => (bi (Decidable.decide (x9 < x2))
    ((ref03_Civil K x9).bind fun r0 => ((ref03_Number K r0.fst 12 31).bind fun r1 => (bi (Decidable.decide (Go.IntKind.i64.wrap (r1 + 1) > x2))
    ((ref03_Leap K r0.fst).bind fun r2 => (bi (r2)
    (ref04_Part_l10 K k (x2) (Go.IntKind.i64.wrap (x8 + Go.IntKind.i64.wrap (365 * Go.IntKind.i64.wrap (x2 - x9)))) (x2))
    (ref04_Part_l10 K k (x2) (Go.IntKind.i64.wrap (x8 + Go.IntKind.i64.wrap (366 * Go.IntKind.i64.wrap (x2 - x9)))) (x2))))
    ((ref03_Leap K r0.fst).bind fun r3 => (bi (r3)
    (ref04_Part_l10 K k (x2) (Go.IntKind.i64.wrap (x8 + Go.IntKind.i64.wrap (365 * Go.IntKind.i64.wrap (Go.IntKind.i64.wrap (r1 + 1) - x9)))) (Go.IntKind.i64.wrap (r1 + 1)))
    (ref04_Part_l10 K k (x2) (Go.IntKind.i64.wrap (x8 + Go.IntKind.i64.wrap (366 * Go.IntKind.i64.wrap (Go.IntKind.i64.wrap (r1 + 1) - x9)))) (Go.IntKind.i64.wrap (r1 + 1))))))))
    (some x8))
def ref04_Part_l10_w (K k : Nat) : List U → Option (Int) := fun us => match us with | [.i x2, .i x8, .i x9] => ref04_Part_l10 K k x2 x8 x9 | _ => none
theorem ref04_Part_l10_eq (K k : Nat) (x2 : Int) (x8 : Int) (x9 : Int) : (round1 Go.Proofs.Try.prog (env_ref04_Thirty K) (lenv0) (lp (bodyOf Go.Proofs.Try.f59) 0) ref04_Part_l10_pre (.exit 1) ref04_Part_l10_post0 ref04_Part_l10_dec0 (ref04_Part_l10_w K k) [.i x2, .i x8, .i x9]).den2 = ref04_Part_l10 K (k + 1) x2 x8 x9 := by kernel_rfl
def ref04_Part_l10_s (K : Nat) : Vm.LS := .one ref04_Part_l10_pre _ (.exit 1) ref04_Part_l10_post0 (ref04_Part_l10_w K K) ref04_Part_l10_enc0
theorem ref04_Part_l10_ok (K : Nat) : LoopOk Go.Proofs.Try.prog (lp (bodyOf Go.Proofs.Try.f59) 0) (ref04_Part_l10_s K) := loop_one hmix (env_ref04_Thirty_ok K) (lenv := lenv0) (L := ref04_Part_l10_w K) (enc := ref04_Part_l10_enc0) (dec := ref04_Part_l10_dec0) (lps_ok (l := []) (by kernel_rfl) trivial) (fun u r h => by unfold ref04_Part_l10_dec0 at h; split at h; (obtain rfl := Option.some.inj h; rfl); cases h) (fun us => by unfold ref04_Part_l10_w; split <;> first | rfl | (simp only [ref04_Part_l10])) (fun k us r h => by unfold ref04_Part_l10_w at h; split at h; exact ((den2_eq _).symm.trans (ref04_Part_l10_eq K k _ _ _)).trans h; cases h) K
def ref04_Part_v10 (K : Nat) : Nat → Option Vm.LS := addL (lenv0) 10 (ref04_Part_l10_s K)
def ref04_Part_dec : List U → Option (Int × Int) := fun u => match u with | [.i x0, .i x1] => some (x0, x1) | _ => none
def ref04_Part (K : Nat) (x0 : Int) (x1 : Int) (x2 : Int) : Option (Int × Int) := (bi (x0 == 0)
    (some ((Go.IntKind.i64.wrap (x2 - x1), 360)))
    (bi (x0 == 1)
    (some ((Go.IntKind.i64.wrap (x2 - x1), 365)))
    (bi (x0 == 2)
    ((ref04_Thirty K x1 x2).bind fun r0 => (some ((r0, 360))))
    ((ref04_Part_l10 K K x2 0 x1).bind fun r1 => (some ((r1, 133590)))))))
theorem ref04_Part_eq (K : Nat) (x0 : Int) (x1 : Int) (x2 : Int) : (runF Go.Proofs.Try.prog (env_ref04_Thirty K) (ref04_Part_v10 K) Go.Proofs.Try.f59 [.one (.int .i64), .one (.int .i64), .one (.int .i64)] [.one (.int .i64), .one (.int .i64)] ref04_Part_dec [.i x0, .i x1, .i x2]).den2 = ref04_Part K x0 x1 x2 := by kernel_rfl
def ref04_Part_w (K : Nat) : List U → Option (Int × Int) := fun us => match us with | [.i x0, .i x1, .i x2] => ref04_Part K x0 x1 x2 | _ => none
def ref04_Part_enc : (Int × Int) → List U := fun r => [.i r.1, .i r.2]
def ref04_Part_spec (K : Nat) : Vm.Spec := ⟨[.one (.int .i64), .one (.int .i64), .one (.int .i64)], [.one (.int .i64), .one (.int .i64)], Int × Int, ref04_Part_w K, ref04_Part_enc⟩
theorem ref04_Part_ok (K : Nat) : FnOk Go.Proofs.Try.prog 59 (ref04_Part_spec K) := fn_ok' hmix (env_ref04_Thirty_ok K) (lenv := ref04_Part_v10 K) (args := [.one (.int .i64), .one (.int .i64), .one (.int .i64)]) (res := [.one (.int .i64), .one (.int .i64)]) (G := ref04_Part_w K) (enc := ref04_Part_enc) Go.Proofs.Try.func59 (lps_fn (l := [lp (bodyOf Go.Proofs.Try.f59) 0]) (by kernel_rfl) ⟨⟨10, ref04_Part_l10_s K, by kernel_rfl, by kernel_rfl, ref04_Part_l10_ok K⟩, trivial⟩) (dec := ref04_Part_dec) (fun u r h => by unfold ref04_Part_dec at h; split at h; (obtain rfl := Option.some.inj h; rfl); cases h) (fun us r h => by unfold ref04_Part_w at h; split at h; exact ((den2_eq _).symm.trans (ref04_Part_eq K _ _ _)).trans h; cases h)
def env_ref04_Part (K : Nat) : FuncId → Option Vm.Spec := addS (env_ref04_Thirty K) 59 (ref04_Part_spec K)
theorem env_ref04_Part_ok (K : Nat) : EnvOk Go.Proofs.Try.prog (env_ref04_Part K) := addS_ok (env_ref04_Thirty_ok K) (.inl ⟨callable Go.Proofs.Try.func59 (by kernel_rfl) (by kernel_rfl), ref04_Part_ok K⟩)
end Go.Proofs.Ytppdgohcgklinaa.F
