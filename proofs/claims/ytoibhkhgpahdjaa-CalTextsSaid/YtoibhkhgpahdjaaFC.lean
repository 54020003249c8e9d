import Derived.Test.YtoibhkhgpahdjaaVmY
import Derived.Test.YtoibhkhgpahdjaaProg
namespace Go.Proofs.Ytoibhkhgpahdjaa.F
open Go Go.Proofs.Ytoibhkhgpahdjaa.Vm
set_option maxRecDepth 1000000
set_option linter.unusedVariables false
theorem hmix : Go.Proofs.Try.prog.follows .mixedOrders = true := by kernel_rfl
def e0 (K : Nat) : FuncId → Option Vm.Spec := env0
theorem e0_ok (K : Nat) : EnvOk Go.Proofs.Try.prog (e0 K) := env0_ok
-- passbook/cal.leap
def cal_leap_dec : List U → Option (Bool) := fun u => match u with | [.b c0] => some (c0) | _ => none
def cal_leap_enc : (Bool) → List U := fun r => [.b r]
def cal_leap (K : Nat) (x0 : Int) : Option (Bool) := (bi (x0.tmod 4 == 0)
    (bi (x0.tmod 100 != 0)
    (some Bool.true)
    (some (x0.tmod 400 == 0)))
    (some (x0.tmod 400 == 0)))
theorem cal_leap_eq (K : Nat) (x0 : Int) : (runF Go.Proofs.Try.prog (e0 K) (lenv0) Go.Proofs.Try.f31 [.one (.int .i64)] [.one (.bool)] cal_leap_dec [.i x0]).den2 = cal_leap K x0 := by kernel_rfl
def cal_leap_w (K : Nat) : List U → Option (Bool) := fun us => match us with | [.i x0] => cal_leap K x0 | _ => none
def cal_leap_spec (K : Nat) : Vm.Spec := ⟨[.one (.int .i64)], [.one (.bool)], Bool, cal_leap_w K, cal_leap_enc⟩
theorem cal_leap_ok (K : Nat) : FnOk Go.Proofs.Try.prog 31 (cal_leap_spec K) := fn_ok' hmix (e0_ok K) (lenv := lenv0) (args := [.one (.int .i64)]) (res := [.one (.bool)]) (G := cal_leap_w K) (enc := cal_leap_enc) Go.Proofs.Try.func31 (lps_fn (l := []) (by kernel_rfl) trivial) (dec := cal_leap_dec) (fun u r h => by unfold cal_leap_dec at h; split at h; (obtain rfl := Option.some.inj h; rfl); cases h) (fun us r h => by unfold cal_leap_w at h; split at h; exact ((den2_eq _).symm.trans (cal_leap_eq K _)).trans h; cases h)
def env_cal_leap (K : Nat) : FuncId → Option Vm.Spec := addS (e0 K) 31 (cal_leap_spec K)
theorem env_cal_leap_ok (K : Nat) : EnvOk Go.Proofs.Try.prog (env_cal_leap K) := addS_ok (e0_ok K) (.inl ⟨callable Go.Proofs.Try.func31 (by kernel_rfl) (by kernel_rfl), cal_leap_ok K⟩)
-- passbook/cal.length
def cal_length_dec : List U → Option (Int) := fun u => match u with | [.i x0] => some (x0) | _ => none
def cal_length_enc : (Int) → List U := fun r => [.i r]
def cal_length (K : Nat) (x0 : Int) (x1 : Int) : Option (Int) := (bi (x1 == 2)
    ((cal_leap K x0).bind fun r0 => (bi (r0)
    (some (29))
    (bi (x1 == 2)
    (some (28))
    (some (Go.IntKind.i64.wrap (30 + land Go.IntKind.i64 (Go.IntKind.i64.wrap (x1 + x1.fdiv 8)) 1))))))
    (bi (x1 == 2)
    (some (28))
    (some (Go.IntKind.i64.wrap (30 + land Go.IntKind.i64 (Go.IntKind.i64.wrap (x1 + x1.fdiv 8)) 1)))))
theorem cal_length_eq (K : Nat) (x0 : Int) (x1 : Int) : (runF Go.Proofs.Try.prog (env_cal_leap K) (lenv0) Go.Proofs.Try.f25 [.one (.int .i64), .one (.int .i64)] [.one (.int .i64)] cal_length_dec [.i x0, .i x1]).den2 = cal_length K x0 x1 := by kernel_rfl
def cal_length_w (K : Nat) : List U → Option (Int) := fun us => match us with | [.i x0, .i x1] => cal_length K x0 x1 | _ => none
def cal_length_spec (K : Nat) : Vm.Spec := ⟨[.one (.int .i64), .one (.int .i64)], [.one (.int .i64)], Int, cal_length_w K, cal_length_enc⟩
theorem cal_length_ok (K : Nat) : FnOk Go.Proofs.Try.prog 25 (cal_length_spec K) := fn_ok' hmix (env_cal_leap_ok K) (lenv := lenv0) (args := [.one (.int .i64), .one (.int .i64)]) (res := [.one (.int .i64)]) (G := cal_length_w K) (enc := cal_length_enc) Go.Proofs.Try.func25 (lps_fn (l := []) (by kernel_rfl) trivial) (dec := cal_length_dec) (fun u r h => by unfold cal_length_dec at h; split at h; (obtain rfl := Option.some.inj h; rfl); cases h) (fun us r h => by unfold cal_length_w at h; split at h; exact ((den2_eq _).symm.trans (cal_length_eq K _ _)).trans h; cases h)
def env_cal_length (K : Nat) : FuncId → Option Vm.Spec := addS (env_cal_leap K) 25 (cal_length_spec K)
theorem env_cal_length_ok (K : Nat) : EnvOk Go.Proofs.Try.prog (env_cal_length K) := addS_ok (env_cal_leap_ok K) (.inl ⟨callable Go.Proofs.Try.func25 (by kernel_rfl) (by kernel_rfl), cal_length_ok K⟩)
-- passbook/cal.ahead
def cal_ahead_dec : List U → Option (Int) := fun u => match u with | [.i x0] => some (x0) | _ => none
def cal_ahead_enc : (Int) → List U := fun r => [.i r]
def cal_ahead (K : Nat) (x0 : Int) : Option (Int) := (some (Go.IntKind.i64.wrap
  (Go.IntKind.i64.wrap
      (Go.IntKind.i64.wrap
          (Go.IntKind.i64.wrap (365 * Go.IntKind.i64.wrap (x0 - 1)) +
            Go.IntKind.i64.wrap ((Go.IntKind.i64.wrap (x0 - 1)).tdiv 4)) -
        Go.IntKind.i64.wrap ((Go.IntKind.i64.wrap (x0 - 1)).tdiv 100)) +
    Go.IntKind.i64.wrap ((Go.IntKind.i64.wrap (x0 - 1)).tdiv 400))))
theorem cal_ahead_eq (K : Nat) (x0 : Int) : (runF Go.Proofs.Try.prog (env_cal_length K) (lenv0) Go.Proofs.Try.f26 [.one (.int .i64)] [.one (.int .i64)] cal_ahead_dec [.i x0]).den2 = cal_ahead K x0 := by kernel_rfl
def cal_ahead_w (K : Nat) : List U → Option (Int) := fun us => match us with | [.i x0] => cal_ahead K x0 | _ => none
def cal_ahead_spec (K : Nat) : Vm.Spec := ⟨[.one (.int .i64)], [.one (.int .i64)], Int, cal_ahead_w K, cal_ahead_enc⟩
theorem cal_ahead_ok (K : Nat) : FnOk Go.Proofs.Try.prog 26 (cal_ahead_spec K) := fn_ok' hmix (env_cal_length_ok K) (lenv := lenv0) (args := [.one (.int .i64)]) (res := [.one (.int .i64)]) (G := cal_ahead_w K) (enc := cal_ahead_enc) Go.Proofs.Try.func26 (lps_fn (l := []) (by kernel_rfl) trivial) (dec := cal_ahead_dec) (fun u r h => by unfold cal_ahead_dec at h; split at h; (obtain rfl := Option.some.inj h; rfl); cases h) (fun us r h => by unfold cal_ahead_w at h; split at h; exact ((den2_eq _).symm.trans (cal_ahead_eq K _)).trans h; cases h)
def env_cal_ahead (K : Nat) : FuncId → Option Vm.Spec := addS (env_cal_length K) 26 (cal_ahead_spec K)
theorem env_cal_ahead_ok (K : Nat) : EnvOk Go.Proofs.Try.prog (env_cal_ahead K) := addS_ok (env_cal_length_ok K) (.inl ⟨callable Go.Proofs.Try.func26 (by kernel_rfl) (by kernel_rfl), cal_ahead_ok K⟩)
-- passbook/cal.is
def cal_is_dec : List U → Option (Bool) := fun u => match u with | [.b c0] => some (c0) | _ => none
def cal_is_enc : (Bool) → List U := fun r => [.b r]
def cal_is (K : Nat) (x0 : Int) : Option (Bool) := (bi (Decidable.decide (x0 ≥ 1))
    (some (Decidable.decide (x0 ≤ 3652059)))
    (some Bool.false))
theorem cal_is_eq (K : Nat) (x0 : Int) : (runF Go.Proofs.Try.prog (env_cal_ahead K) (lenv0) Go.Proofs.Try.f18 [.one (.int .i64)] [.one (.bool)] cal_is_dec [.i x0]).den2 = cal_is K x0 := by kernel_rfl
def cal_is_w (K : Nat) : List U → Option (Bool) := fun us => match us with | [.i x0] => cal_is K x0 | _ => none
def cal_is_spec (K : Nat) : Vm.Spec := ⟨[.one (.int .i64)], [.one (.bool)], Bool, cal_is_w K, cal_is_enc⟩
theorem cal_is_ok (K : Nat) : FnOk Go.Proofs.Try.prog 18 (cal_is_spec K) := fn_ok' hmix (env_cal_ahead_ok K) (lenv := lenv0) (args := [.one (.int .i64)]) (res := [.one (.bool)]) (G := cal_is_w K) (enc := cal_is_enc) Go.Proofs.Try.func18 (lps_fn (l := []) (by kernel_rfl) trivial) (dec := cal_is_dec) (fun u r h => by unfold cal_is_dec at h; split at h; (obtain rfl := Option.some.inj h; rfl); cases h) (fun us r h => by unfold cal_is_w at h; split at h; exact ((den2_eq _).symm.trans (cal_is_eq K _)).trans h; cases h)
def env_cal_is (K : Nat) : FuncId → Option Vm.Spec := addS (env_cal_ahead K) 18 (cal_is_spec K)
theorem env_cal_is_ok (K : Nat) : EnvOk Go.Proofs.Try.prog (env_cal_is K) := addS_ok (env_cal_ahead_ok K) (.inl ⟨callable Go.Proofs.Try.func18 (by kernel_rfl) (by kernel_rfl), cal_is_ok K⟩)
-- passbook/cal.Number
def cal_Number_l7_pre : Vm.Pat := ⟨50, [(0, .pv (.one (.int .i64))), (1, .pv (.one (.int .i64))), (8, .pv (.one (.int .i64))), (9, .pv (.one (.int .i64)))], [], []⟩
def cal_Number_l7_post0 : Vm.Pat := ⟨50, [(8, .pv (.one (.int .i64)))], [], []⟩
def cal_Number_l7_enc0 : Int → List U := fun r => [.i r]
def cal_Number_l7_dec0 : List U → Option (Int) := fun u => match u with | [.i x8] => some (x8) | _ => none
def cal_Number_l7 (K : Nat) : Nat → Int → Int → Int → Int → Option (Int)
  | 0, _, _, _, _ => none
  | k + 1, x0, x1, x8, x9 => (bi (Decidable.decide (x9 < x1))
    ((cal_length K x0 x9).bind fun r0 => (cal_Number_l7 K k (x0) (x1) (Go.IntKind.i64.wrap (x8 + r0)) (Go.IntKind.i64.wrap (x9 + 1))))
    (some x8))
def cal_Number_l7_w (K k : Nat) : List U → Option (Int) := fun us => match us with | [.i x0, .i x1, .i x8, .i x9] => cal_Number_l7 K k x0 x1 x8 x9 | _ => none
theorem cal_Number_l7_eq (K k : Nat) (x0 : Int) (x1 : Int) (x8 : Int) (x9 : Int) : (round1 Go.Proofs.Try.prog (env_cal_is K) (lenv0) (lp (bodyOf Go.Proofs.Try.f15) 0) cal_Number_l7_pre (.exit 1) cal_Number_l7_post0 cal_Number_l7_dec0 (cal_Number_l7_w K k) [.i x0, .i x1, .i x8, .i x9]).den2 = cal_Number_l7 K (k + 1) x0 x1 x8 x9 := by kernel_rfl
def cal_Number_l7_s (K : Nat) : Vm.LS := .one cal_Number_l7_pre _ (.exit 1) cal_Number_l7_post0 (cal_Number_l7_w K K) cal_Number_l7_enc0
theorem cal_Number_l7_ok (K : Nat) : LoopOk Go.Proofs.Try.prog (lp (bodyOf Go.Proofs.Try.f15) 0) (cal_Number_l7_s K) := loop_one hmix (env_cal_is_ok K) (lenv := lenv0) (L := cal_Number_l7_w K) (enc := cal_Number_l7_enc0) (dec := cal_Number_l7_dec0) (lps_ok (l := []) (by kernel_rfl) trivial) (fun u r h => by unfold cal_Number_l7_dec0 at h; split at h; (obtain rfl := Option.some.inj h; rfl); cases h) (fun us => by unfold cal_Number_l7_w; split <;> first | rfl | (simp only [cal_Number_l7])) (fun k us r h => by unfold cal_Number_l7_w at h; split at h; exact ((den2_eq _).symm.trans (cal_Number_l7_eq K k _ _ _ _)).trans h; cases h) K
def cal_Number_v7 (K : Nat) : Nat → Option Vm.LS := addL (lenv0) 7 (cal_Number_l7_s K)
def cal_Number_dec : List U → Option (Int × Int) := fun u => match u with | [.i x0, .i x1] => some (x0, x1) | _ => none
def cal_Number_enc : (Int × Int) → List U := fun r => [.i r.1, .i r.2]
def cal_Number (K : Nat) (x0 : Int) (x1 : Int) (x2 : Int) : Option (Int × Int) := (bi (Decidable.decide (x0 < 1))
    (some ((0, 1)))
    (bi (Decidable.decide (x0 > 9999))
    (some ((0, 1)))
    (bi (Decidable.decide (x1 < 1))
    (some ((0, 9)))
    (bi (Decidable.decide (x1 > 12))
    (some ((0, 9)))
    (bi (Decidable.decide (x2 < 1))
    (some ((0, 9)))
    ((cal_length K x0 x1).bind fun r0 => (bi (Decidable.decide (x2 > r0))
    (some ((0, 9)))
    ((cal_ahead K x0).bind fun r1 => ((cal_Number_l7 K K x0 x1 (Go.IntKind.i64.wrap (r1 + x2)) 1).bind fun r2 => (some ((r2, 0))))))))))))
theorem cal_Number_eq (K : Nat) (x0 : Int) (x1 : Int) (x2 : Int) : (runF Go.Proofs.Try.prog (env_cal_is K) (cal_Number_v7 K) Go.Proofs.Try.f15 [.one (.int .i64), .one (.int .i64), .one (.int .i64)] [.one (.int .i64), .one (.int .i64)] cal_Number_dec [.i x0, .i x1, .i x2]).den2 = cal_Number K x0 x1 x2 := by kernel_rfl
def cal_Number_w (K : Nat) : List U → Option (Int × Int) := fun us => match us with | [.i x0, .i x1, .i x2] => cal_Number K x0 x1 x2 | _ => none
def cal_Number_spec (K : Nat) : Vm.Spec := ⟨[.one (.int .i64), .one (.int .i64), .one (.int .i64)], [.one (.int .i64), .one (.int .i64)], Int × Int, cal_Number_w K, cal_Number_enc⟩
theorem cal_Number_ok (K : Nat) : FnOk Go.Proofs.Try.prog 15 (cal_Number_spec K) := fn_ok' hmix (env_cal_is_ok K) (lenv := cal_Number_v7 K) (args := [.one (.int .i64), .one (.int .i64), .one (.int .i64)]) (res := [.one (.int .i64), .one (.int .i64)]) (G := cal_Number_w K) (enc := cal_Number_enc) Go.Proofs.Try.func15 (lps_fn (l := [lp (bodyOf Go.Proofs.Try.f15) 0]) (by kernel_rfl) ⟨⟨7, cal_Number_l7_s K, by kernel_rfl, by kernel_rfl, cal_Number_l7_ok K⟩, trivial⟩) (dec := cal_Number_dec) (fun u r h => by unfold cal_Number_dec at h; split at h; (obtain rfl := Option.some.inj h; rfl); cases h) (fun us r h => by unfold cal_Number_w at h; split at h; exact ((den2_eq _).symm.trans (cal_Number_eq K _ _ _)).trans h; cases h)
def env_cal_Number (K : Nat) : FuncId → Option Vm.Spec := addS (env_cal_is K) 15 (cal_Number_spec K)
theorem env_cal_Number_ok (K : Nat) : EnvOk Go.Proofs.Try.prog (env_cal_Number K) := addS_ok (env_cal_is_ok K) (.inl ⟨callable Go.Proofs.Try.func15 (by kernel_rfl) (by kernel_rfl), cal_Number_ok K⟩)
-- passbook/cal.civil
def cal_civil_l6_pre : Vm.Pat := ⟨36, [(0, .pv (.one (.int .i64))), (5, .pv (.one (.int .i64))), (6, .pv (.one (.int .i64)))], [], []⟩
def cal_civil_l6_post0 : Vm.Pat := ⟨36, [(0, .pv (.one (.int .i64))), (5, .pv (.one (.int .i64))), (6, .pv (.one (.int .i64)))], [], []⟩
def cal_civil_l6_enc0 : Int × Int × Int → List U := fun r => [.i r.1, .i r.2.1, .i r.2.2]
def cal_civil_l6_dec0 : List U → Option (Int × Int × Int) := fun u => match u with | [.i x0, .i x5, .i x6] => some (x0, x5, x6) | _ => none
def cal_civil_l6 (K : Nat) : Nat → Int → Int → Int → Option (Int × Int × Int)
  | 0, _, _, _ => none
  | k + 1, x0, x5, x6 => ((cal_length K x5 x6).bind fun r0 => (bi (Decidable.decide (x0 > r0))
    ((cal_length K x5 x6).bind fun r1 => (cal_civil_l6 K k (Go.IntKind.i64.wrap (x0 - r1)) (x5) (Go.IntKind.i64.wrap (x6 + 1))))
    (some ((x0, x5, x6)))))
def cal_civil_l6_w (K k : Nat) : List U → Option (Int × Int × Int) := fun us => match us with | [.i x0, .i x5, .i x6] => cal_civil_l6 K k x0 x5 x6 | _ => none
theorem cal_civil_l6_eq (K k : Nat) (x0 : Int) (x5 : Int) (x6 : Int) : (round1 Go.Proofs.Try.prog (env_cal_Number K) (lenv0) (lp (bodyOf Go.Proofs.Try.f19) 1) cal_civil_l6_pre (.exit 2) cal_civil_l6_post0 cal_civil_l6_dec0 (cal_civil_l6_w K k) [.i x0, .i x5, .i x6]).den2 = cal_civil_l6 K (k + 1) x0 x5 x6 := by kernel_rfl
def cal_civil_l6_s (K : Nat) : Vm.LS := .one cal_civil_l6_pre _ (.exit 2) cal_civil_l6_post0 (cal_civil_l6_w K K) cal_civil_l6_enc0
theorem cal_civil_l6_ok (K : Nat) : LoopOk Go.Proofs.Try.prog (lp (bodyOf Go.Proofs.Try.f19) 1) (cal_civil_l6_s K) := loop_one hmix (env_cal_Number_ok K) (lenv := lenv0) (L := cal_civil_l6_w K) (enc := cal_civil_l6_enc0) (dec := cal_civil_l6_dec0) (lps_ok (l := []) (by kernel_rfl) trivial) (fun u r h => by unfold cal_civil_l6_dec0 at h; split at h; (obtain rfl := Option.some.inj h; rfl); cases h) (fun us => by unfold cal_civil_l6_w; split <;> first | rfl | (simp only [cal_civil_l6])) (fun k us r h => by unfold cal_civil_l6_w at h; split at h; exact ((den2_eq _).symm.trans (cal_civil_l6_eq K k _ _ _)).trans h; cases h) K
def cal_civil_v6 (K : Nat) : Nat → Option Vm.LS := addL (lenv0) 6 (cal_civil_l6_s K)
def cal_civil_l2_pre : Vm.Pat := ⟨36, [(0, .pv (.one (.int .i64))), (5, .pv (.one (.int .i64)))], [], []⟩
def cal_civil_l2_post0 : Vm.Pat := ⟨36, [(0, .pv (.one (.int .i64))), (5, .pv (.one (.int .i64)))], [], []⟩
def cal_civil_l2_enc0 : Int × Int → List U := fun r => [.i r.1, .i r.2]
def cal_civil_l2_dec0 : List U → Option (Int × Int) := fun u => match u with | [.i x0, .i x5] => some (x0, x5) | _ => none
def cal_civil_l2 (K : Nat) : Nat → Int → Int → Option (Int × Int)
  | 0, _, _ => none
  | k + 1, x0, x5 => ((cal_ahead K (Go.IntKind.i64.wrap (x5 + 1))).bind fun r0 => (bi (Decidable.decide (r0 < x0))
    (cal_civil_l2 K k (x0) (Go.IntKind.i64.wrap (x5 + 1)))
    (some ((x0, x5)))))
def cal_civil_l2_w (K k : Nat) : List U → Option (Int × Int) := fun us => match us with | [.i x0, .i x5] => cal_civil_l2 K k x0 x5 | _ => none
theorem cal_civil_l2_eq (K k : Nat) (x0 : Int) (x5 : Int) : (round1 Go.Proofs.Try.prog (env_cal_Number K) (cal_civil_v6 K) (lp (bodyOf Go.Proofs.Try.f19) 0) cal_civil_l2_pre (.exit 0) cal_civil_l2_post0 cal_civil_l2_dec0 (cal_civil_l2_w K k) [.i x0, .i x5]).den2 = cal_civil_l2 K (k + 1) x0 x5 := by kernel_rfl
def cal_civil_l2_s (K : Nat) : Vm.LS := .one cal_civil_l2_pre _ (.exit 0) cal_civil_l2_post0 (cal_civil_l2_w K K) cal_civil_l2_enc0
theorem cal_civil_l2_ok (K : Nat) : LoopOk Go.Proofs.Try.prog (lp (bodyOf Go.Proofs.Try.f19) 0) (cal_civil_l2_s K) := loop_one hmix (env_cal_Number_ok K) (lenv := cal_civil_v6 K) (L := cal_civil_l2_w K) (enc := cal_civil_l2_enc0) (dec := cal_civil_l2_dec0) (lps_ok (l := []) (by kernel_rfl) trivial) (fun u r h => by unfold cal_civil_l2_dec0 at h; split at h; (obtain rfl := Option.some.inj h; rfl); cases h) (fun us => by unfold cal_civil_l2_w; split <;> first | rfl | (simp only [cal_civil_l2])) (fun k us r h => by unfold cal_civil_l2_w at h; split at h; exact ((den2_eq _).symm.trans (cal_civil_l2_eq K k _ _)).trans h; cases h) K
def cal_civil_v2 (K : Nat) : Nat → Option Vm.LS := addL (cal_civil_v6 K) 2 (cal_civil_l2_s K)
def cal_civil_dec : List U → Option (Int × Int × Int) := fun u => match u with | [.i x0, .i x1, .i x2] => some (x0, x1, x2) | _ => none
def cal_civil_enc : (Int × Int × Int) → List U := fun r => [.i r.1, .i r.2.1, .i r.2.2]
def cal_civil (K : Nat) (x0 : Int) : Option (Int × Int × Int) := ((cal_civil_l2 K K x0 (Go.IntKind.i64.wrap (Go.IntKind.i64.wrap (x0.tdiv 366) + 1))).bind fun r0 => ((cal_ahead K r0.snd).bind fun r1 => ((cal_civil_l6 K K (Go.IntKind.i64.wrap (r0.fst - r1)) r0.snd 1).bind fun r2 => (some ((r2.snd.fst, r2.snd.snd, r2.fst))))))
theorem cal_civil_eq (K : Nat) (x0 : Int) : (runF Go.Proofs.Try.prog (env_cal_Number K) (cal_civil_v2 K) Go.Proofs.Try.f19 [.one (.int .i64)] [.one (.int .i64), .one (.int .i64), .one (.int .i64)] cal_civil_dec [.i x0]).den2 = cal_civil K x0 := by kernel_rfl
def cal_civil_w (K : Nat) : List U → Option (Int × Int × Int) := fun us => match us with | [.i x0] => cal_civil K x0 | _ => none
def cal_civil_spec (K : Nat) : Vm.Spec := ⟨[.one (.int .i64)], [.one (.int .i64), .one (.int .i64), .one (.int .i64)], Int × Int × Int, cal_civil_w K, cal_civil_enc⟩
theorem cal_civil_ok (K : Nat) : FnOk Go.Proofs.Try.prog 19 (cal_civil_spec K) := fn_ok' hmix (env_cal_Number_ok K) (lenv := cal_civil_v2 K) (args := [.one (.int .i64)]) (res := [.one (.int .i64), .one (.int .i64), .one (.int .i64)]) (G := cal_civil_w K) (enc := cal_civil_enc) Go.Proofs.Try.func19 (lps_fn (l := [lp (bodyOf Go.Proofs.Try.f19) 0, lp (bodyOf Go.Proofs.Try.f19) 1]) (by kernel_rfl) ⟨⟨2, cal_civil_l2_s K, by kernel_rfl, by kernel_rfl, cal_civil_l2_ok K⟩, ⟨⟨6, cal_civil_l6_s K, by kernel_rfl, by kernel_rfl, cal_civil_l6_ok K⟩, trivial⟩⟩) (dec := cal_civil_dec) (fun u r h => by unfold cal_civil_dec at h; split at h; (obtain rfl := Option.some.inj h; rfl); cases h) (fun us r h => by unfold cal_civil_w at h; split at h; exact ((den2_eq _).symm.trans (cal_civil_eq K _)).trans h; cases h)
def env_cal_civil (K : Nat) : FuncId → Option Vm.Spec := addS (env_cal_Number K) 19 (cal_civil_spec K)
theorem env_cal_civil_ok (K : Nat) : EnvOk Go.Proofs.Try.prog (env_cal_civil K) := addS_ok (env_cal_Number_ok K) (.inl ⟨callable Go.Proofs.Try.func19 (by kernel_rfl) (by kernel_rfl), cal_civil_ok K⟩)
-- passbook/cal.Civil
def cal_Civil_dec : List U → Option (Int × Int × Int × Int) := fun u => match u with | [.i x0, .i x1, .i x2, .i x3] => some (x0, x1, x2, x3) | _ => none
def cal_Civil_enc : (Int × Int × Int × Int) → List U := fun r => [.i r.1, .i r.2.1, .i r.2.2.1, .i r.2.2.2]
def cal_Civil (K : Nat) (x0 : Int) : Option (Int × Int × Int × Int) := ((cal_is K x0).bind fun r0 => (bi (!r0)
    (some ((0, 0, 0, 1)))
    ((cal_civil K x0).bind fun r1 => (some ((r1.fst, r1.snd.fst, r1.snd.snd, 0))))))
theorem cal_Civil_eq (K : Nat) (x0 : Int) : (runF Go.Proofs.Try.prog (env_cal_civil K) (lenv0) Go.Proofs.Try.f13 [.one (.int .i64)] [.one (.int .i64), .one (.int .i64), .one (.int .i64), .one (.int .i64)] cal_Civil_dec [.i x0]).den2 = cal_Civil K x0 := by kernel_rfl
def cal_Civil_w (K : Nat) : List U → Option (Int × Int × Int × Int) := fun us => match us with | [.i x0] => cal_Civil K x0 | _ => none
def cal_Civil_spec (K : Nat) : Vm.Spec := ⟨[.one (.int .i64)], [.one (.int .i64), .one (.int .i64), .one (.int .i64), .one (.int .i64)], Int × Int × Int × Int, cal_Civil_w K, cal_Civil_enc⟩
theorem cal_Civil_ok (K : Nat) : FnOk Go.Proofs.Try.prog 13 (cal_Civil_spec K) := fn_ok' hmix (env_cal_civil_ok K) (lenv := lenv0) (args := [.one (.int .i64)]) (res := [.one (.int .i64), .one (.int .i64), .one (.int .i64), .one (.int .i64)]) (G := cal_Civil_w K) (enc := cal_Civil_enc) Go.Proofs.Try.func13 (lps_fn (l := []) (by kernel_rfl) trivial) (dec := cal_Civil_dec) (fun u r h => by unfold cal_Civil_dec at h; split at h; (obtain rfl := Option.some.inj h; rfl); cases h) (fun us r h => by unfold cal_Civil_w at h; split at h; exact ((den2_eq _).symm.trans (cal_Civil_eq K _)).trans h; cases h)
def env_cal_Civil (K : Nat) : FuncId → Option Vm.Spec := addS (env_cal_civil K) 13 (cal_Civil_spec K)
theorem env_cal_Civil_ok (K : Nat) : EnvOk Go.Proofs.Try.prog (env_cal_Civil K) := addS_ok (env_cal_civil_ok K) (.inl ⟨callable Go.Proofs.Try.func13 (by kernel_rfl) (by kernel_rfl), cal_Civil_ok K⟩)
-- passbook/cal.Weekday
def cal_Weekday_dec : List U → Option (Int × Int) := fun u => match u with | [.i x0, .i x1] => some (x0, x1) | _ => none
def cal_Weekday_enc : (Int × Int) → List U := fun r => [.i r.1, .i r.2]
def cal_Weekday (K : Nat) (x0 : Int) : Option (Int × Int) := ((cal_is K x0).bind fun r0 => (bi (!r0)
    (some ((0, 1)))
    (some (((Go.IntKind.i64.wrap (x0 - 1)).tmod 7, 0)))))
theorem cal_Weekday_eq (K : Nat) (x0 : Int) : (runF Go.Proofs.Try.prog (env_cal_Civil K) (lenv0) Go.Proofs.Try.f17 [.one (.int .i64)] [.one (.int .i64), .one (.int .i64)] cal_Weekday_dec [.i x0]).den2 = cal_Weekday K x0 := by kernel_rfl
def cal_Weekday_w (K : Nat) : List U → Option (Int × Int) := fun us => match us with | [.i x0] => cal_Weekday K x0 | _ => none
def cal_Weekday_spec (K : Nat) : Vm.Spec := ⟨[.one (.int .i64)], [.one (.int .i64), .one (.int .i64)], Int × Int, cal_Weekday_w K, cal_Weekday_enc⟩
theorem cal_Weekday_ok (K : Nat) : FnOk Go.Proofs.Try.prog 17 (cal_Weekday_spec K) := fn_ok' hmix (env_cal_Civil_ok K) (lenv := lenv0) (args := [.one (.int .i64)]) (res := [.one (.int .i64), .one (.int .i64)]) (G := cal_Weekday_w K) (enc := cal_Weekday_enc) Go.Proofs.Try.func17 (lps_fn (l := []) (by kernel_rfl) trivial) (dec := cal_Weekday_dec) (fun u r h => by unfold cal_Weekday_dec at h; split at h; (obtain rfl := Option.some.inj h; rfl); cases h) (fun us r h => by unfold cal_Weekday_w at h; split at h; exact ((den2_eq _).symm.trans (cal_Weekday_eq K _)).trans h; cases h)
def env_cal_Weekday (K : Nat) : FuncId → Option Vm.Spec := addS (env_cal_Civil K) 17 (cal_Weekday_spec K)
theorem env_cal_Weekday_ok (K : Nat) : EnvOk Go.Proofs.Try.prog (env_cal_Weekday K) := addS_ok (env_cal_Civil_ok K) (.inl ⟨callable Go.Proofs.Try.func17 (by kernel_rfl) (by kernel_rfl), cal_Weekday_ok K⟩)
-- passbook/passbookref03.Leap
def ref03_Leap_dec : List U → Option (Bool) := fun u => match u with | [.b c0] => some (c0) | _ => none
def ref03_Leap_enc : (Bool) → List U := fun r => [.b r]
def ref03_Leap (K : Nat) (x0 : Int) : Option (Bool) := (bi (x0.tmod 100 == 0)
    (some (x0.tmod 400 == 0))
    (some (x0.tmod 4 == 0)))
theorem ref03_Leap_eq (K : Nat) (x0 : Int) : (runF Go.Proofs.Try.prog (env_cal_Weekday K) (lenv0) Go.Proofs.Try.f32 [.one (.int .i64)] [.one (.bool)] ref03_Leap_dec [.i x0]).den2 = ref03_Leap K x0 := by kernel_rfl
def ref03_Leap_w (K : Nat) : List U → Option (Bool) := fun us => match us with | [.i x0] => ref03_Leap K x0 | _ => none
def ref03_Leap_spec (K : Nat) : Vm.Spec := ⟨[.one (.int .i64)], [.one (.bool)], Bool, ref03_Leap_w K, ref03_Leap_enc⟩
theorem ref03_Leap_ok (K : Nat) : FnOk Go.Proofs.Try.prog 32 (ref03_Leap_spec K) := fn_ok' hmix (env_cal_Weekday_ok K) (lenv := lenv0) (args := [.one (.int .i64)]) (res := [.one (.bool)]) (G := ref03_Leap_w K) (enc := ref03_Leap_enc) Go.Proofs.Try.func32 (lps_fn (l := []) (by kernel_rfl) trivial) (dec := ref03_Leap_dec) (fun u r h => by unfold ref03_Leap_dec at h; split at h; (obtain rfl := Option.some.inj h; rfl); cases h) (fun us r h => by unfold ref03_Leap_w at h; split at h; exact ((den2_eq _).symm.trans (ref03_Leap_eq K _)).trans h; cases h)
def env_ref03_Leap (K : Nat) : FuncId → Option Vm.Spec := addS (env_cal_Weekday K) 32 (ref03_Leap_spec K)
theorem env_ref03_Leap_ok (K : Nat) : EnvOk Go.Proofs.Try.prog (env_ref03_Leap K) := addS_ok (env_cal_Weekday_ok K) (.inl ⟨callable Go.Proofs.Try.func32 (by kernel_rfl) (by kernel_rfl), ref03_Leap_ok K⟩)
-- passbook/passbookref03.Length
def ref03_Length_dec : List U → Option (Int) := fun u => match u with | [.i x0] => some (x0) | _ => none
def ref03_Length_enc : (Int) → List U := fun r => [.i r]
def ref03_Length (K : Nat) (x0 : Int) (x1 : Int) : Option (Int) := (bi (x1 == 4)
    (some (30))
    (bi (x1 == 6)
    (some (30))
    (bi (x1 == 9)
    (some (30))
    (bi (x1 == 11)
    (some (30))
    (bi (x1 == 2)
    ((ref03_Leap K x0).bind fun r0 => (bi (r0)
    (some (29))
    (some (28))))
    (some (31)))))))
theorem ref03_Length_eq (K : Nat) (x0 : Int) (x1 : Int) : (runF Go.Proofs.Try.prog (env_ref03_Leap K) (lenv0) Go.Proofs.Try.f27 [.one (.int .i64), .one (.int .i64)] [.one (.int .i64)] ref03_Length_dec [.i x0, .i x1]).den2 = ref03_Length K x0 x1 := by kernel_rfl
def ref03_Length_w (K : Nat) : List U → Option (Int) := fun us => match us with | [.i x0, .i x1] => ref03_Length K x0 x1 | _ => none
def ref03_Length_spec (K : Nat) : Vm.Spec := ⟨[.one (.int .i64), .one (.int .i64)], [.one (.int .i64)], Int, ref03_Length_w K, ref03_Length_enc⟩
theorem ref03_Length_ok (K : Nat) : FnOk Go.Proofs.Try.prog 27 (ref03_Length_spec K) := fn_ok' hmix (env_ref03_Leap_ok K) (lenv := lenv0) (args := [.one (.int .i64), .one (.int .i64)]) (res := [.one (.int .i64)]) (G := ref03_Length_w K) (enc := ref03_Length_enc) Go.Proofs.Try.func27 (lps_fn (l := []) (by kernel_rfl) trivial) (dec := ref03_Length_dec) (fun u r h => by unfold ref03_Length_dec at h; split at h; (obtain rfl := Option.some.inj h; rfl); cases h) (fun us r h => by unfold ref03_Length_w at h; split at h; exact ((den2_eq _).symm.trans (ref03_Length_eq K _ _)).trans h; cases h)
def env_ref03_Length (K : Nat) : FuncId → Option Vm.Spec := addS (env_ref03_Leap K) 27 (ref03_Length_spec K)
theorem env_ref03_Length_ok (K : Nat) : EnvOk Go.Proofs.Try.prog (env_ref03_Length K) := addS_ok (env_ref03_Leap_ok K) (.inl ⟨callable Go.Proofs.Try.func27 (by kernel_rfl) (by kernel_rfl), ref03_Length_ok K⟩)
-- passbook/passbookref03.Year
def ref03_Year_dec : List U → Option (Int) := fun u => match u with | [.i x0] => some (x0) | _ => none
def ref03_Year_enc : (Int) → List U := fun r => [.i r]
def ref03_Year (K : Nat) (x0 : Int) : Option (Int) := ((ref03_Leap K x0).bind fun r0 => (bi (r0)
    (some (366))
    (some (365))))
theorem ref03_Year_eq (K : Nat) (x0 : Int) : (runF Go.Proofs.Try.prog (env_ref03_Length K) (lenv0) Go.Proofs.Try.f29 [.one (.int .i64)] [.one (.int .i64)] ref03_Year_dec [.i x0]).den2 = ref03_Year K x0 := by kernel_rfl
def ref03_Year_w (K : Nat) : List U → Option (Int) := fun us => match us with | [.i x0] => ref03_Year K x0 | _ => none
def ref03_Year_spec (K : Nat) : Vm.Spec := ⟨[.one (.int .i64)], [.one (.int .i64)], Int, ref03_Year_w K, ref03_Year_enc⟩
theorem ref03_Year_ok (K : Nat) : FnOk Go.Proofs.Try.prog 29 (ref03_Year_spec K) := fn_ok' hmix (env_ref03_Length_ok K) (lenv := lenv0) (args := [.one (.int .i64)]) (res := [.one (.int .i64)]) (G := ref03_Year_w K) (enc := ref03_Year_enc) Go.Proofs.Try.func29 (lps_fn (l := []) (by kernel_rfl) trivial) (dec := ref03_Year_dec) (fun u r h => by unfold ref03_Year_dec at h; split at h; (obtain rfl := Option.some.inj h; rfl); cases h) (fun us r h => by unfold ref03_Year_w at h; split at h; exact ((den2_eq _).symm.trans (ref03_Year_eq K _)).trans h; cases h)
def env_ref03_Year (K : Nat) : FuncId → Option Vm.Spec := addS (env_ref03_Length K) 29 (ref03_Year_spec K)
theorem env_ref03_Year_ok (K : Nat) : EnvOk Go.Proofs.Try.prog (env_ref03_Year K) := addS_ok (env_ref03_Length_ok K) (.inl ⟨callable Go.Proofs.Try.func29 (by kernel_rfl) (by kernel_rfl), ref03_Year_ok K⟩)
-- passbook/passbookref03.Is
def ref03_Is_dec : List U → Option (Bool) := fun u => match u with | [.b c0] => some (c0) | _ => none
def ref03_Is_enc : (Bool) → List U := fun r => [.b r]
def ref03_Is (K : Nat) (x0 : Int) : Option (Bool) := (bi (Decidable.decide (x0 ≥ 1))
    (some (Decidable.decide (x0 ≤ 3652059)))
    (some Bool.false))
theorem ref03_Is_eq (K : Nat) (x0 : Int) : (runF Go.Proofs.Try.prog (env_ref03_Year K) (lenv0) Go.Proofs.Try.f9 [.one (.int .i64)] [.one (.bool)] ref03_Is_dec [.i x0]).den2 = ref03_Is K x0 := by kernel_rfl
def ref03_Is_w (K : Nat) : List U → Option (Bool) := fun us => match us with | [.i x0] => ref03_Is K x0 | _ => none
def ref03_Is_spec (K : Nat) : Vm.Spec := ⟨[.one (.int .i64)], [.one (.bool)], Bool, ref03_Is_w K, ref03_Is_enc⟩
theorem ref03_Is_ok (K : Nat) : FnOk Go.Proofs.Try.prog 9 (ref03_Is_spec K) := fn_ok' hmix (env_ref03_Year_ok K) (lenv := lenv0) (args := [.one (.int .i64)]) (res := [.one (.bool)]) (G := ref03_Is_w K) (enc := ref03_Is_enc) Go.Proofs.Try.func9 (lps_fn (l := []) (by kernel_rfl) trivial) (dec := ref03_Is_dec) (fun u r h => by unfold ref03_Is_dec at h; split at h; (obtain rfl := Option.some.inj h; rfl); cases h) (fun us r h => by unfold ref03_Is_w at h; split at h; exact ((den2_eq _).symm.trans (ref03_Is_eq K _)).trans h; cases h)
def env_ref03_Is (K : Nat) : FuncId → Option Vm.Spec := addS (env_ref03_Year K) 9 (ref03_Is_spec K)
theorem env_ref03_Is_ok (K : Nat) : EnvOk Go.Proofs.Try.prog (env_ref03_Is K) := addS_ok (env_ref03_Year_ok K) (.inl ⟨callable Go.Proofs.Try.func9 (by kernel_rfl) (by kernel_rfl), ref03_Is_ok K⟩)
-- passbook/passbookref03.Civil
def ref03_Civil_l7_pre : Vm.Pat := ⟨41, [(0, .pv (.one (.int .i64))), (5, .pv (.one (.int .i64))), (6, .pv (.one (.int .i64)))], [], []⟩
def ref03_Civil_l7_post0 : Vm.Pat := ⟨41, [(0, .pv (.one (.int .i64))), (5, .pv (.one (.int .i64))), (6, .pv (.one (.int .i64)))], [], []⟩
def ref03_Civil_l7_enc0 : Int × Int × Int → List U := fun r => [.i r.1, .i r.2.1, .i r.2.2]
def ref03_Civil_l7_dec0 : List U → Option (Int × Int × Int) := fun u => match u with | [.i x0, .i x5, .i x6] => some (x0, x5, x6) | _ => none
def ref03_Civil_l7 (K : Nat) : Nat → Int → Int → Int → Option (Int × Int × Int)
  | 0, _, _, _ => none
  | k + 1, x0, x5, x6 => ((ref03_Length K x5 x6).bind fun r0 => (bi (Decidable.decide (x0 ≥ r0))
    ((ref03_Length K x5 x6).bind fun r1 => (ref03_Civil_l7 K k (Go.IntKind.i64.wrap (x0 - r1)) (x5) (Go.IntKind.i64.wrap (x6 + 1))))
    (some ((x0, x5, x6)))))
def ref03_Civil_l7_w (K k : Nat) : List U → Option (Int × Int × Int) := fun us => match us with | [.i x0, .i x5, .i x6] => ref03_Civil_l7 K k x0 x5 x6 | _ => none
theorem ref03_Civil_l7_eq (K k : Nat) (x0 : Int) (x5 : Int) (x6 : Int) : (round1 Go.Proofs.Try.prog (env_ref03_Is K) (lenv0) (lp (bodyOf Go.Proofs.Try.f21) 1) ref03_Civil_l7_pre (.exit 2) ref03_Civil_l7_post0 ref03_Civil_l7_dec0 (ref03_Civil_l7_w K k) [.i x0, .i x5, .i x6]).den2 = ref03_Civil_l7 K (k + 1) x0 x5 x6 := by kernel_rfl
def ref03_Civil_l7_s (K : Nat) : Vm.LS := .one ref03_Civil_l7_pre _ (.exit 2) ref03_Civil_l7_post0 (ref03_Civil_l7_w K K) ref03_Civil_l7_enc0
theorem ref03_Civil_l7_ok (K : Nat) : LoopOk Go.Proofs.Try.prog (lp (bodyOf Go.Proofs.Try.f21) 1) (ref03_Civil_l7_s K) := loop_one hmix (env_ref03_Is_ok K) (lenv := lenv0) (L := ref03_Civil_l7_w K) (enc := ref03_Civil_l7_enc0) (dec := ref03_Civil_l7_dec0) (lps_ok (l := []) (by kernel_rfl) trivial) (fun u r h => by unfold ref03_Civil_l7_dec0 at h; split at h; (obtain rfl := Option.some.inj h; rfl); cases h) (fun us => by unfold ref03_Civil_l7_w; split <;> first | rfl | (simp only [ref03_Civil_l7])) (fun k us r h => by unfold ref03_Civil_l7_w at h; split at h; exact ((den2_eq _).symm.trans (ref03_Civil_l7_eq K k _ _ _)).trans h; cases h) K
def ref03_Civil_v7 (K : Nat) : Nat → Option Vm.LS := addL (lenv0) 7 (ref03_Civil_l7_s K)
def ref03_Civil_l3_pre : Vm.Pat := ⟨41, [(0, .pv (.one (.int .i64))), (5, .pv (.one (.int .i64)))], [], []⟩
def ref03_Civil_l3_post0 : Vm.Pat := ⟨41, [(0, .pv (.one (.int .i64))), (5, .pv (.one (.int .i64)))], [], []⟩
def ref03_Civil_l3_enc0 : Int × Int → List U := fun r => [.i r.1, .i r.2]
def ref03_Civil_l3_dec0 : List U → Option (Int × Int) := fun u => match u with | [.i x0, .i x5] => some (x0, x5) | _ => none
def ref03_Civil_l3 (K : Nat) : Nat → Int → Int → Option (Int × Int)
  | 0, _, _ => none
  | k + 1, x0, x5 => ((ref03_Year K x5).bind fun r0 => (bi (Decidable.decide (x0 ≥ r0))
    ((ref03_Year K x5).bind fun r1 => (ref03_Civil_l3 K k (Go.IntKind.i64.wrap (x0 - r1)) (Go.IntKind.i64.wrap (x5 + 1))))
    (some ((x0, x5)))))
def ref03_Civil_l3_w (K k : Nat) : List U → Option (Int × Int) := fun us => match us with | [.i x0, .i x5] => ref03_Civil_l3 K k x0 x5 | _ => none
theorem ref03_Civil_l3_eq (K k : Nat) (x0 : Int) (x5 : Int) : (round1 Go.Proofs.Try.prog (env_ref03_Is K) (ref03_Civil_v7 K) (lp (bodyOf Go.Proofs.Try.f21) 0) ref03_Civil_l3_pre (.exit 0) ref03_Civil_l3_post0 ref03_Civil_l3_dec0 (ref03_Civil_l3_w K k) [.i x0, .i x5]).den2 = ref03_Civil_l3 K (k + 1) x0 x5 := by kernel_rfl
def ref03_Civil_l3_s (K : Nat) : Vm.LS := .one ref03_Civil_l3_pre _ (.exit 0) ref03_Civil_l3_post0 (ref03_Civil_l3_w K K) ref03_Civil_l3_enc0
theorem ref03_Civil_l3_ok (K : Nat) : LoopOk Go.Proofs.Try.prog (lp (bodyOf Go.Proofs.Try.f21) 0) (ref03_Civil_l3_s K) := loop_one hmix (env_ref03_Is_ok K) (lenv := ref03_Civil_v7 K) (L := ref03_Civil_l3_w K) (enc := ref03_Civil_l3_enc0) (dec := ref03_Civil_l3_dec0) (lps_ok (l := []) (by kernel_rfl) trivial) (fun u r h => by unfold ref03_Civil_l3_dec0 at h; split at h; (obtain rfl := Option.some.inj h; rfl); cases h) (fun us => by unfold ref03_Civil_l3_w; split <;> first | rfl | (simp only [ref03_Civil_l3])) (fun k us r h => by unfold ref03_Civil_l3_w at h; split at h; exact ((den2_eq _).symm.trans (ref03_Civil_l3_eq K k _ _)).trans h; cases h) K
def ref03_Civil_v3 (K : Nat) : Nat → Option Vm.LS := addL (ref03_Civil_v7 K) 3 (ref03_Civil_l3_s K)
def ref03_Civil_dec : List U → Option (Int × Int × Int) := fun u => match u with | [.i x0, .i x1, .i x2] => some (x0, x1, x2) | _ => none
def ref03_Civil_enc : (Int × Int × Int) → List U := fun r => [.i r.1, .i r.2.1, .i r.2.2]
def ref03_Civil (K : Nat) (x0 : Int) : Option (Int × Int × Int) := ((ref03_Civil_l3 K K ((Go.IntKind.i64.wrap (x0 - 1)).tmod 146097)
  (Go.IntKind.i64.wrap
    (1 + Go.IntKind.i64.wrap (400 * Go.IntKind.i64.wrap ((Go.IntKind.i64.wrap (x0 - 1)).tdiv 146097))))).bind fun r0 => ((ref03_Civil_l7 K K r0.fst r0.snd 1).bind fun r1 => (some ((r1.snd.fst, r1.snd.snd, Go.IntKind.i64.wrap (r1.fst + 1))))))
theorem ref03_Civil_eq (K : Nat) (x0 : Int) : (runF Go.Proofs.Try.prog (env_ref03_Is K) (ref03_Civil_v3 K) Go.Proofs.Try.f21 [.one (.int .i64)] [.one (.int .i64), .one (.int .i64), .one (.int .i64)] ref03_Civil_dec [.i x0]).den2 = ref03_Civil K x0 := by kernel_rfl
def ref03_Civil_w (K : Nat) : List U → Option (Int × Int × Int) := fun us => match us with | [.i x0] => ref03_Civil K x0 | _ => none
def ref03_Civil_spec (K : Nat) : Vm.Spec := ⟨[.one (.int .i64)], [.one (.int .i64), .one (.int .i64), .one (.int .i64)], Int × Int × Int, ref03_Civil_w K, ref03_Civil_enc⟩
theorem ref03_Civil_ok (K : Nat) : FnOk Go.Proofs.Try.prog 21 (ref03_Civil_spec K) := fn_ok' hmix (env_ref03_Is_ok K) (lenv := ref03_Civil_v3 K) (args := [.one (.int .i64)]) (res := [.one (.int .i64), .one (.int .i64), .one (.int .i64)]) (G := ref03_Civil_w K) (enc := ref03_Civil_enc) Go.Proofs.Try.func21 (lps_fn (l := [lp (bodyOf Go.Proofs.Try.f21) 0, lp (bodyOf Go.Proofs.Try.f21) 1]) (by kernel_rfl) ⟨⟨3, ref03_Civil_l3_s K, by kernel_rfl, by kernel_rfl, ref03_Civil_l3_ok K⟩, ⟨⟨7, ref03_Civil_l7_s K, by kernel_rfl, by kernel_rfl, ref03_Civil_l7_ok K⟩, trivial⟩⟩) (dec := ref03_Civil_dec) (fun u r h => by unfold ref03_Civil_dec at h; split at h; (obtain rfl := Option.some.inj h; rfl); cases h) (fun us r h => by unfold ref03_Civil_w at h; split at h; exact ((den2_eq _).symm.trans (ref03_Civil_eq K _)).trans h; cases h)
def env_ref03_Civil (K : Nat) : FuncId → Option Vm.Spec := addS (env_ref03_Is K) 21 (ref03_Civil_spec K)
theorem env_ref03_Civil_ok (K : Nat) : EnvOk Go.Proofs.Try.prog (env_ref03_Civil K) := addS_ok (env_ref03_Is_ok K) (.inl ⟨callable Go.Proofs.Try.func21 (by kernel_rfl) (by kernel_rfl), ref03_Civil_ok K⟩)
-- passbook/passbookref03.Number
def ref03_Number_l7_pre : Vm.Pat := ⟨41, [(0, .pv (.one (.int .i64))), (1, .pv (.one (.int .i64))), (2, .pv (.one (.int .i64))), (7, .pv (.one (.int .i64))), (9, .pv (.one (.int .i64)))], [], []⟩
def ref03_Number_l7_post0 : Vm.Pat := ⟨41, [(2, .pv (.one (.int .i64))), (7, .pv (.one (.int .i64)))], [], []⟩
def ref03_Number_l7_enc0 : Int × Int → List U := fun r => [.i r.1, .i r.2]
def ref03_Number_l7_dec0 : List U → Option (Int × Int) := fun u => match u with | [.i x2, .i x7] => some (x2, x7) | _ => none
def ref03_Number_l7 (K : Nat) : Nat → Int → Int → Int → Int → Int → Option (Int × Int)
  | 0, _, _, _, _, _ => none
  | k + 1, x0, x1, x2, x7, x9 => (bi (Decidable.decide (x9 < x1))
    ((ref03_Length K x0 x9).bind fun r0 => (ref03_Number_l7 K k (x0) (x1) (x2) (Go.IntKind.i64.wrap (x7 + r0)) (Go.IntKind.i64.wrap (x9 + 1))))
    (some ((x2, x7))))
def ref03_Number_l7_w (K k : Nat) : List U → Option (Int × Int) := fun us => match us with | [.i x0, .i x1, .i x2, .i x7, .i x9] => ref03_Number_l7 K k x0 x1 x2 x7 x9 | _ => none
theorem ref03_Number_l7_eq (K k : Nat) (x0 : Int) (x1 : Int) (x2 : Int) (x7 : Int) (x9 : Int) : (round1 Go.Proofs.Try.prog (env_ref03_Civil K) (lenv0) (lp (bodyOf Go.Proofs.Try.f28) 1) ref03_Number_l7_pre (.exit 2) ref03_Number_l7_post0 ref03_Number_l7_dec0 (ref03_Number_l7_w K k) [.i x0, .i x1, .i x2, .i x7, .i x9]).den2 = ref03_Number_l7 K (k + 1) x0 x1 x2 x7 x9 := by kernel_rfl
def ref03_Number_l7_s (K : Nat) : Vm.LS := .one ref03_Number_l7_pre _ (.exit 2) ref03_Number_l7_post0 (ref03_Number_l7_w K K) ref03_Number_l7_enc0
theorem ref03_Number_l7_ok (K : Nat) : LoopOk Go.Proofs.Try.prog (lp (bodyOf Go.Proofs.Try.f28) 1) (ref03_Number_l7_s K) := loop_one hmix (env_ref03_Civil_ok K) (lenv := lenv0) (L := ref03_Number_l7_w K) (enc := ref03_Number_l7_enc0) (dec := ref03_Number_l7_dec0) (lps_ok (l := []) (by kernel_rfl) trivial) (fun u r h => by unfold ref03_Number_l7_dec0 at h; split at h; (obtain rfl := Option.some.inj h; rfl); cases h) (fun us => by unfold ref03_Number_l7_w; split <;> first | rfl | (simp only [ref03_Number_l7])) (fun k us r h => by unfold ref03_Number_l7_w at h; split at h; exact ((den2_eq _).symm.trans (ref03_Number_l7_eq K k _ _ _ _ _)).trans h; cases h) K
def ref03_Number_v7 (K : Nat) : Nat → Option Vm.LS := addL (lenv0) 7 (ref03_Number_l7_s K)
def ref03_Number_l3_pre : Vm.Pat := ⟨41, [(0, .pv (.one (.int .i64))), (1, .pv (.one (.int .i64))), (2, .pv (.one (.int .i64))), (7, .pv (.one (.int .i64))), (8, .pv (.one (.int .i64)))], [], []⟩
def ref03_Number_l3_post0 : Vm.Pat := ⟨41, [(0, .pv (.one (.int .i64))), (1, .pv (.one (.int .i64))), (2, .pv (.one (.int .i64))), (7, .pv (.one (.int .i64)))], [], []⟩
def ref03_Number_l3_enc0 : Int × Int × Int × Int → List U := fun r => [.i r.1, .i r.2.1, .i r.2.2.1, .i r.2.2.2]
def ref03_Number_l3_dec0 : List U → Option (Int × Int × Int × Int) := fun u => match u with | [.i x0, .i x1, .i x2, .i x7] => some (x0, x1, x2, x7) | _ => none
def ref03_Number_l3 (K : Nat) : Nat → Int → Int → Int → Int → Int → Option (Int × Int × Int × Int)
  | 0, _, _, _, _, _ => none
  | k + 1, x0, x1, x2, x7, x8 => (bi (Decidable.decide (x8 < x0))
    ((ref03_Year K x8).bind fun r0 => (ref03_Number_l3 K k (x0) (x1) (x2) (Go.IntKind.i64.wrap (x7 + r0)) (Go.IntKind.i64.wrap (x8 + 1))))
    (some ((x0, x1, x2, x7))))
def ref03_Number_l3_w (K k : Nat) : List U → Option (Int × Int × Int × Int) := fun us => match us with | [.i x0, .i x1, .i x2, .i x7, .i x8] => ref03_Number_l3 K k x0 x1 x2 x7 x8 | _ => none
theorem ref03_Number_l3_eq (K k : Nat) (x0 : Int) (x1 : Int) (x2 : Int) (x7 : Int) (x8 : Int) : (round1 Go.Proofs.Try.prog (env_ref03_Civil K) (ref03_Number_v7 K) (lp (bodyOf Go.Proofs.Try.f28) 0) ref03_Number_l3_pre (.exit 0) ref03_Number_l3_post0 ref03_Number_l3_dec0 (ref03_Number_l3_w K k) [.i x0, .i x1, .i x2, .i x7, .i x8]).den2 = ref03_Number_l3 K (k + 1) x0 x1 x2 x7 x8 := by kernel_rfl
def ref03_Number_l3_s (K : Nat) : Vm.LS := .one ref03_Number_l3_pre _ (.exit 0) ref03_Number_l3_post0 (ref03_Number_l3_w K K) ref03_Number_l3_enc0
theorem ref03_Number_l3_ok (K : Nat) : LoopOk Go.Proofs.Try.prog (lp (bodyOf Go.Proofs.Try.f28) 0) (ref03_Number_l3_s K) := loop_one hmix (env_ref03_Civil_ok K) (lenv := ref03_Number_v7 K) (L := ref03_Number_l3_w K) (enc := ref03_Number_l3_enc0) (dec := ref03_Number_l3_dec0) (lps_ok (l := []) (by kernel_rfl) trivial) (fun u r h => by unfold ref03_Number_l3_dec0 at h; split at h; (obtain rfl := Option.some.inj h; rfl); cases h) (fun us => by unfold ref03_Number_l3_w; split <;> first | rfl | (simp only [ref03_Number_l3])) (fun k us r h => by unfold ref03_Number_l3_w at h; split at h; exact ((den2_eq _).symm.trans (ref03_Number_l3_eq K k _ _ _ _ _)).trans h; cases h) K
def ref03_Number_v3 (K : Nat) : Nat → Option Vm.LS := addL (ref03_Number_v7 K) 3 (ref03_Number_l3_s K)
def ref03_Number_dec : List U → Option (Int) := fun u => match u with | [.i x0] => some (x0) | _ => none
def ref03_Number_enc : (Int) → List U := fun r => [.i r]
def ref03_Number (K : Nat) (x0 : Int) (x1 : Int) (x2 : Int) : Option (Int) := ((ref03_Number_l3 K K x0 x1 x2
  (Go.IntKind.i64.wrap (146097 * Go.IntKind.i64.wrap ((Go.IntKind.i64.wrap (x0 - 1)).tdiv 400)))
  (Go.IntKind.i64.wrap (1 + Go.IntKind.i64.wrap (400 * Go.IntKind.i64.wrap ((Go.IntKind.i64.wrap (x0 - 1)).tdiv 400))))).bind fun r0 => ((ref03_Number_l7 K K r0.fst r0.snd.fst r0.snd.snd.fst r0.snd.snd.snd 1).bind fun r1 => (some (Go.IntKind.i64.wrap (r1.snd + r1.fst)))))
theorem ref03_Number_eq (K : Nat) (x0 : Int) (x1 : Int) (x2 : Int) : (runF Go.Proofs.Try.prog (env_ref03_Civil K) (ref03_Number_v3 K) Go.Proofs.Try.f28 [.one (.int .i64), .one (.int .i64), .one (.int .i64)] [.one (.int .i64)] ref03_Number_dec [.i x0, .i x1, .i x2]).den2 = ref03_Number K x0 x1 x2 := by kernel_rfl
def ref03_Number_w (K : Nat) : List U → Option (Int) := fun us => match us with | [.i x0, .i x1, .i x2] => ref03_Number K x0 x1 x2 | _ => none
def ref03_Number_spec (K : Nat) : Vm.Spec := ⟨[.one (.int .i64), .one (.int .i64), .one (.int .i64)], [.one (.int .i64)], Int, ref03_Number_w K, ref03_Number_enc⟩
theorem ref03_Number_ok (K : Nat) : FnOk Go.Proofs.Try.prog 28 (ref03_Number_spec K) := fn_ok' hmix (env_ref03_Civil_ok K) (lenv := ref03_Number_v3 K) (args := [.one (.int .i64), .one (.int .i64), .one (.int .i64)]) (res := [.one (.int .i64)]) (G := ref03_Number_w K) (enc := ref03_Number_enc) Go.Proofs.Try.func28 (lps_fn (l := [lp (bodyOf Go.Proofs.Try.f28) 0, lp (bodyOf Go.Proofs.Try.f28) 1]) (by kernel_rfl) ⟨⟨3, ref03_Number_l3_s K, by kernel_rfl, by kernel_rfl, ref03_Number_l3_ok K⟩, ⟨⟨7, ref03_Number_l7_s K, by kernel_rfl, by kernel_rfl, ref03_Number_l7_ok K⟩, trivial⟩⟩) (dec := ref03_Number_dec) (fun u r h => by unfold ref03_Number_dec at h; split at h; (obtain rfl := Option.some.inj h; rfl); cases h) (fun us r h => by unfold ref03_Number_w at h; split at h; exact ((den2_eq _).symm.trans (ref03_Number_eq K _ _ _)).trans h; cases h)
def env_ref03_Number (K : Nat) : FuncId → Option Vm.Spec := addS (env_ref03_Civil K) 28 (ref03_Number_spec K)
theorem env_ref03_Number_ok (K : Nat) : EnvOk Go.Proofs.Try.prog (env_ref03_Number K) := addS_ok (env_ref03_Civil_ok K) (.inl ⟨callable Go.Proofs.Try.func28 (by kernel_rfl) (by kernel_rfl), ref03_Number_ok K⟩)
-- passbook/cal.padded
def cal_padded_l3_pre : Vm.Pat := ⟨26, [(0, .pv (.one (.int .i64))), (5, .pv (.one (.row .u8 true))), (6, .pv (.one (.int .i64)))], [], []⟩
def cal_padded_l3_post0 : Vm.Pat := ⟨26, [(5, .pv (.one (.row .u8 true)))], [], []⟩
def cal_padded_l3_enc0 : List Int → List U := fun r => [.r r]
def cal_padded_l3_dec0 : List U → Option (List Int) := fun u => match u with | [.r l5] => some (l5) | _ => none
def cal_padded_l3 (K : Nat) : Nat → Int → List Int → Int → Option (List Int)
  | 0, _, _, _ => none
  | k + 1, x0, l5, x6 => (bi (Decidable.decide (x6 ≥ 0))
    (bi (Decidable.decide (0 ≤ x6) && Decidable.decide (x6 < (↑l5.length : Int)))
    (cal_padded_l3 K k (Go.IntKind.i64.wrap (x0.tdiv 10)) (l5.set x6.toNat (Go.IntKind.u8.wrap (Go.IntKind.i64.wrap (48 + x0.tmod 10)))) (Go.IntKind.i64.wrap (x6 - 1)))
    none)
    (some l5))
def cal_padded_l3_w (K k : Nat) : List U → Option (List Int) := fun us => match us with | [.i x0, .r l5, .i x6] => cal_padded_l3 K k x0 l5 x6 | _ => none
theorem cal_padded_l3_eq (K k : Nat) (x0 : Int) (l5 : List Int) (x6 : Int) : (round1 Go.Proofs.Try.prog (env_ref03_Number K) (lenv0) (lp (bodyOf Go.Proofs.Try.f20) 0) cal_padded_l3_pre (.exit 0) cal_padded_l3_post0 cal_padded_l3_dec0 (cal_padded_l3_w K k) [.i x0, .r l5, .i x6]).den2 = cal_padded_l3 K (k + 1) x0 l5 x6 := by kernel_rfl
def cal_padded_l3_s (K : Nat) : Vm.LS := .one cal_padded_l3_pre _ (.exit 0) cal_padded_l3_post0 (cal_padded_l3_w K K) cal_padded_l3_enc0
theorem cal_padded_l3_ok (K : Nat) : LoopOk Go.Proofs.Try.prog (lp (bodyOf Go.Proofs.Try.f20) 0) (cal_padded_l3_s K) := loop_one hmix (env_ref03_Number_ok K) (lenv := lenv0) (L := cal_padded_l3_w K) (enc := cal_padded_l3_enc0) (dec := cal_padded_l3_dec0) (lps_ok (l := []) (by kernel_rfl) trivial) (fun u r h => by unfold cal_padded_l3_dec0 at h; split at h; (obtain rfl := Option.some.inj h; rfl); cases h) (fun us => by unfold cal_padded_l3_w; split <;> first | rfl | (simp only [cal_padded_l3])) (fun k us r h => by unfold cal_padded_l3_w at h; split at h; exact ((den2_eq _).symm.trans (cal_padded_l3_eq K k _ _ _)).trans h; cases h) K
def cal_padded_v3 (K : Nat) : Nat → Option Vm.LS := addL (lenv0) 3 (cal_padded_l3_s K)
def cal_padded_dec : List U → Option (ByteArray) := fun u => match u with | [.s s0] => some (s0) | _ => none
def cal_padded_enc : (ByteArray) → List U := fun r => [.s r]
def cal_padded (K : Nat) (x0 : Int) (x1 : Int) : Option (ByteArray) := (bi (Decidable.decide (0 ≤ x1) && Decidable.decide (x1 ≤ x1) && Decidable.decide (x1 ≤ 8796093022208))
    ((cal_padded_l3 K K x0 (List.replicate x1.toNat 0) (Go.IntKind.i64.wrap (x1 - 1))).bind fun r0 => (some (strOf r0)))
    none)
theorem cal_padded_eq (K : Nat) (x0 : Int) (x1 : Int) : (runF Go.Proofs.Try.prog (env_ref03_Number K) (cal_padded_v3 K) Go.Proofs.Try.f20 [.one (.int .i64), .one (.int .i64)] [.one (.str)] cal_padded_dec [.i x0, .i x1]).den2 = cal_padded K x0 x1 := by kernel_rfl
def cal_padded_w (K : Nat) : List U → Option (ByteArray) := fun us => match us with | [.i x0, .i x1] => cal_padded K x0 x1 | _ => none
def cal_padded_spec (K : Nat) : Vm.Spec := ⟨[.one (.int .i64), .one (.int .i64)], [.one (.str)], ByteArray, cal_padded_w K, cal_padded_enc⟩
theorem cal_padded_ok (K : Nat) : FnOk Go.Proofs.Try.prog 20 (cal_padded_spec K) := fn_ok' hmix (env_ref03_Number_ok K) (lenv := cal_padded_v3 K) (args := [.one (.int .i64), .one (.int .i64)]) (res := [.one (.str)]) (G := cal_padded_w K) (enc := cal_padded_enc) Go.Proofs.Try.func20 (lps_fn (l := [lp (bodyOf Go.Proofs.Try.f20) 0]) (by kernel_rfl) ⟨⟨3, cal_padded_l3_s K, by kernel_rfl, by kernel_rfl, cal_padded_l3_ok K⟩, trivial⟩) (dec := cal_padded_dec) (fun u r h => by unfold cal_padded_dec at h; split at h; (obtain rfl := Option.some.inj h; rfl); cases h) (fun us r h => by unfold cal_padded_w at h; split at h; exact ((den2_eq _).symm.trans (cal_padded_eq K _ _)).trans h; cases h)
def env_cal_padded (K : Nat) : FuncId → Option Vm.Spec := addS (env_ref03_Number K) 20 (cal_padded_spec K)
theorem env_cal_padded_ok (K : Nat) : EnvOk Go.Proofs.Try.prog (env_cal_padded K) := addS_ok (env_ref03_Number_ok K) (.inl ⟨callable Go.Proofs.Try.func20 (by kernel_rfl) (by kernel_rfl), cal_padded_ok K⟩)
-- passbook/cal.Write
def cal_Write_dec : List U → Option (ByteArray × Int) := fun u => match u with | [.s s0, .i x1] => some (s0, x1) | _ => none
def cal_Write_enc : (ByteArray × Int) → List U := fun r => [.s r.1, .i r.2]
def cal_Write (K : Nat) (x0 : Int) : Option (ByteArray × Int) := ((cal_is K x0).bind fun r0 => (bi (!r0)
    (some (({ data := #[] }, 1)))
    ((cal_civil K x0).bind fun r1 => ((cal_padded K r1.fst 4).bind fun r2 => (bi (Decidable.decide ((↑(ByteArray.size r2 + 1) : Int) > 9223372036854775807))
    none
    ((cal_padded K r1.snd.fst 2).bind fun r3 => (bi (Decidable.decide ((↑((r2 ++ { data := #[45] }).size + ByteArray.size r3) : Int) > 9223372036854775807))
    none
    (bi (Decidable.decide ((↑((r2 ++ { data := #[45] } ++ r3).size + 1) : Int) > 9223372036854775807))
    none
    ((cal_padded K r1.snd.snd 2).bind fun r4 => (bi (Decidable.decide
  ((↑((r2 ++ { data := #[45] } ++ r3 ++ { data := #[45] }).size + ByteArray.size r4) : Int) > 9223372036854775807))
    none
    (some ((r2 ++ { data := #[45] } ++ r3 ++ { data := #[45] } ++ r4, 0)))))))))))))
theorem cal_Write_eq (K : Nat) (x0 : Int) : (runF Go.Proofs.Try.prog (env_cal_padded K) (lenv0) Go.Proofs.Try.f8 [.one (.int .i64)] [.one (.str), .one (.int .i64)] cal_Write_dec [.i x0]).den2 = cal_Write K x0 := by kernel_rfl
def cal_Write_w (K : Nat) : List U → Option (ByteArray × Int) := fun us => match us with | [.i x0] => cal_Write K x0 | _ => none
def cal_Write_spec (K : Nat) : Vm.Spec := ⟨[.one (.int .i64)], [.one (.str), .one (.int .i64)], ByteArray × Int, cal_Write_w K, cal_Write_enc⟩
theorem cal_Write_ok (K : Nat) : FnOk Go.Proofs.Try.prog 8 (cal_Write_spec K) := fn_ok' hmix (env_cal_padded_ok K) (lenv := lenv0) (args := [.one (.int .i64)]) (res := [.one (.str), .one (.int .i64)]) (G := cal_Write_w K) (enc := cal_Write_enc) Go.Proofs.Try.func8 (lps_fn (l := []) (by kernel_rfl) trivial) (dec := cal_Write_dec) (fun u r h => by unfold cal_Write_dec at h; split at h; (obtain rfl := Option.some.inj h; rfl); cases h) (fun us r h => by unfold cal_Write_w at h; split at h; exact ((den2_eq _).symm.trans (cal_Write_eq K _)).trans h; cases h)
def env_cal_Write (K : Nat) : FuncId → Option Vm.Spec := addS (env_cal_padded K) 8 (cal_Write_spec K)
theorem env_cal_Write_ok (K : Nat) : EnvOk Go.Proofs.Try.prog (env_cal_Write K) := addS_ok (env_cal_padded_ok K) (.inl ⟨callable Go.Proofs.Try.func8 (by kernel_rfl) (by kernel_rfl), cal_Write_ok K⟩)
-- passbook/cal.figures
def cal_figures_l3_pre : Vm.Pat := ⟨30, [(0, .pv (.one (.str))), (3, .pv (.one (.int .i64))), (6, .pv (.one (.int .i64))), (7, .pv (.one (.int .i64)))], [], []⟩
def cal_figures_l3_post0 : Vm.Pat := ⟨30, [(3, .pv (.one (.int .i64)))], [], []⟩
def cal_figures_l3_enc0 : Int → List U := fun r => [.i r]
def cal_figures_l3_dec0 : List U → Option (Int) := fun u => match u with | [.i x3] => some (x3) | _ => none
def cal_figures_l3_post1 : Vm.Pat := ⟨30, [(2, .pv (.one (.int .i64)))], [], []⟩
def cal_figures_l3_enc1 : Int → List U := fun r => [.i r]
def cal_figures_l3_dec1 : List U → Option (Int) := fun u => match u with | [.i x2] => some (x2) | _ => none
def cal_figures_l3 (K : Nat) : Nat → ByteArray → Int → Int → Int → Option ((Int) ⊕ (Int))
  | 0, _, _, _, _ => none
  | k + 1, s0, x3, x6, x7 => (bi (Decidable.decide (x7 < x6))
    (bi (Decidable.decide (0 ≤ x7) && Decidable.decide (x7 < (↑s0.size : Int)))
    (bi (Decidable.decide (bt s0 x7 < 48))
    (some (Sum.inr (-1)))
    (bi (Decidable.decide (0 ≤ x7) && Decidable.decide (x7 < (↑s0.size : Int)))
    (bi (Decidable.decide (bt s0 x7 > 57))
    (some (Sum.inr (-1)))
    (bi (Decidable.decide (0 ≤ x7) && Decidable.decide (x7 < (↑s0.size : Int)))
    (cal_figures_l3 K k (s0) (Go.IntKind.i64.wrap
  (Go.IntKind.i64.wrap (10 * x3) +
    Go.IntKind.i64.wrap (Go.IntKind.u8.wrap (bt s0 x7 - 48)))) (x6) (Go.IntKind.i64.wrap (x7 + 1)))
    none))
    none))
    none)
    (some (Sum.inl x3)))
def cal_figures_l3_w (K k : Nat) : List U → Option ((Int) ⊕ (Int)) := fun us => match us with | [.s s0, .i x3, .i x6, .i x7] => cal_figures_l3 K k s0 x3 x6 x7 | _ => none
theorem cal_figures_l3_eq (K k : Nat) (s0 : ByteArray) (x3 : Int) (x6 : Int) (x7 : Int) : (round2 Go.Proofs.Try.prog (env_cal_Write K) (lenv0) (lp (bodyOf Go.Proofs.Try.f14) 0) cal_figures_l3_pre (.exit 0) cal_figures_l3_post0 .ret cal_figures_l3_post1 cal_figures_l3_dec0 cal_figures_l3_dec1 (cal_figures_l3_w K k) [.s s0, .i x3, .i x6, .i x7]).den2 = cal_figures_l3 K (k + 1) s0 x3 x6 x7 := by kernel_rfl
def cal_figures_l3_s (K : Nat) : Vm.LS := .two cal_figures_l3_pre _ _ (.exit 0) cal_figures_l3_post0 .ret cal_figures_l3_post1 (cal_figures_l3_w K K) cal_figures_l3_enc0 cal_figures_l3_enc1
theorem cal_figures_l3_ok (K : Nat) : LoopOk Go.Proofs.Try.prog (lp (bodyOf Go.Proofs.Try.f14) 0) (cal_figures_l3_s K) := loop_two hmix (env_cal_Write_ok K) (lenv := lenv0) (L := cal_figures_l3_w K) (enc := cal_figures_l3_enc0) (dec := cal_figures_l3_dec0) (enc' := cal_figures_l3_enc1) (dec' := cal_figures_l3_dec1) (lps_ok (l := []) (by kernel_rfl) trivial) (fun u r h => by unfold cal_figures_l3_dec0 at h; split at h; (obtain rfl := Option.some.inj h; rfl); cases h) (fun u r h => by unfold cal_figures_l3_dec1 at h; split at h; (obtain rfl := Option.some.inj h; rfl); cases h) (fun us => by unfold cal_figures_l3_w; split <;> first | rfl | (simp only [cal_figures_l3])) (fun k us r h => by unfold cal_figures_l3_w at h; split at h; exact ((den2_eq _).symm.trans (cal_figures_l3_eq K k _ _ _ _)).trans h; cases h) K
def cal_figures_v3 (K : Nat) : Nat → Option Vm.LS := addL (lenv0) 3 (cal_figures_l3_s K)
def cal_figures_dec : List U → Option (Int) := fun u => match u with | [.i x0] => some (x0) | _ => none
def cal_figures_enc : (Int) → List U := fun r => [.i r]
def cal_figures (K : Nat) (s0 : ByteArray) : Option (Int) := (casO (cal_figures_l3 K K s0 0 (↑s0.size : Int) 0) (fun r0 => (some r0)) (fun r1 => (some r1)))
theorem cal_figures_eq (K : Nat) (s0 : ByteArray) : (runF Go.Proofs.Try.prog (env_cal_Write K) (cal_figures_v3 K) Go.Proofs.Try.f14 [.one (.str)] [.one (.int .i64)] cal_figures_dec [.s s0]).den2 = cal_figures K s0 := by kernel_rfl
def cal_figures_w (K : Nat) : List U → Option (Int) := fun us => match us with | [.s s0] => cal_figures K s0 | _ => none
def cal_figures_spec (K : Nat) : Vm.Spec := ⟨[.one (.str)], [.one (.int .i64)], Int, cal_figures_w K, cal_figures_enc⟩
theorem cal_figures_ok (K : Nat) : FnOk Go.Proofs.Try.prog 14 (cal_figures_spec K) := fn_ok' hmix (env_cal_Write_ok K) (lenv := cal_figures_v3 K) (args := [.one (.str)]) (res := [.one (.int .i64)]) (G := cal_figures_w K) (enc := cal_figures_enc) Go.Proofs.Try.func14 (lps_fn (l := [lp (bodyOf Go.Proofs.Try.f14) 0]) (by kernel_rfl) ⟨⟨3, cal_figures_l3_s K, by kernel_rfl, by kernel_rfl, cal_figures_l3_ok K⟩, trivial⟩) (dec := cal_figures_dec) (fun u r h => by unfold cal_figures_dec at h; split at h; (obtain rfl := Option.some.inj h; rfl); cases h) (fun us r h => by unfold cal_figures_w at h; split at h; exact ((den2_eq _).symm.trans (cal_figures_eq K _)).trans h; cases h)
def env_cal_figures (K : Nat) : FuncId → Option Vm.Spec := addS (env_cal_Write K) 14 (cal_figures_spec K)
theorem env_cal_figures_ok (K : Nat) : EnvOk Go.Proofs.Try.prog (env_cal_figures K) := addS_ok (env_cal_Write_ok K) (.inl ⟨callable Go.Proofs.Try.func14 (by kernel_rfl) (by kernel_rfl), cal_figures_ok K⟩)
-- passbook/cal.Parse
def cal_Parse_dec : List U → Option (Int × Int) := fun u => match u with | [.i x0, .i x1] => some (x0, x1) | _ => none
def cal_Parse_enc : (Int × Int) → List U := fun r => [.i r.1, .i r.2]
def cal_Parse (K : Nat) (s0 : ByteArray) : Option (Int × Int) := (bi ((↑s0.size : Int) != 10)
    (some ((0, 6)))
    (bi (Bool.true && Decidable.decide (4 < (↑s0.size : Int)))
    (bi (bt s0 4 != 45)
    (some ((0, 6)))
    (bi (Bool.true && Decidable.decide (7 < (↑s0.size : Int)))
    (bi (bt s0 7 != 45)
    (some ((0, 6)))
    (bi (Bool.true && Decidable.decide (4 ≤ (↑s0.size : Int)))
    ((cal_figures K (s0.extract 0 4)).bind fun r0 => (bi (Bool.true && Decidable.decide (7 ≤ (↑s0.size : Int)))
    ((cal_figures K (s0.extract 5 7)).bind fun r1 => (bi (Bool.true && Decidable.decide (8 ≤ (↑s0.size : Int)) && Decidable.decide ((↑s0.size : Int) ≤ (↑s0.size : Int)))
    ((cal_figures K (s0.extract 8 (↑s0.size : Int).toNat)).bind fun r2 => (bi (Decidable.decide (r0 < 0))
    (some ((0, 6)))
    (bi (Decidable.decide (r1 < 0))
    (some ((0, 6)))
    (bi (Decidable.decide (r2 < 0))
    (some ((0, 6)))
    ((cal_Number K r0 r1 r2).bind fun r3 => (bi (r3.snd != 0)
    (some ((0, 9)))
    (some ((r3.fst, 0)))))))))
    none))
    none))
    none))
    none))
    none))
theorem cal_Parse_eq (K : Nat) (s0 : ByteArray) : (runF Go.Proofs.Try.prog (env_cal_figures K) (lenv0) Go.Proofs.Try.f5 [.one (.str)] [.one (.int .i64), .one (.int .i64)] cal_Parse_dec [.s s0]).den2 = cal_Parse K s0 := by kernel_rfl
def cal_Parse_w (K : Nat) : List U → Option (Int × Int) := fun us => match us with | [.s s0] => cal_Parse K s0 | _ => none
def cal_Parse_spec (K : Nat) : Vm.Spec := ⟨[.one (.str)], [.one (.int .i64), .one (.int .i64)], Int × Int, cal_Parse_w K, cal_Parse_enc⟩
theorem cal_Parse_ok (K : Nat) : FnOk Go.Proofs.Try.prog 5 (cal_Parse_spec K) := fn_ok' hmix (env_cal_figures_ok K) (lenv := lenv0) (args := [.one (.str)]) (res := [.one (.int .i64), .one (.int .i64)]) (G := cal_Parse_w K) (enc := cal_Parse_enc) Go.Proofs.Try.func5 (lps_fn (l := []) (by kernel_rfl) trivial) (dec := cal_Parse_dec) (fun u r h => by unfold cal_Parse_dec at h; split at h; (obtain rfl := Option.some.inj h; rfl); cases h) (fun us r h => by unfold cal_Parse_w at h; split at h; exact ((den2_eq _).symm.trans (cal_Parse_eq K _)).trans h; cases h)
def env_cal_Parse (K : Nat) : FuncId → Option Vm.Spec := addS (env_cal_figures K) 5 (cal_Parse_spec K)
theorem env_cal_Parse_ok (K : Nat) : EnvOk Go.Proofs.Try.prog (env_cal_Parse K) := addS_ok (env_cal_figures_ok K) (.inl ⟨callable Go.Proofs.Try.func5 (by kernel_rfl) (by kernel_rfl), cal_Parse_ok K⟩)
-- passbook/passbookref03.DocNumber
def ref03_DocNumber_dec : List U → Option (Int × Int) := fun u => match u with | [.i x0, .i x1] => some (x0, x1) | _ => none
def ref03_DocNumber_enc : (Int × Int) → List U := fun r => [.i r.1, .i r.2]
def ref03_DocNumber (K : Nat) (x0 : Int) (x1 : Int) (x2 : Int) : Option (Int × Int) := (bi (Decidable.decide (x0 < 1))
    (some ((0, 1)))
    (bi (Decidable.decide (x0 > 9999))
    (some ((0, 1)))
    (bi (Decidable.decide (x1 < 1))
    (some ((0, 9)))
    (bi (Decidable.decide (x1 > 12))
    (some ((0, 9)))
    (bi (Decidable.decide (x2 < 1))
    (some ((0, 9)))
    ((ref03_Length K x0 x1).bind fun r0 => (bi (Decidable.decide (x2 > r0))
    (some ((0, 9)))
    ((ref03_Number K x0 x1 x2).bind fun r1 => (some ((r1, 0)))))))))))
theorem ref03_DocNumber_eq (K : Nat) (x0 : Int) (x1 : Int) (x2 : Int) : (runF Go.Proofs.Try.prog (env_cal_Parse K) (lenv0) Go.Proofs.Try.f16 [.one (.int .i64), .one (.int .i64), .one (.int .i64)] [.one (.int .i64), .one (.int .i64)] ref03_DocNumber_dec [.i x0, .i x1, .i x2]).den2 = ref03_DocNumber K x0 x1 x2 := by kernel_rfl
def ref03_DocNumber_w (K : Nat) : List U → Option (Int × Int) := fun us => match us with | [.i x0, .i x1, .i x2] => ref03_DocNumber K x0 x1 x2 | _ => none
def ref03_DocNumber_spec (K : Nat) : Vm.Spec := ⟨[.one (.int .i64), .one (.int .i64), .one (.int .i64)], [.one (.int .i64), .one (.int .i64)], Int × Int, ref03_DocNumber_w K, ref03_DocNumber_enc⟩
theorem ref03_DocNumber_ok (K : Nat) : FnOk Go.Proofs.Try.prog 16 (ref03_DocNumber_spec K) := fn_ok' hmix (env_cal_Parse_ok K) (lenv := lenv0) (args := [.one (.int .i64), .one (.int .i64), .one (.int .i64)]) (res := [.one (.int .i64), .one (.int .i64)]) (G := ref03_DocNumber_w K) (enc := ref03_DocNumber_enc) Go.Proofs.Try.func16 (lps_fn (l := []) (by kernel_rfl) trivial) (dec := ref03_DocNumber_dec) (fun u r h => by unfold ref03_DocNumber_dec at h; split at h; (obtain rfl := Option.some.inj h; rfl); cases h) (fun us r h => by unfold ref03_DocNumber_w at h; split at h; exact ((den2_eq _).symm.trans (ref03_DocNumber_eq K _ _ _)).trans h; cases h)
def env_ref03_DocNumber (K : Nat) : FuncId → Option Vm.Spec := addS (env_cal_Parse K) 16 (ref03_DocNumber_spec K)
theorem env_ref03_DocNumber_ok (K : Nat) : EnvOk Go.Proofs.Try.prog (env_ref03_DocNumber K) := addS_ok (env_cal_Parse_ok K) (.inl ⟨callable Go.Proofs.Try.func16 (by kernel_rfl) (by kernel_rfl), ref03_DocNumber_ok K⟩)
-- passbook/passbookref03.Write
def ref03_Write_l4_pre : Vm.Pat := ⟨65, [(3, .pv (.one (.int .i64))), (4, .pv (.one (.int .i64))), (5, .pv (.one (.int .i64))), (6, .pv (.one (.row .u8 true))), (7, .pv (.one (.int .i64)))], [], []⟩
def ref03_Write_l4_post0 : Vm.Pat := ⟨65, [(4, .pv (.one (.int .i64))), (5, .pv (.one (.int .i64))), (6, .pv (.one (.row .u8 true)))], [], []⟩
def ref03_Write_l4_enc0 : Int × Int × List Int → List U := fun r => [.i r.1, .i r.2.1, .r r.2.2]
def ref03_Write_l4_dec0 : List U → Option (Int × Int × List Int) := fun u => match u with | [.i x4, .i x5, .r l6] => some (x4, x5, l6) | _ => none
def ref03_Write_l4 (K : Nat) : Nat → Int → Int → Int → List Int → Int → Option (Int × Int × List Int)
  | 0, _, _, _, _, _ => none
  | k + 1, x3, x4, x5, l6, x7 => (bi (Decidable.decide (x7 ≥ 0))
    (bi (Decidable.decide (0 ≤ x7) && Decidable.decide (x7 < (↑l6.length : Int)))
    (bi (Decidable.decide (0 ≤ x7) && Decidable.decide (x7 < (↑l6.length : Int)))
    (ref03_Write_l4 K k (Go.IntKind.i64.wrap (x3.tdiv 10)) (x4) (x5) (l6.set x7.toNat (Go.IntKind.u8.wrap (nth 0 l6 x7.toNat + Go.IntKind.u8.wrap (x3.tmod 10)))) (Go.IntKind.i64.wrap (x7 - 1)))
    none)
    none)
    (some ((x4, x5, l6))))
def ref03_Write_l4_w (K k : Nat) : List U → Option (Int × Int × List Int) := fun us => match us with | [.i x3, .i x4, .i x5, .r l6, .i x7] => ref03_Write_l4 K k x3 x4 x5 l6 x7 | _ => none
theorem ref03_Write_l4_eq (K k : Nat) (x3 : Int) (x4 : Int) (x5 : Int) (l6 : List Int) (x7 : Int) : (round1 Go.Proofs.Try.prog (env_ref03_DocNumber K) (lenv0) (lp (bodyOf Go.Proofs.Try.f10) 0) ref03_Write_l4_pre (.exit 0) ref03_Write_l4_post0 ref03_Write_l4_dec0 (ref03_Write_l4_w K k) [.i x3, .i x4, .i x5, .r l6, .i x7]).den2 = ref03_Write_l4 K (k + 1) x3 x4 x5 l6 x7 := by kernel_rfl
def ref03_Write_l4_s (K : Nat) : Vm.LS := .one ref03_Write_l4_pre _ (.exit 0) ref03_Write_l4_post0 (ref03_Write_l4_w K K) ref03_Write_l4_enc0
theorem ref03_Write_l4_ok (K : Nat) : LoopOk Go.Proofs.Try.prog (lp (bodyOf Go.Proofs.Try.f10) 0) (ref03_Write_l4_s K) := loop_one hmix (env_ref03_DocNumber_ok K) (lenv := lenv0) (L := ref03_Write_l4_w K) (enc := ref03_Write_l4_enc0) (dec := ref03_Write_l4_dec0) (lps_ok (l := []) (by kernel_rfl) trivial) (fun u r h => by unfold ref03_Write_l4_dec0 at h; split at h; (obtain rfl := Option.some.inj h; rfl); cases h) (fun us => by unfold ref03_Write_l4_w; split <;> first | rfl | (simp only [ref03_Write_l4])) (fun k us r h => by unfold ref03_Write_l4_w at h; split at h; exact ((den2_eq _).symm.trans (ref03_Write_l4_eq K k _ _ _ _ _)).trans h; cases h) K
def ref03_Write_v4 (K : Nat) : Nat → Option Vm.LS := addL (lenv0) 4 (ref03_Write_l4_s K)
def ref03_Write_dec : List U → Option (ByteArray) := fun u => match u with | [.s s0] => some (s0) | _ => none
def ref03_Write_enc : (ByteArray) → List U := fun r => [.s r]
def ref03_Write (K : Nat) (x0 : Int) : Option (ByteArray) := ((ref03_Civil K x0).bind fun r0 => ((ref03_Write_l4 K K r0.fst r0.snd.fst r0.snd.snd [48, 48, 48, 48, 45, 48, 48, 45, 48, 48] 3).bind fun r1 => (bi (Bool.true && Decidable.decide (5 < (↑r1.snd.snd.length : Int)))
    (bi (Bool.true && Decidable.decide (5 < (↑r1.snd.snd.length : Int)))
    (bi (Bool.true &&
  Decidable.decide
    (6 <
      (↑(r1.snd.snd.set 5
              (Go.IntKind.u8.wrap
                (nth 0 r1.snd.snd 5 +
                  Go.IntKind.u8.wrap (Go.IntKind.i64.wrap (r1.fst.tdiv 10))))).length :
        Int)))
    (bi (Bool.true &&
  Decidable.decide
    (6 <
      (↑(r1.snd.snd.set 5
              (Go.IntKind.u8.wrap
                (nth 0 r1.snd.snd 5 +
                  Go.IntKind.u8.wrap (Go.IntKind.i64.wrap (r1.fst.tdiv 10))))).length :
        Int)))
    (bi (Bool.true &&
  Decidable.decide
    (8 <
      (↑((r1.snd.snd.set 5
                  (Go.IntKind.u8.wrap
                    (nth 0 r1.snd.snd 5 +
                      Go.IntKind.u8.wrap (Go.IntKind.i64.wrap (r1.fst.tdiv 10))))).set
              6
              (Go.IntKind.u8.wrap
                (nth 0
                    (r1.snd.snd.set 5
                      (Go.IntKind.u8.wrap
                        (nth 0 r1.snd.snd 5 +
                          Go.IntKind.u8.wrap (Go.IntKind.i64.wrap (r1.fst.tdiv 10)))))
                    6 +
                  Go.IntKind.u8.wrap (r1.fst.tmod 10)))).length :
        Int)))
    (bi (Bool.true &&
  Decidable.decide
    (8 <
      (↑((r1.snd.snd.set 5
                  (Go.IntKind.u8.wrap
                    (nth 0 r1.snd.snd 5 +
                      Go.IntKind.u8.wrap (Go.IntKind.i64.wrap (r1.fst.tdiv 10))))).set
              6
              (Go.IntKind.u8.wrap
                (nth 0
                    (r1.snd.snd.set 5
                      (Go.IntKind.u8.wrap
                        (nth 0 r1.snd.snd 5 +
                          Go.IntKind.u8.wrap (Go.IntKind.i64.wrap (r1.fst.tdiv 10)))))
                    6 +
                  Go.IntKind.u8.wrap (r1.fst.tmod 10)))).length :
        Int)))
    (bi (Bool.true &&
  Decidable.decide
    (9 <
      (↑(((r1.snd.snd.set 5
                      (Go.IntKind.u8.wrap
                        (nth 0 r1.snd.snd 5 +
                          Go.IntKind.u8.wrap (Go.IntKind.i64.wrap (r1.fst.tdiv 10))))).set
                  6
                  (Go.IntKind.u8.wrap
                    (nth 0
                        (r1.snd.snd.set 5
                          (Go.IntKind.u8.wrap
                            (nth 0 r1.snd.snd 5 +
                              Go.IntKind.u8.wrap (Go.IntKind.i64.wrap (r1.fst.tdiv 10)))))
                        6 +
                      Go.IntKind.u8.wrap (r1.fst.tmod 10)))).set
              8
              (Go.IntKind.u8.wrap
                (nth 0
                    ((r1.snd.snd.set 5
                          (Go.IntKind.u8.wrap
                            (nth 0 r1.snd.snd 5 +
                              Go.IntKind.u8.wrap (Go.IntKind.i64.wrap (r1.fst.tdiv 10))))).set
                      6
                      (Go.IntKind.u8.wrap
                        (nth 0
                            (r1.snd.snd.set 5
                              (Go.IntKind.u8.wrap
                                (nth 0 r1.snd.snd 5 +
                                  Go.IntKind.u8.wrap (Go.IntKind.i64.wrap (r1.fst.tdiv 10)))))
                            6 +
                          Go.IntKind.u8.wrap (r1.fst.tmod 10))))
                    8 +
                  Go.IntKind.u8.wrap (Go.IntKind.i64.wrap (r1.snd.fst.tdiv 10))))).length :
        Int)))
    (bi (Bool.true &&
  Decidable.decide
    (9 <
      (↑(((r1.snd.snd.set 5
                      (Go.IntKind.u8.wrap
                        (nth 0 r1.snd.snd 5 +
                          Go.IntKind.u8.wrap (Go.IntKind.i64.wrap (r1.fst.tdiv 10))))).set
                  6
                  (Go.IntKind.u8.wrap
                    (nth 0
                        (r1.snd.snd.set 5
                          (Go.IntKind.u8.wrap
                            (nth 0 r1.snd.snd 5 +
                              Go.IntKind.u8.wrap (Go.IntKind.i64.wrap (r1.fst.tdiv 10)))))
                        6 +
                      Go.IntKind.u8.wrap (r1.fst.tmod 10)))).set
              8
              (Go.IntKind.u8.wrap
                (nth 0
                    ((r1.snd.snd.set 5
                          (Go.IntKind.u8.wrap
                            (nth 0 r1.snd.snd 5 +
                              Go.IntKind.u8.wrap (Go.IntKind.i64.wrap (r1.fst.tdiv 10))))).set
                      6
                      (Go.IntKind.u8.wrap
                        (nth 0
                            (r1.snd.snd.set 5
                              (Go.IntKind.u8.wrap
                                (nth 0 r1.snd.snd 5 +
                                  Go.IntKind.u8.wrap (Go.IntKind.i64.wrap (r1.fst.tdiv 10)))))
                            6 +
                          Go.IntKind.u8.wrap (r1.fst.tmod 10))))
                    8 +
                  Go.IntKind.u8.wrap (Go.IntKind.i64.wrap (r1.snd.fst.tdiv 10))))).length :
        Int)))
    (some (strOf
  ((((r1.snd.snd.set 5
                (Go.IntKind.u8.wrap
                  (nth 0 r1.snd.snd 5 +
                    Go.IntKind.u8.wrap (Go.IntKind.i64.wrap (r1.fst.tdiv 10))))).set
            6
            (Go.IntKind.u8.wrap
              (nth 0
                  (r1.snd.snd.set 5
                    (Go.IntKind.u8.wrap
                      (nth 0 r1.snd.snd 5 +
                        Go.IntKind.u8.wrap (Go.IntKind.i64.wrap (r1.fst.tdiv 10)))))
                  6 +
                Go.IntKind.u8.wrap (r1.fst.tmod 10)))).set
        8
        (Go.IntKind.u8.wrap
          (nth 0
              ((r1.snd.snd.set 5
                    (Go.IntKind.u8.wrap
                      (nth 0 r1.snd.snd 5 +
                        Go.IntKind.u8.wrap (Go.IntKind.i64.wrap (r1.fst.tdiv 10))))).set
                6
                (Go.IntKind.u8.wrap
                  (nth 0
                      (r1.snd.snd.set 5
                        (Go.IntKind.u8.wrap
                          (nth 0 r1.snd.snd 5 +
                            Go.IntKind.u8.wrap (Go.IntKind.i64.wrap (r1.fst.tdiv 10)))))
                      6 +
                    Go.IntKind.u8.wrap (r1.fst.tmod 10))))
              8 +
            Go.IntKind.u8.wrap (Go.IntKind.i64.wrap (r1.snd.fst.tdiv 10))))).set
    9
    (Go.IntKind.u8.wrap
      (nth 0
          (((r1.snd.snd.set 5
                    (Go.IntKind.u8.wrap
                      (nth 0 r1.snd.snd 5 +
                        Go.IntKind.u8.wrap (Go.IntKind.i64.wrap (r1.fst.tdiv 10))))).set
                6
                (Go.IntKind.u8.wrap
                  (nth 0
                      (r1.snd.snd.set 5
                        (Go.IntKind.u8.wrap
                          (nth 0 r1.snd.snd 5 +
                            Go.IntKind.u8.wrap (Go.IntKind.i64.wrap (r1.fst.tdiv 10)))))
                      6 +
                    Go.IntKind.u8.wrap (r1.fst.tmod 10)))).set
            8
            (Go.IntKind.u8.wrap
              (nth 0
                  ((r1.snd.snd.set 5
                        (Go.IntKind.u8.wrap
                          (nth 0 r1.snd.snd 5 +
                            Go.IntKind.u8.wrap (Go.IntKind.i64.wrap (r1.fst.tdiv 10))))).set
                    6
                    (Go.IntKind.u8.wrap
                      (nth 0
                          (r1.snd.snd.set 5
                            (Go.IntKind.u8.wrap
                              (nth 0 r1.snd.snd 5 +
                                Go.IntKind.u8.wrap (Go.IntKind.i64.wrap (r1.fst.tdiv 10)))))
                          6 +
                        Go.IntKind.u8.wrap (r1.fst.tmod 10))))
                  8 +
                Go.IntKind.u8.wrap (Go.IntKind.i64.wrap (r1.snd.fst.tdiv 10)))))
          9 +
        Go.IntKind.u8.wrap (r1.snd.fst.tmod 10))))))
    none)
    none)
    none)
    none)
    none)
    none)
    none)
    none)))
theorem ref03_Write_eq (K : Nat) (x0 : Int) : (runF Go.Proofs.Try.prog (env_ref03_DocNumber K) (ref03_Write_v4 K) Go.Proofs.Try.f10 [.one (.int .i64)] [.one (.str)] ref03_Write_dec [.i x0]).den2 = ref03_Write K x0 := by kernel_rfl
def ref03_Write_w (K : Nat) : List U → Option (ByteArray) := fun us => match us with | [.i x0] => ref03_Write K x0 | _ => none
def ref03_Write_spec (K : Nat) : Vm.Spec := ⟨[.one (.int .i64)], [.one (.str)], ByteArray, ref03_Write_w K, ref03_Write_enc⟩
theorem ref03_Write_ok (K : Nat) : FnOk Go.Proofs.Try.prog 10 (ref03_Write_spec K) := fn_ok' hmix (env_ref03_DocNumber_ok K) (lenv := ref03_Write_v4 K) (args := [.one (.int .i64)]) (res := [.one (.str)]) (G := ref03_Write_w K) (enc := ref03_Write_enc) Go.Proofs.Try.func10 (lps_fn (l := [lp (bodyOf Go.Proofs.Try.f10) 0]) (by kernel_rfl) ⟨⟨4, ref03_Write_l4_s K, by kernel_rfl, by kernel_rfl, ref03_Write_l4_ok K⟩, trivial⟩) (dec := ref03_Write_dec) (fun u r h => by unfold ref03_Write_dec at h; split at h; (obtain rfl := Option.some.inj h; rfl); cases h) (fun us r h => by unfold ref03_Write_w at h; split at h; exact ((den2_eq _).symm.trans (ref03_Write_eq K _)).trans h; cases h)
def env_ref03_Write (K : Nat) : FuncId → Option Vm.Spec := addS (env_ref03_DocNumber K) 10 (ref03_Write_spec K)
theorem env_ref03_Write_ok (K : Nat) : EnvOk Go.Proofs.Try.prog (env_ref03_Write K) := addS_ok (env_ref03_DocNumber_ok K) (.inl ⟨callable Go.Proofs.Try.func10 (by kernel_rfl) (by kernel_rfl), ref03_Write_ok K⟩)
-- passbook/passbookref03.DocParse
def ref03_DocParse_l6_pre : Vm.Pat := ⟨66, [(0, .pv (.one (.str))), (5, .pv (.one (.int .i64))), (6, .pv (.one (.int .i64))), (4, .arr 0)], [.row .i64], []⟩
def ref03_DocParse_l6_post0 : Vm.Pat := ⟨66, [(4, .arr 0)], [.row .i64], []⟩
def ref03_DocParse_l6_enc0 : List Int → List U := fun r => [.r r]
def ref03_DocParse_l6_dec0 : List U → Option (List Int) := fun u => match u with | [.r l4] => some (l4) | _ => none
def ref03_DocParse_l6_post1 : Vm.Pat := ⟨66, [(2, .pv (.one (.int .i64))), (3, .pv (.one (.int .i64)))], [], []⟩
def ref03_DocParse_l6_enc1 : Int × Int → List U := fun r => [.i r.1, .i r.2]
def ref03_DocParse_l6_dec1 : List U → Option (Int × Int) := fun u => match u with | [.i x2, .i x3] => some (x2, x3) | _ => none
def ref03_DocParse_l6 (K : Nat) : Nat → ByteArray → Int → Int → List Int → Option ((List Int) ⊕ (Int × Int))
  | 0, _, _, _, _ => none
  | k + 1, s0, x5, x6, l4 => (bi (Decidable.decide (x6 < 10))
    (bi (x6 == 4)
    (bi (Decidable.decide (0 ≤ x6) && Decidable.decide (x6 < (↑s0.size : Int)))
    (bi (bt s0 x6 != 45)
    (some (Sum.inr (0, 6)))
    (ref03_DocParse_l6 K k (s0) (Go.IntKind.i64.wrap (x5 + 1)) (Go.IntKind.i64.wrap (x6 + 1)) (l4)))
    none)
    (bi (x6 == 7)
    (bi (Decidable.decide (0 ≤ x6) && Decidable.decide (x6 < (↑s0.size : Int)))
    (bi (bt s0 x6 != 45)
    (some (Sum.inr (0, 6)))
    (ref03_DocParse_l6 K k (s0) (Go.IntKind.i64.wrap (x5 + 1)) (Go.IntKind.i64.wrap (x6 + 1)) (l4)))
    none)
    (bi (Decidable.decide (0 ≤ x6) && Decidable.decide (x6 < (↑s0.size : Int)))
    (bi (Decidable.decide (bt s0 x6 < 48))
    (some (Sum.inr (0, 6)))
    (bi (Decidable.decide (0 ≤ x6) && Decidable.decide (x6 < (↑s0.size : Int)))
    (bi (Decidable.decide (bt s0 x6 > 57))
    (some (Sum.inr (0, 6)))
    (bi (Decidable.decide (0 ≤ x5) && Decidable.decide (x5 < 3) && Decidable.decide (x5.toNat < l4.length))
    (bi (Decidable.decide (0 ≤ x6) && Decidable.decide (x6 < (↑s0.size : Int)))
    (bi (Decidable.decide (0 ≤ x5) && Decidable.decide (x5 < 3) && Decidable.decide (x5.toNat < l4.length))
    (ref03_DocParse_l6 K k (s0) (x5) (Go.IntKind.i64.wrap (x6 + 1)) (l4.set x5.toNat
  (Go.IntKind.i64.wrap
    (Go.IntKind.i64.wrap (10 * nth 0 l4 x5.toNat) +
      Go.IntKind.i64.wrap (Go.IntKind.u8.wrap (bt s0 x6 - 48))))))
    none)
    none)
    none))
    none))
    none)))
    (some (Sum.inl l4)))
def ref03_DocParse_l6_w (K k : Nat) : List U → Option ((List Int) ⊕ (Int × Int)) := fun us => match us with | [.s s0, .i x5, .i x6, .r l4] => ref03_DocParse_l6 K k s0 x5 x6 l4 | _ => none
theorem ref03_DocParse_l6_eq (K k : Nat) (s0 : ByteArray) (x5 : Int) (x6 : Int) (l4 : List Int) : (round2 Go.Proofs.Try.prog (env_ref03_Write K) (lenv0) (lp (bodyOf Go.Proofs.Try.f6) 0) ref03_DocParse_l6_pre (.exit 0) ref03_DocParse_l6_post0 .ret ref03_DocParse_l6_post1 ref03_DocParse_l6_dec0 ref03_DocParse_l6_dec1 (ref03_DocParse_l6_w K k) [.s s0, .i x5, .i x6, .r l4]).den2 = ref03_DocParse_l6 K (k + 1) s0 x5 x6 l4 := by kernel_rfl
def ref03_DocParse_l6_s (K : Nat) : Vm.LS := .two ref03_DocParse_l6_pre _ _ (.exit 0) ref03_DocParse_l6_post0 .ret ref03_DocParse_l6_post1 (ref03_DocParse_l6_w K K) ref03_DocParse_l6_enc0 ref03_DocParse_l6_enc1
theorem ref03_DocParse_l6_ok (K : Nat) : LoopOk Go.Proofs.Try.prog (lp (bodyOf Go.Proofs.Try.f6) 0) (ref03_DocParse_l6_s K) := loop_two hmix (env_ref03_Write_ok K) (lenv := lenv0) (L := ref03_DocParse_l6_w K) (enc := ref03_DocParse_l6_enc0) (dec := ref03_DocParse_l6_dec0) (enc' := ref03_DocParse_l6_enc1) (dec' := ref03_DocParse_l6_dec1) (lps_ok (l := []) (by kernel_rfl) trivial) (fun u r h => by unfold ref03_DocParse_l6_dec0 at h; split at h; (obtain rfl := Option.some.inj h; rfl); cases h) (fun u r h => by unfold ref03_DocParse_l6_dec1 at h; split at h; (obtain rfl := Option.some.inj h; rfl); cases h) (fun us => by unfold ref03_DocParse_l6_w; split <;> first | rfl | (simp only [ref03_DocParse_l6])) (fun k us r h => by unfold ref03_DocParse_l6_w at h; split at h; exact ((den2_eq _).symm.trans (ref03_DocParse_l6_eq K k _ _ _ _)).trans h; cases h) K
def ref03_DocParse_v6 (K : Nat) : Nat → Option Vm.LS := addL (lenv0) 6 (ref03_DocParse_l6_s K)
def ref03_DocParse_dec : List U → Option (Int × Int) := fun u => match u with | [.i x0, .i x1] => some (x0, x1) | _ => none
def ref03_DocParse_enc : (Int × Int) → List U := fun r => [.i r.1, .i r.2]
def ref03_DocParse (K : Nat) (s0 : ByteArray) : Option (Int × Int) := (bi ((↑s0.size : Int) != 10)
    (some ((0, 6)))
    (casO (ref03_DocParse_l6 K K s0 0 0 [0, 0, 0]) (fun r0 => (bi (Bool.true && Decidable.decide (0 < r0.length))
    (bi (Bool.true && Decidable.decide (1 < r0.length))
    (bi (Bool.true && Decidable.decide (2 < r0.length))
    ((ref03_DocNumber K (nth 0 r0 0)
  (nth 0 r0 1) (nth 0 r0 2)).bind fun r1 => (bi (r1.snd != 0)
    (some ((0, 9)))
    (some ((r1.fst, 0)))))
    none)
    none)
    none)) (fun r2 => (some ((r2.fst, r2.snd))))))
theorem ref03_DocParse_eq (K : Nat) (s0 : ByteArray) : (runF Go.Proofs.Try.prog (env_ref03_Write K) (ref03_DocParse_v6 K) Go.Proofs.Try.f6 [.one (.str)] [.one (.int .i64), .one (.int .i64)] ref03_DocParse_dec [.s s0]).den2 = ref03_DocParse K s0 := by kernel_rfl
def ref03_DocParse_w (K : Nat) : List U → Option (Int × Int) := fun us => match us with | [.s s0] => ref03_DocParse K s0 | _ => none
def ref03_DocParse_spec (K : Nat) : Vm.Spec := ⟨[.one (.str)], [.one (.int .i64), .one (.int .i64)], Int × Int, ref03_DocParse_w K, ref03_DocParse_enc⟩
theorem ref03_DocParse_ok (K : Nat) : FnOk Go.Proofs.Try.prog 6 (ref03_DocParse_spec K) := fn_ok' hmix (env_ref03_Write_ok K) (lenv := ref03_DocParse_v6 K) (args := [.one (.str)]) (res := [.one (.int .i64), .one (.int .i64)]) (G := ref03_DocParse_w K) (enc := ref03_DocParse_enc) Go.Proofs.Try.func6 (lps_fn (l := [lp (bodyOf Go.Proofs.Try.f6) 0]) (by kernel_rfl) ⟨⟨6, ref03_DocParse_l6_s K, by kernel_rfl, by kernel_rfl, ref03_DocParse_l6_ok K⟩, trivial⟩) (dec := ref03_DocParse_dec) (fun u r h => by unfold ref03_DocParse_dec at h; split at h; (obtain rfl := Option.some.inj h; rfl); cases h) (fun us r h => by unfold ref03_DocParse_w at h; split at h; exact ((den2_eq _).symm.trans (ref03_DocParse_eq K _)).trans h; cases h)
def env_ref03_DocParse (K : Nat) : FuncId → Option Vm.Spec := addS (env_ref03_Write K) 6 (ref03_DocParse_spec K)
theorem env_ref03_DocParse_ok (K : Nat) : EnvOk Go.Proofs.Try.prog (env_ref03_DocParse K) := addS_ok (env_ref03_Write_ok K) (.inl ⟨callable Go.Proofs.Try.func6 (by kernel_rfl) (by kernel_rfl), ref03_DocParse_ok K⟩)
-- passbook/passbooklaw03.awake
def law03_awake_dec : List U → Option (Bool) := fun u => match u with | [.b c0] => some (c0) | _ => none
def law03_awake_enc : (Bool) → List U := fun r => [.b r]
def law03_awake (K : Nat)  : Option (Bool) := ((cal_Number K 1970 1 1).bind fun r0 => ((cal_Weekday K r0.fst).bind fun r1 => ((cal_Write K 1).bind fun r2 => (bi (r0.snd == 0)
    (bi (r0.fst == 719163)
    (bi (r1.snd == 0)
    (bi (r1.fst == 3)
    (bi (r2.snd == 0)
    (some (sEq r2.fst { data := #[48, 48, 48, 49, 45, 48, 49, 45, 48, 49] }))
    (some Bool.false))
    (some Bool.false))
    (some Bool.false))
    (some Bool.false))
    (some Bool.false)))))
theorem law03_awake_eq (K : Nat)  : (runF Go.Proofs.Try.prog (env_ref03_DocParse K) (lenv0) Go.Proofs.Try.f7 [] [.one (.bool)] law03_awake_dec []).den2 = law03_awake K  := by kernel_rfl
def law03_awake_w (K : Nat) : List U → Option (Bool) := fun us => match us with | [] => law03_awake K  | _ => none
def law03_awake_spec (K : Nat) : Vm.Spec := ⟨[], [.one (.bool)], Bool, law03_awake_w K, law03_awake_enc⟩
theorem law03_awake_ok (K : Nat) : FnOk Go.Proofs.Try.prog 7 (law03_awake_spec K) := fn_ok' hmix (env_ref03_DocParse_ok K) (lenv := lenv0) (args := []) (res := [.one (.bool)]) (G := law03_awake_w K) (enc := law03_awake_enc) Go.Proofs.Try.func7 (lps_fn (l := []) (by kernel_rfl) trivial) (dec := law03_awake_dec) (fun u r h => by unfold law03_awake_dec at h; split at h; (obtain rfl := Option.some.inj h; rfl); cases h) (fun us r h => by unfold law03_awake_w at h; split at h; exact ((den2_eq _).symm.trans (law03_awake_eq K)).trans h; cases h)
def env_law03_awake (K : Nat) : FuncId → Option Vm.Spec := addS (env_ref03_DocParse K) 7 (law03_awake_spec K)
theorem env_law03_awake_ok (K : Nat) : EnvOk Go.Proofs.Try.prog (env_law03_awake K) := addS_ok (env_ref03_DocParse_ok K) (.inl ⟨callable Go.Proofs.Try.func7 (by kernel_rfl) (by kernel_rfl), law03_awake_ok K⟩)
-- passbook/passbooklaw03.CalTexts
def law03_CalTexts_dec : List U → Option (Bool) := fun u => match u with | [.b c0] => some (c0) | _ => none
def law03_CalTexts_enc : (Bool) → List U := fun r => [.b r]
def law03_CalTexts (K : Nat) (x0 : Int) (s1 : ByteArray) : Option (Bool) := ((cal_Parse K s1).bind fun r0 => ((ref03_DocParse K s1).bind fun r1 => ((law03_awake K).bind fun r2 => (bi (!r2)
    (some Bool.false)
    (bi (r0.fst != r1.fst)
    (some Bool.false)
    (bi (r0.snd != r1.snd)
    (some Bool.false)
    (bi (r0.snd == 0)
    ((cal_Write K r0.fst).bind fun r3 => (bi (r3.snd != 0)
    (some Bool.false)
    (bi (!sEq r3.fst s1)
    (some Bool.false)
    ((cal_Write K x0).bind fun r4 => ((ref03_Is K x0).bind fun r5 => (bi (!r5)
    (bi (r4.snd == 1)
    (some (sEq r4.fst { data := #[] }))
    (some Bool.false))
    ((cal_Parse K r4.fst).bind fun r6 => (bi (r4.snd == 0)
    ((ref03_Write K x0).bind fun r7 => (bi (sEq r4.fst r7)
    (bi (r6.snd == 0)
    (some (r6.fst == x0))
    (some Bool.false))
    (some Bool.false)))
    (some Bool.false)))))))))
    ((cal_Write K x0).bind fun r8 => ((ref03_Is K x0).bind fun r9 => (bi (!r9)
    (bi (r8.snd == 1)
    (some (sEq r8.fst { data := #[] }))
    (some Bool.false))
    ((cal_Parse K r8.fst).bind fun r10 => (bi (r8.snd == 0)
    ((ref03_Write K x0).bind fun r11 => (bi (sEq r8.fst r11)
    (bi (r10.snd == 0)
    (some (r10.fst == x0))
    (some Bool.false))
    (some Bool.false)))
    (some Bool.false)))))))))))))
theorem law03_CalTexts_eq (K : Nat) (x0 : Int) (s1 : ByteArray) : (runF Go.Proofs.Try.prog (env_law03_awake K) (lenv0) Go.Proofs.Try.f3 [.one (.int .i64), .one (.str)] [.one (.bool)] law03_CalTexts_dec [.i x0, .s s1]).den2 = law03_CalTexts K x0 s1 := by kernel_rfl
def law03_CalTexts_w (K : Nat) : List U → Option (Bool) := fun us => match us with | [.i x0, .s s1] => law03_CalTexts K x0 s1 | _ => none
def law03_CalTexts_spec (K : Nat) : Vm.Spec := ⟨[.one (.int .i64), .one (.str)], [.one (.bool)], Bool, law03_CalTexts_w K, law03_CalTexts_enc⟩
theorem law03_CalTexts_ok (K : Nat) : FnOk Go.Proofs.Try.prog 3 (law03_CalTexts_spec K) := fn_ok' hmix (env_law03_awake_ok K) (lenv := lenv0) (args := [.one (.int .i64), .one (.str)]) (res := [.one (.bool)]) (G := law03_CalTexts_w K) (enc := law03_CalTexts_enc) Go.Proofs.Try.func3 (lps_fn (l := []) (by kernel_rfl) trivial) (dec := law03_CalTexts_dec) (fun u r h => by unfold law03_CalTexts_dec at h; split at h; (obtain rfl := Option.some.inj h; rfl); cases h) (fun us r h => by unfold law03_CalTexts_w at h; split at h; exact ((den2_eq _).symm.trans (law03_CalTexts_eq K _ _)).trans h; cases h)
def env_law03_CalTexts (K : Nat) : FuncId → Option Vm.Spec := addS (env_law03_awake K) 3 (law03_CalTexts_spec K)
theorem env_law03_CalTexts_ok (K : Nat) : EnvOk Go.Proofs.Try.prog (env_law03_CalTexts K) := addS_ok (env_law03_awake_ok K) (.inl ⟨callable Go.Proofs.Try.func3 (by kernel_rfl) (by kernel_rfl), law03_CalTexts_ok K⟩)
end Go.Proofs.Ytoibhkhgpahdjaa.F
