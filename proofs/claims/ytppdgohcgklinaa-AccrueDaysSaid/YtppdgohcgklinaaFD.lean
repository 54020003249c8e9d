import Derived.Test.YtppdgohcgklinaaVmY
import Derived.Test.YtppdgohcgklinaaProg
import Derived.Test.YtppdgohcgklinaaFC
namespace Go.Proofs.Ytppdgohcgklinaa.F
open Go Go.Proofs.Ytppdgohcgklinaa.Vm
set_option maxRecDepth 1000000
set_option linter.unusedVariables false
-- passbook/prod.within
def prod_within_dec : List U → Option (Bool) := fun u => match u with | [.b c0] => some (c0) | _ => none
def prod_within (K : Nat) (x0 : Int) (x1 : Int) : Option (Bool) := (bi (Decidable.decide (x0 ≥ 0))
    (some (Decidable.decide (x0 ≤ x1)))
    (some Bool.false))
theorem prod_within_eq (K : Nat) (x0 : Int) (x1 : Int) : (runF Go.Proofs.Try.prog (env_ref04_Part K) (lenv0) Go.Proofs.Try.f39 [.one (.int .i64), .one (.int .i64)] [.one (.bool)] prod_within_dec [.i x0, .i x1]).den2 = prod_within K x0 x1 := by kernel_rfl
def prod_within_w (K : Nat) : List U → Option (Bool) := fun us => match us with | [.i x0, .i x1] => prod_within K x0 x1 | _ => none
def prod_within_enc : (Bool) → List U := fun r => [.b r]
def prod_within_spec (K : Nat) : Vm.Spec := ⟨[.one (.int .i64), .one (.int .i64)], [.one (.bool)], Bool, prod_within_w K, prod_within_enc⟩
theorem prod_within_ok (K : Nat) : FnOk Go.Proofs.Try.prog 39 (prod_within_spec K) := fn_ok' hmix (env_ref04_Part_ok K) (lenv := lenv0) (args := [.one (.int .i64), .one (.int .i64)]) (res := [.one (.bool)]) (G := prod_within_w K) (enc := prod_within_enc) Go.Proofs.Try.func39 (lps_fn (l := []) (by kernel_rfl) trivial) (dec := prod_within_dec) (fun u r h => by unfold prod_within_dec at h; split at h; (obtain rfl := Option.some.inj h; rfl); cases h) (fun us r h => by unfold prod_within_w at h; split at h; exact ((den2_eq _).symm.trans (prod_within_eq K _ _)).trans h; cases h)
def env_prod_within (K : Nat) : FuncId → Option Vm.Spec := addS (env_ref04_Part K) 39 (prod_within_spec K)
theorem env_prod_within_ok (K : Nat) : EnvOk Go.Proofs.Try.prog (env_prod_within K) := addS_ok (env_ref04_Part_ok K) (.inl ⟨callable Go.Proofs.Try.func39 (by kernel_rfl) (by kernel_rfl), prod_within_ok K⟩)
-- passbook/prod.Tiers
def prod_Tiers_l6_pre : Vm.Pat := ⟨50, [(0, .pv (.one (.recs [.i64, .i64] false))), (18, .pv (.one (.recs [.i64, .i64] false))), (19, .pv (.one (.int .i64))), (20, .pv (.one (.int .i64)))], []⟩
def prod_Tiers_l6_post0 : Vm.Pat := ⟨50, [], []⟩
def prod_Tiers_l6_enc0 : Unit → List U := fun _ => []
def prod_Tiers_l6_dec0 : List U → Option (Unit) := fun u => match u with | [] => some () | _ => none
def prod_Tiers_l6_post1 : Vm.Pat := ⟨50, [(2, .pv (.one (.int .i64)))], []⟩
def prod_Tiers_l6_enc1 : Int → List U := fun r => [.i r]
def prod_Tiers_l6_dec1 : List U → Option (Int) := fun u => match u with | [.i x2] => some (x2) | _ => none
def prod_Tiers_l6 (K : Nat) : Nat → List (List Int) → List (List Int) → Int → Int → Option ((Unit) ⊕ (Int))
  | 0, _, _, _, _ => none
  | k + 1, q0, q18, x19, x20 => (bi (Decidable.decide (x20 < x19))
    (bi (Decidable.decide (0 ≤ x20) && Decidable.decide (x20 < (↑q18.length : Int)))
    (bi (Decidable.decide (x20 > 0))
    (bi (Decidable.decide (x20 > 0))
    (bi (Decidable.decide (x20 > 0))
    (bi (Decidable.decide (x20 > 0))
    (bi (Decidable.decide (x20 > 0))
    (bi (Decidable.decide (x20 > 0))
    (bi (Decidable.decide (0 ≤ Go.IntKind.i64.wrap (x20 - 1)) &&
  Decidable.decide (Go.IntKind.i64.wrap (x20 - 1) < (↑q0.length : Int)))
    (bi (Decidable.decide (x20 > 0))
    (bi (Decidable.decide (x20 > 0))
    (bi (Decidable.decide (x20 > 0))
    (bi (Decidable.decide (x20 > 0))
    (bi (Decidable.decide
  (nth 0 (nth [] q18 x20.toNat) 0 ≤
    nth 0 (nth [] q0 (Go.IntKind.i64.wrap (x20 - 1)).toNat)
      0))
    (bi (Decidable.decide
  (nth 0 (nth [] q18 x20.toNat) 0 ≤
    nth 0 (nth [] q0 (Go.IntKind.i64.wrap (x20 - 1)).toNat)
      0))
    (bi (Decidable.decide
  (nth 0 (nth [] q18 x20.toNat) 0 ≤
    nth 0 (nth [] q0 (Go.IntKind.i64.wrap (x20 - 1)).toNat)
      0))
    (bi (Decidable.decide
  (nth 0 (nth [] q18 x20.toNat) 0 ≤
    nth 0 (nth [] q0 (Go.IntKind.i64.wrap (x20 - 1)).toNat)
      0))
    (some (Sum.inr 3))
    none)
    none)
    none)
    (bi (Decidable.decide
  (nth 0 (nth [] q18 x20.toNat) 0 ≤
    nth 0 (nth [] q0 (Go.IntKind.i64.wrap (x20 - 1)).toNat)
      0))
    (bi (Decidable.decide
  (nth 0 (nth [] q18 x20.toNat) 0 ≤
    nth 0 (nth [] q0 (Go.IntKind.i64.wrap (x20 - 1)).toNat)
      0))
    (bi (Decidable.decide
  (nth 0 (nth [] q18 x20.toNat) 0 ≤
    nth 0 (nth [] q0 (Go.IntKind.i64.wrap (x20 - 1)).toNat)
      0))
    (some (Sum.inr 3))
    none)
    none)
    (bi (Decidable.decide
  (nth 0 (nth [] q18 x20.toNat) 0 ≤
    nth 0 (nth [] q0 (Go.IntKind.i64.wrap (x20 - 1)).toNat)
      0))
    (bi (Decidable.decide
  (nth 0 (nth [] q18 x20.toNat) 0 ≤
    nth 0 (nth [] q0 (Go.IntKind.i64.wrap (x20 - 1)).toNat)
      0))
    (some (Sum.inr 3))
    none)
    (bi (Decidable.decide
  (nth 0 (nth [] q18 x20.toNat) 0 ≤
    nth 0 (nth [] q0 (Go.IntKind.i64.wrap (x20 - 1)).toNat)
      0))
    (some (Sum.inr 3))
    (bi (Decidable.decide
  (nth 0 (nth [] q18 x20.toNat) 0 > 10000000000000))
    (bi (Decidable.decide
  (nth 0 (nth [] q18 x20.toNat) 0 > 10000000000000))
    (bi (Decidable.decide
  (nth 0 (nth [] q18 x20.toNat) 0 > 10000000000000))
    (bi (Decidable.decide
  (nth 0 (nth [] q18 x20.toNat) 0 > 10000000000000))
    (bi (Decidable.decide
  (nth 0 (nth [] q18 x20.toNat) 0 > 10000000000000))
    (some (Sum.inr 3))
    none)
    none)
    none)
    none)
    (bi (Decidable.decide
  (nth 0 (nth [] q18 x20.toNat) 0 > 10000000000000))
    (bi (Decidable.decide
  (nth 0 (nth [] q18 x20.toNat) 0 > 10000000000000))
    (bi (Decidable.decide
  (nth 0 (nth [] q18 x20.toNat) 0 > 10000000000000))
    (bi (Decidable.decide
  (nth 0 (nth [] q18 x20.toNat) 0 > 10000000000000))
    (some (Sum.inr 3))
    none)
    none)
    none)
    (bi (Decidable.decide
  (nth 0 (nth [] q18 x20.toNat) 0 > 10000000000000))
    (bi (Decidable.decide
  (nth 0 (nth [] q18 x20.toNat) 0 > 10000000000000))
    (bi (Decidable.decide
  (nth 0 (nth [] q18 x20.toNat) 0 > 10000000000000))
    (some (Sum.inr 3))
    none)
    none)
    ((prod_within K
  (nth 0 (nth [] q18 x20.toNat) 1) 1000000000).bind fun r0 => (bi (Decidable.decide
  (nth 0 (nth [] q18 x20.toNat) 0 > 10000000000000))
    (bi (Decidable.decide
  (nth 0 (nth [] q18 x20.toNat) 0 > 10000000000000))
    (some (Sum.inr 3))
    none)
    (bi (Decidable.decide
  (nth 0 (nth [] q18 x20.toNat) 0 > 10000000000000))
    (some (Sum.inr 3))
    (bi (!r0)
    (some (Sum.inr 3))
    (prod_Tiers_l6 K k (q0) (q18) (x19) (Go.IntKind.i64.wrap (x20 + 1))))))))))))))
    (bi (Decidable.decide
  (nth 0 (nth [] q18 x20.toNat) 0 > 10000000000000))
    (bi (Decidable.decide
  (nth 0 (nth [] q18 x20.toNat) 0 > 10000000000000))
    (bi (Decidable.decide
  (nth 0 (nth [] q18 x20.toNat) 0 > 10000000000000))
    (bi (Decidable.decide
  (nth 0 (nth [] q18 x20.toNat) 0 > 10000000000000))
    (bi (Decidable.decide
  (nth 0 (nth [] q18 x20.toNat) 0 > 10000000000000))
    (some (Sum.inr 3))
    none)
    none)
    none)
    none)
    (bi (Decidable.decide
  (nth 0 (nth [] q18 x20.toNat) 0 > 10000000000000))
    (bi (Decidable.decide
  (nth 0 (nth [] q18 x20.toNat) 0 > 10000000000000))
    (bi (Decidable.decide
  (nth 0 (nth [] q18 x20.toNat) 0 > 10000000000000))
    (bi (Decidable.decide
  (nth 0 (nth [] q18 x20.toNat) 0 > 10000000000000))
    (some (Sum.inr 3))
    none)
    none)
    none)
    (bi (Decidable.decide
  (nth 0 (nth [] q18 x20.toNat) 0 > 10000000000000))
    (bi (Decidable.decide
  (nth 0 (nth [] q18 x20.toNat) 0 > 10000000000000))
    (bi (Decidable.decide
  (nth 0 (nth [] q18 x20.toNat) 0 > 10000000000000))
    (some (Sum.inr 3))
    none)
    none)
    ((prod_within K
  (nth 0 (nth [] q18 x20.toNat) 1) 1000000000).bind fun r1 => (bi (Decidable.decide
  (nth 0 (nth [] q18 x20.toNat) 0 > 10000000000000))
    (bi (Decidable.decide
  (nth 0 (nth [] q18 x20.toNat) 0 > 10000000000000))
    (some (Sum.inr 3))
    none)
    (bi (Decidable.decide
  (nth 0 (nth [] q18 x20.toNat) 0 > 10000000000000))
    (some (Sum.inr 3))
    (bi (!r1)
    (some (Sum.inr 3))
    (prod_Tiers_l6 K k (q0) (q18) (x19) (Go.IntKind.i64.wrap (x20 + 1)))))))))))
    (bi (Decidable.decide (x20 > 0))
    none
    (bi (Decidable.decide
  (nth 0 (nth [] q18 x20.toNat) 0 > 10000000000000))
    (bi (Decidable.decide
  (nth 0 (nth [] q18 x20.toNat) 0 > 10000000000000))
    (bi (Decidable.decide
  (nth 0 (nth [] q18 x20.toNat) 0 > 10000000000000))
    (bi (Decidable.decide
  (nth 0 (nth [] q18 x20.toNat) 0 > 10000000000000))
    (bi (Decidable.decide
  (nth 0 (nth [] q18 x20.toNat) 0 > 10000000000000))
    (some (Sum.inr 3))
    none)
    none)
    none)
    none)
    (bi (Decidable.decide
  (nth 0 (nth [] q18 x20.toNat) 0 > 10000000000000))
    (bi (Decidable.decide
  (nth 0 (nth [] q18 x20.toNat) 0 > 10000000000000))
    (bi (Decidable.decide
  (nth 0 (nth [] q18 x20.toNat) 0 > 10000000000000))
    (bi (Decidable.decide
  (nth 0 (nth [] q18 x20.toNat) 0 > 10000000000000))
    (some (Sum.inr 3))
    none)
    none)
    none)
    (bi (Decidable.decide
  (nth 0 (nth [] q18 x20.toNat) 0 > 10000000000000))
    (bi (Decidable.decide
  (nth 0 (nth [] q18 x20.toNat) 0 > 10000000000000))
    (bi (Decidable.decide
  (nth 0 (nth [] q18 x20.toNat) 0 > 10000000000000))
    (some (Sum.inr 3))
    none)
    none)
    ((prod_within K
  (nth 0 (nth [] q18 x20.toNat) 1) 1000000000).bind fun r2 => (bi (Decidable.decide
  (nth 0 (nth [] q18 x20.toNat) 0 > 10000000000000))
    (bi (Decidable.decide
  (nth 0 (nth [] q18 x20.toNat) 0 > 10000000000000))
    (some (Sum.inr 3))
    none)
    (bi (Decidable.decide
  (nth 0 (nth [] q18 x20.toNat) 0 > 10000000000000))
    (some (Sum.inr 3))
    (bi (!r2)
    (some (Sum.inr 3))
    (prod_Tiers_l6 K k (q0) (q18) (x19) (Go.IntKind.i64.wrap (x20 + 1))))))))))))
    (bi (Decidable.decide (x20 > 0))
    none
    (bi (Decidable.decide (x20 > 0))
    none
    (bi (Decidable.decide
  (nth 0 (nth [] q18 x20.toNat) 0 > 10000000000000))
    (bi (Decidable.decide
  (nth 0 (nth [] q18 x20.toNat) 0 > 10000000000000))
    (bi (Decidable.decide
  (nth 0 (nth [] q18 x20.toNat) 0 > 10000000000000))
    (bi (Decidable.decide
  (nth 0 (nth [] q18 x20.toNat) 0 > 10000000000000))
    (bi (Decidable.decide
  (nth 0 (nth [] q18 x20.toNat) 0 > 10000000000000))
    (some (Sum.inr 3))
    none)
    none)
    none)
    none)
    (bi (Decidable.decide
  (nth 0 (nth [] q18 x20.toNat) 0 > 10000000000000))
    (bi (Decidable.decide
  (nth 0 (nth [] q18 x20.toNat) 0 > 10000000000000))
    (bi (Decidable.decide
  (nth 0 (nth [] q18 x20.toNat) 0 > 10000000000000))
    (bi (Decidable.decide
  (nth 0 (nth [] q18 x20.toNat) 0 > 10000000000000))
    (some (Sum.inr 3))
    none)
    none)
    none)
    (bi (Decidable.decide
  (nth 0 (nth [] q18 x20.toNat) 0 > 10000000000000))
    (bi (Decidable.decide
  (nth 0 (nth [] q18 x20.toNat) 0 > 10000000000000))
    (bi (Decidable.decide
  (nth 0 (nth [] q18 x20.toNat) 0 > 10000000000000))
    (some (Sum.inr 3))
    none)
    none)
    ((prod_within K
  (nth 0 (nth [] q18 x20.toNat) 1) 1000000000).bind fun r3 => (bi (Decidable.decide
  (nth 0 (nth [] q18 x20.toNat) 0 > 10000000000000))
    (bi (Decidable.decide
  (nth 0 (nth [] q18 x20.toNat) 0 > 10000000000000))
    (some (Sum.inr 3))
    none)
    (bi (Decidable.decide
  (nth 0 (nth [] q18 x20.toNat) 0 > 10000000000000))
    (some (Sum.inr 3))
    (bi (!r3)
    (some (Sum.inr 3))
    (prod_Tiers_l6 K k (q0) (q18) (x19) (Go.IntKind.i64.wrap (x20 + 1)))))))))))))
    (bi (Decidable.decide (x20 > 0))
    none
    (bi (Decidable.decide (x20 > 0))
    none
    (bi (Decidable.decide (x20 > 0))
    none
    (bi (Decidable.decide
  (nth 0 (nth [] q18 x20.toNat) 0 > 10000000000000))
    (bi (Decidable.decide
  (nth 0 (nth [] q18 x20.toNat) 0 > 10000000000000))
    (bi (Decidable.decide
  (nth 0 (nth [] q18 x20.toNat) 0 > 10000000000000))
    (bi (Decidable.decide
  (nth 0 (nth [] q18 x20.toNat) 0 > 10000000000000))
    (bi (Decidable.decide
  (nth 0 (nth [] q18 x20.toNat) 0 > 10000000000000))
    (some (Sum.inr 3))
    none)
    none)
    none)
    none)
    (bi (Decidable.decide
  (nth 0 (nth [] q18 x20.toNat) 0 > 10000000000000))
    (bi (Decidable.decide
  (nth 0 (nth [] q18 x20.toNat) 0 > 10000000000000))
    (bi (Decidable.decide
  (nth 0 (nth [] q18 x20.toNat) 0 > 10000000000000))
    (bi (Decidable.decide
  (nth 0 (nth [] q18 x20.toNat) 0 > 10000000000000))
    (some (Sum.inr 3))
    none)
    none)
    none)
    (bi (Decidable.decide
  (nth 0 (nth [] q18 x20.toNat) 0 > 10000000000000))
    (bi (Decidable.decide
  (nth 0 (nth [] q18 x20.toNat) 0 > 10000000000000))
    (bi (Decidable.decide
  (nth 0 (nth [] q18 x20.toNat) 0 > 10000000000000))
    (some (Sum.inr 3))
    none)
    none)
    ((prod_within K
  (nth 0 (nth [] q18 x20.toNat) 1) 1000000000).bind fun r4 => (bi (Decidable.decide
  (nth 0 (nth [] q18 x20.toNat) 0 > 10000000000000))
    (bi (Decidable.decide
  (nth 0 (nth [] q18 x20.toNat) 0 > 10000000000000))
    (some (Sum.inr 3))
    none)
    (bi (Decidable.decide
  (nth 0 (nth [] q18 x20.toNat) 0 > 10000000000000))
    (some (Sum.inr 3))
    (bi (!r4)
    (some (Sum.inr 3))
    (prod_Tiers_l6 K k (q0) (q18) (x19) (Go.IntKind.i64.wrap (x20 + 1))))))))))))))
    none)
    (bi (Decidable.decide (x20 > 0))
    none
    (bi (Decidable.decide (x20 > 0))
    none
    (bi (Decidable.decide (x20 > 0))
    none
    (bi (Decidable.decide (x20 > 0))
    none
    (bi (Decidable.decide
  (nth 0 (nth [] q18 x20.toNat) 0 > 10000000000000))
    (bi (Decidable.decide
  (nth 0 (nth [] q18 x20.toNat) 0 > 10000000000000))
    (bi (Decidable.decide
  (nth 0 (nth [] q18 x20.toNat) 0 > 10000000000000))
    (bi (Decidable.decide
  (nth 0 (nth [] q18 x20.toNat) 0 > 10000000000000))
    (bi (Decidable.decide
  (nth 0 (nth [] q18 x20.toNat) 0 > 10000000000000))
    (some (Sum.inr 3))
    none)
    none)
    none)
    none)
    (bi (Decidable.decide
  (nth 0 (nth [] q18 x20.toNat) 0 > 10000000000000))
    (bi (Decidable.decide
  (nth 0 (nth [] q18 x20.toNat) 0 > 10000000000000))
    (bi (Decidable.decide
  (nth 0 (nth [] q18 x20.toNat) 0 > 10000000000000))
    (bi (Decidable.decide
  (nth 0 (nth [] q18 x20.toNat) 0 > 10000000000000))
    (some (Sum.inr 3))
    none)
    none)
    none)
    (bi (Decidable.decide
  (nth 0 (nth [] q18 x20.toNat) 0 > 10000000000000))
    (bi (Decidable.decide
  (nth 0 (nth [] q18 x20.toNat) 0 > 10000000000000))
    (bi (Decidable.decide
  (nth 0 (nth [] q18 x20.toNat) 0 > 10000000000000))
    (some (Sum.inr 3))
    none)
    none)
    ((prod_within K
  (nth 0 (nth [] q18 x20.toNat) 1) 1000000000).bind fun r5 => (bi (Decidable.decide
  (nth 0 (nth [] q18 x20.toNat) 0 > 10000000000000))
    (bi (Decidable.decide
  (nth 0 (nth [] q18 x20.toNat) 0 > 10000000000000))
    (some (Sum.inr 3))
    none)
    (bi (Decidable.decide
  (nth 0 (nth [] q18 x20.toNat) 0 > 10000000000000))
    (some (Sum.inr 3))
    (bi (!r5)
    (some (Sum.inr 3))
    (prod_Tiers_l6 K k (q0) (q18) (x19) (Go.IntKind.i64.wrap (x20 + 1)))))))))))))))
    (bi (Decidable.decide (x20 > 0))
    none
    (bi (Decidable.decide (x20 > 0))
    none
    (bi (Decidable.decide (x20 > 0))
    none
    (bi (Decidable.decide (x20 > 0))
    none
    (bi (Decidable.decide (x20 > 0))
    none
    (bi (Decidable.decide
  (nth 0 (nth [] q18 x20.toNat) 0 > 10000000000000))
    (bi (Decidable.decide
  (nth 0 (nth [] q18 x20.toNat) 0 > 10000000000000))
    (bi (Decidable.decide
  (nth 0 (nth [] q18 x20.toNat) 0 > 10000000000000))
    (bi (Decidable.decide
  (nth 0 (nth [] q18 x20.toNat) 0 > 10000000000000))
    (bi (Decidable.decide
  (nth 0 (nth [] q18 x20.toNat) 0 > 10000000000000))
    (some (Sum.inr 3))
    none)
    none)
    none)
    none)
    (bi (Decidable.decide
  (nth 0 (nth [] q18 x20.toNat) 0 > 10000000000000))
    (bi (Decidable.decide
  (nth 0 (nth [] q18 x20.toNat) 0 > 10000000000000))
    (bi (Decidable.decide
  (nth 0 (nth [] q18 x20.toNat) 0 > 10000000000000))
    (bi (Decidable.decide
  (nth 0 (nth [] q18 x20.toNat) 0 > 10000000000000))
    (some (Sum.inr 3))
    none)
    none)
    none)
    (bi (Decidable.decide
  (nth 0 (nth [] q18 x20.toNat) 0 > 10000000000000))
    (bi (Decidable.decide
  (nth 0 (nth [] q18 x20.toNat) 0 > 10000000000000))
    (bi (Decidable.decide
  (nth 0 (nth [] q18 x20.toNat) 0 > 10000000000000))
    (some (Sum.inr 3))
    none)
    none)
    ((prod_within K
  (nth 0 (nth [] q18 x20.toNat) 1) 1000000000).bind fun r6 => (bi (Decidable.decide
  (nth 0 (nth [] q18 x20.toNat) 0 > 10000000000000))
    (bi (Decidable.decide
  (nth 0 (nth [] q18 x20.toNat) 0 > 10000000000000))
    (some (Sum.inr 3))
    none)
    (bi (Decidable.decide
  (nth 0 (nth [] q18 x20.toNat) 0 > 10000000000000))
    (some (Sum.inr 3))
    (bi (!r6)
    (some (Sum.inr 3))
    (prod_Tiers_l6 K k (q0) (q18) (x19) (Go.IntKind.i64.wrap (x20 + 1))))))))))))))))
    (bi (Decidable.decide (x20 > 0))
    none
    (bi (Decidable.decide (x20 > 0))
    none
    (bi (Decidable.decide (x20 > 0))
    none
    (bi (Decidable.decide (x20 > 0))
    none
    (bi (Decidable.decide (x20 > 0))
    none
    (bi (Decidable.decide (x20 > 0))
    none
    (bi (Decidable.decide
  (nth 0 (nth [] q18 x20.toNat) 0 > 10000000000000))
    (bi (Decidable.decide
  (nth 0 (nth [] q18 x20.toNat) 0 > 10000000000000))
    (bi (Decidable.decide
  (nth 0 (nth [] q18 x20.toNat) 0 > 10000000000000))
    (bi (Decidable.decide
  (nth 0 (nth [] q18 x20.toNat) 0 > 10000000000000))
    (bi (Decidable.decide
  (nth 0 (nth [] q18 x20.toNat) 0 > 10000000000000))
    (some (Sum.inr 3))
    none)
    none)
    none)
    none)
    (bi (Decidable.decide
  (nth 0 (nth [] q18 x20.toNat) 0 > 10000000000000))
    (bi (Decidable.decide
  (nth 0 (nth [] q18 x20.toNat) 0 > 10000000000000))
    (bi (Decidable.decide
  (nth 0 (nth [] q18 x20.toNat) 0 > 10000000000000))
    (bi (Decidable.decide
  (nth 0 (nth [] q18 x20.toNat) 0 > 10000000000000))
    (some (Sum.inr 3))
    none)
    none)
    none)
    (bi (Decidable.decide
  (nth 0 (nth [] q18 x20.toNat) 0 > 10000000000000))
    (bi (Decidable.decide
  (nth 0 (nth [] q18 x20.toNat) 0 > 10000000000000))
    (bi (Decidable.decide
  (nth 0 (nth [] q18 x20.toNat) 0 > 10000000000000))
    (some (Sum.inr 3))
    none)
    none)
    ((prod_within K
  (nth 0 (nth [] q18 x20.toNat) 1) 1000000000).bind fun r7 => (bi (Decidable.decide
  (nth 0 (nth [] q18 x20.toNat) 0 > 10000000000000))
    (bi (Decidable.decide
  (nth 0 (nth [] q18 x20.toNat) 0 > 10000000000000))
    (some (Sum.inr 3))
    none)
    (bi (Decidable.decide
  (nth 0 (nth [] q18 x20.toNat) 0 > 10000000000000))
    (some (Sum.inr 3))
    (bi (!r7)
    (some (Sum.inr 3))
    (prod_Tiers_l6 K k (q0) (q18) (x19) (Go.IntKind.i64.wrap (x20 + 1)))))))))))))))))
    (bi (Decidable.decide (x20 > 0))
    (bi (Decidable.decide (x20 > 0))
    (bi (Decidable.decide (x20 > 0))
    none
    (bi (Decidable.decide (x20 > 0))
    none
    (bi (Decidable.decide (x20 > 0))
    none
    (bi (Decidable.decide (x20 > 0))
    none
    (bi (Decidable.decide (x20 > 0))
    none
    (bi (Decidable.decide
  (nth 0 (nth [] q18 x20.toNat) 0 > 10000000000000))
    (bi (Decidable.decide
  (nth 0 (nth [] q18 x20.toNat) 0 > 10000000000000))
    (bi (Decidable.decide
  (nth 0 (nth [] q18 x20.toNat) 0 > 10000000000000))
    (bi (Decidable.decide
  (nth 0 (nth [] q18 x20.toNat) 0 > 10000000000000))
    (bi (Decidable.decide
  (nth 0 (nth [] q18 x20.toNat) 0 > 10000000000000))
    (some (Sum.inr 3))
    none)
    none)
    none)
    none)
    (bi (Decidable.decide
  (nth 0 (nth [] q18 x20.toNat) 0 > 10000000000000))
    (bi (Decidable.decide
  (nth 0 (nth [] q18 x20.toNat) 0 > 10000000000000))
    (bi (Decidable.decide
  (nth 0 (nth [] q18 x20.toNat) 0 > 10000000000000))
    (bi (Decidable.decide
  (nth 0 (nth [] q18 x20.toNat) 0 > 10000000000000))
    (some (Sum.inr 3))
    none)
    none)
    none)
    (bi (Decidable.decide
  (nth 0 (nth [] q18 x20.toNat) 0 > 10000000000000))
    (bi (Decidable.decide
  (nth 0 (nth [] q18 x20.toNat) 0 > 10000000000000))
    (bi (Decidable.decide
  (nth 0 (nth [] q18 x20.toNat) 0 > 10000000000000))
    (some (Sum.inr 3))
    none)
    none)
    ((prod_within K
  (nth 0 (nth [] q18 x20.toNat) 1) 1000000000).bind fun r8 => (bi (Decidable.decide
  (nth 0 (nth [] q18 x20.toNat) 0 > 10000000000000))
    (bi (Decidable.decide
  (nth 0 (nth [] q18 x20.toNat) 0 > 10000000000000))
    (some (Sum.inr 3))
    none)
    (bi (Decidable.decide
  (nth 0 (nth [] q18 x20.toNat) 0 > 10000000000000))
    (some (Sum.inr 3))
    (bi (!r8)
    (some (Sum.inr 3))
    (prod_Tiers_l6 K k (q0) (q18) (x19) (Go.IntKind.i64.wrap (x20 + 1)))))))))))))))
    (bi (Decidable.decide (x20 > 0))
    none
    (bi (Decidable.decide (x20 > 0))
    none
    (bi (Decidable.decide (x20 > 0))
    none
    (bi (Decidable.decide (x20 > 0))
    none
    (bi (Decidable.decide (x20 > 0))
    none
    (bi (Decidable.decide
  (nth 0 (nth [] q18 x20.toNat) 0 > 10000000000000))
    (bi (Decidable.decide
  (nth 0 (nth [] q18 x20.toNat) 0 > 10000000000000))
    (bi (Decidable.decide
  (nth 0 (nth [] q18 x20.toNat) 0 > 10000000000000))
    (bi (Decidable.decide
  (nth 0 (nth [] q18 x20.toNat) 0 > 10000000000000))
    (bi (Decidable.decide
  (nth 0 (nth [] q18 x20.toNat) 0 > 10000000000000))
    (some (Sum.inr 3))
    none)
    none)
    none)
    none)
    (bi (Decidable.decide
  (nth 0 (nth [] q18 x20.toNat) 0 > 10000000000000))
    (bi (Decidable.decide
  (nth 0 (nth [] q18 x20.toNat) 0 > 10000000000000))
    (bi (Decidable.decide
  (nth 0 (nth [] q18 x20.toNat) 0 > 10000000000000))
    (bi (Decidable.decide
  (nth 0 (nth [] q18 x20.toNat) 0 > 10000000000000))
    (some (Sum.inr 3))
    none)
    none)
    none)
    (bi (Decidable.decide
  (nth 0 (nth [] q18 x20.toNat) 0 > 10000000000000))
    (bi (Decidable.decide
  (nth 0 (nth [] q18 x20.toNat) 0 > 10000000000000))
    (bi (Decidable.decide
  (nth 0 (nth [] q18 x20.toNat) 0 > 10000000000000))
    (some (Sum.inr 3))
    none)
    none)
    ((prod_within K
  (nth 0 (nth [] q18 x20.toNat) 1) 1000000000).bind fun r9 => (bi (Decidable.decide
  (nth 0 (nth [] q18 x20.toNat) 0 > 10000000000000))
    (bi (Decidable.decide
  (nth 0 (nth [] q18 x20.toNat) 0 > 10000000000000))
    (some (Sum.inr 3))
    none)
    (bi (Decidable.decide
  (nth 0 (nth [] q18 x20.toNat) 0 > 10000000000000))
    (some (Sum.inr 3))
    (bi (!r9)
    (some (Sum.inr 3))
    (prod_Tiers_l6 K k (q0) (q18) (x19) (Go.IntKind.i64.wrap (x20 + 1))))))))))))))))
    (bi (Decidable.decide (x20 > 0))
    none
    (bi (Decidable.decide (x20 > 0))
    none
    (bi (Decidable.decide (x20 > 0))
    none
    (bi (Decidable.decide (x20 > 0))
    none
    (bi (Decidable.decide (x20 > 0))
    none
    (bi (Decidable.decide (x20 > 0))
    none
    (bi (Decidable.decide
  (nth 0 (nth [] q18 x20.toNat) 0 > 10000000000000))
    (bi (Decidable.decide
  (nth 0 (nth [] q18 x20.toNat) 0 > 10000000000000))
    (bi (Decidable.decide
  (nth 0 (nth [] q18 x20.toNat) 0 > 10000000000000))
    (bi (Decidable.decide
  (nth 0 (nth [] q18 x20.toNat) 0 > 10000000000000))
    (bi (Decidable.decide
  (nth 0 (nth [] q18 x20.toNat) 0 > 10000000000000))
    (some (Sum.inr 3))
    none)
    none)
    none)
    none)
    (bi (Decidable.decide
  (nth 0 (nth [] q18 x20.toNat) 0 > 10000000000000))
    (bi (Decidable.decide
  (nth 0 (nth [] q18 x20.toNat) 0 > 10000000000000))
    (bi (Decidable.decide
  (nth 0 (nth [] q18 x20.toNat) 0 > 10000000000000))
    (bi (Decidable.decide
  (nth 0 (nth [] q18 x20.toNat) 0 > 10000000000000))
    (some (Sum.inr 3))
    none)
    none)
    none)
    (bi (Decidable.decide
  (nth 0 (nth [] q18 x20.toNat) 0 > 10000000000000))
    (bi (Decidable.decide
  (nth 0 (nth [] q18 x20.toNat) 0 > 10000000000000))
    (bi (Decidable.decide
  (nth 0 (nth [] q18 x20.toNat) 0 > 10000000000000))
    (some (Sum.inr 3))
    none)
    none)
    ((prod_within K
  (nth 0 (nth [] q18 x20.toNat) 1) 1000000000).bind fun r10 => (bi (Decidable.decide
  (nth 0 (nth [] q18 x20.toNat) 0 > 10000000000000))
    (bi (Decidable.decide
  (nth 0 (nth [] q18 x20.toNat) 0 > 10000000000000))
    (some (Sum.inr 3))
    none)
    (bi (Decidable.decide
  (nth 0 (nth [] q18 x20.toNat) 0 > 10000000000000))
    (some (Sum.inr 3))
    (bi (!r10)
    (some (Sum.inr 3))
    (prod_Tiers_l6 K k (q0) (q18) (x19) (Go.IntKind.i64.wrap (x20 + 1))))))))))))))))))
    (bi (Decidable.decide (x20 > 0))
    (bi (Decidable.decide (x20 > 0))
    (bi (Decidable.decide (x20 > 0))
    (bi (Decidable.decide (x20 > 0))
    (bi (Decidable.decide (0 ≤ Go.IntKind.i64.wrap (x20 - 1)) &&
  Decidable.decide (Go.IntKind.i64.wrap (x20 - 1) < (↑q0.length : Int)))
    (bi (Decidable.decide (x20 > 0))
    (bi (Decidable.decide (x20 > 0))
    (bi (Decidable.decide (x20 > 0))
    none
    (bi (Decidable.decide (x20 > 0))
    none
    (bi (Decidable.decide
  (nth 0 (nth [] q18 x20.toNat) 0 > 10000000000000))
    (bi (Decidable.decide
  (nth 0 (nth [] q18 x20.toNat) 0 > 10000000000000))
    (bi (Decidable.decide
  (nth 0 (nth [] q18 x20.toNat) 0 > 10000000000000))
    (bi (Decidable.decide
  (nth 0 (nth [] q18 x20.toNat) 0 > 10000000000000))
    (bi (Decidable.decide
  (nth 0 (nth [] q18 x20.toNat) 0 > 10000000000000))
    (some (Sum.inr 3))
    none)
    none)
    none)
    none)
    (bi (Decidable.decide
  (nth 0 (nth [] q18 x20.toNat) 0 > 10000000000000))
    (bi (Decidable.decide
  (nth 0 (nth [] q18 x20.toNat) 0 > 10000000000000))
    (bi (Decidable.decide
  (nth 0 (nth [] q18 x20.toNat) 0 > 10000000000000))
    (bi (Decidable.decide
  (nth 0 (nth [] q18 x20.toNat) 0 > 10000000000000))
    (some (Sum.inr 3))
    none)
    none)
    none)
    (bi (Decidable.decide
  (nth 0 (nth [] q18 x20.toNat) 0 > 10000000000000))
    (bi (Decidable.decide
  (nth 0 (nth [] q18 x20.toNat) 0 > 10000000000000))
    (bi (Decidable.decide
  (nth 0 (nth [] q18 x20.toNat) 0 > 10000000000000))
    (some (Sum.inr 3))
    none)
    none)
    ((prod_within K
  (nth 0 (nth [] q18 x20.toNat) 1) 1000000000).bind fun r11 => (bi (Decidable.decide
  (nth 0 (nth [] q18 x20.toNat) 0 > 10000000000000))
    (bi (Decidable.decide
  (nth 0 (nth [] q18 x20.toNat) 0 > 10000000000000))
    (some (Sum.inr 3))
    none)
    (bi (Decidable.decide
  (nth 0 (nth [] q18 x20.toNat) 0 > 10000000000000))
    (some (Sum.inr 3))
    (bi (!r11)
    (some (Sum.inr 3))
    (prod_Tiers_l6 K k (q0) (q18) (x19) (Go.IntKind.i64.wrap (x20 + 1))))))))))))
    (bi (Decidable.decide (x20 > 0))
    none
    (bi (Decidable.decide (x20 > 0))
    none
    (bi (Decidable.decide
  (nth 0 (nth [] q18 x20.toNat) 0 > 10000000000000))
    (bi (Decidable.decide
  (nth 0 (nth [] q18 x20.toNat) 0 > 10000000000000))
    (bi (Decidable.decide
  (nth 0 (nth [] q18 x20.toNat) 0 > 10000000000000))
    (bi (Decidable.decide
  (nth 0 (nth [] q18 x20.toNat) 0 > 10000000000000))
    (bi (Decidable.decide
  (nth 0 (nth [] q18 x20.toNat) 0 > 10000000000000))
    (some (Sum.inr 3))
    none)
    none)
    none)
    none)
    (bi (Decidable.decide
  (nth 0 (nth [] q18 x20.toNat) 0 > 10000000000000))
    (bi (Decidable.decide
  (nth 0 (nth [] q18 x20.toNat) 0 > 10000000000000))
    (bi (Decidable.decide
  (nth 0 (nth [] q18 x20.toNat) 0 > 10000000000000))
    (bi (Decidable.decide
  (nth 0 (nth [] q18 x20.toNat) 0 > 10000000000000))
    (some (Sum.inr 3))
    none)
    none)
    none)
    (bi (Decidable.decide
  (nth 0 (nth [] q18 x20.toNat) 0 > 10000000000000))
    (bi (Decidable.decide
  (nth 0 (nth [] q18 x20.toNat) 0 > 10000000000000))
    (bi (Decidable.decide
  (nth 0 (nth [] q18 x20.toNat) 0 > 10000000000000))
    (some (Sum.inr 3))
    none)
    none)
    ((prod_within K
  (nth 0 (nth [] q18 x20.toNat) 1) 1000000000).bind fun r12 => (bi (Decidable.decide
  (nth 0 (nth [] q18 x20.toNat) 0 > 10000000000000))
    (bi (Decidable.decide
  (nth 0 (nth [] q18 x20.toNat) 0 > 10000000000000))
    (some (Sum.inr 3))
    none)
    (bi (Decidable.decide
  (nth 0 (nth [] q18 x20.toNat) 0 > 10000000000000))
    (some (Sum.inr 3))
    (bi (!r12)
    (some (Sum.inr 3))
    (prod_Tiers_l6 K k (q0) (q18) (x19) (Go.IntKind.i64.wrap (x20 + 1)))))))))))))
    (bi (Decidable.decide (x20 > 0))
    none
    (bi (Decidable.decide (x20 > 0))
    none
    (bi (Decidable.decide (x20 > 0))
    none
    (bi (Decidable.decide
  (nth 0 (nth [] q18 x20.toNat) 0 > 10000000000000))
    (bi (Decidable.decide
  (nth 0 (nth [] q18 x20.toNat) 0 > 10000000000000))
    (bi (Decidable.decide
  (nth 0 (nth [] q18 x20.toNat) 0 > 10000000000000))
    (bi (Decidable.decide
  (nth 0 (nth [] q18 x20.toNat) 0 > 10000000000000))
    (bi (Decidable.decide
  (nth 0 (nth [] q18 x20.toNat) 0 > 10000000000000))
    (some (Sum.inr 3))
    none)
    none)
    none)
    none)
    (bi (Decidable.decide
  (nth 0 (nth [] q18 x20.toNat) 0 > 10000000000000))
    (bi (Decidable.decide
  (nth 0 (nth [] q18 x20.toNat) 0 > 10000000000000))
    (bi (Decidable.decide
  (nth 0 (nth [] q18 x20.toNat) 0 > 10000000000000))
    (bi (Decidable.decide
  (nth 0 (nth [] q18 x20.toNat) 0 > 10000000000000))
    (some (Sum.inr 3))
    none)
    none)
    none)
    (bi (Decidable.decide
  (nth 0 (nth [] q18 x20.toNat) 0 > 10000000000000))
    (bi (Decidable.decide
  (nth 0 (nth [] q18 x20.toNat) 0 > 10000000000000))
    (bi (Decidable.decide
  (nth 0 (nth [] q18 x20.toNat) 0 > 10000000000000))
    (some (Sum.inr 3))
    none)
    none)
    ((prod_within K
  (nth 0 (nth [] q18 x20.toNat) 1) 1000000000).bind fun r13 => (bi (Decidable.decide
  (nth 0 (nth [] q18 x20.toNat) 0 > 10000000000000))
    (bi (Decidable.decide
  (nth 0 (nth [] q18 x20.toNat) 0 > 10000000000000))
    (some (Sum.inr 3))
    none)
    (bi (Decidable.decide
  (nth 0 (nth [] q18 x20.toNat) 0 > 10000000000000))
    (some (Sum.inr 3))
    (bi (!r13)
    (some (Sum.inr 3))
    (prod_Tiers_l6 K k (q0) (q18) (x19) (Go.IntKind.i64.wrap (x20 + 1))))))))))))))
    none)
    (bi (Decidable.decide (x20 > 0))
    none
    (bi (Decidable.decide (x20 > 0))
    none
    (bi (Decidable.decide (x20 > 0))
    none
    (bi (Decidable.decide (x20 > 0))
    none
    (bi (Decidable.decide
  (nth 0 (nth [] q18 x20.toNat) 0 > 10000000000000))
    (bi (Decidable.decide
  (nth 0 (nth [] q18 x20.toNat) 0 > 10000000000000))
    (bi (Decidable.decide
  (nth 0 (nth [] q18 x20.toNat) 0 > 10000000000000))
    (bi (Decidable.decide
  (nth 0 (nth [] q18 x20.toNat) 0 > 10000000000000))
    (bi (Decidable.decide
  (nth 0 (nth [] q18 x20.toNat) 0 > 10000000000000))
    (some (Sum.inr 3))
    none)
    none)
    none)
    none)
    (bi (Decidable.decide
  (nth 0 (nth [] q18 x20.toNat) 0 > 10000000000000))
    (bi (Decidable.decide
  (nth 0 (nth [] q18 x20.toNat) 0 > 10000000000000))
    (bi (Decidable.decide
  (nth 0 (nth [] q18 x20.toNat) 0 > 10000000000000))
    (bi (Decidable.decide
  (nth 0 (nth [] q18 x20.toNat) 0 > 10000000000000))
    (some (Sum.inr 3))
    none)
    none)
    none)
    (bi (Decidable.decide
  (nth 0 (nth [] q18 x20.toNat) 0 > 10000000000000))
    (bi (Decidable.decide
  (nth 0 (nth [] q18 x20.toNat) 0 > 10000000000000))
    (bi (Decidable.decide
  (nth 0 (nth [] q18 x20.toNat) 0 > 10000000000000))
    (some (Sum.inr 3))
    none)
    none)
    ((prod_within K
  (nth 0 (nth [] q18 x20.toNat) 1) 1000000000).bind fun r14 => (bi (Decidable.decide
  (nth 0 (nth [] q18 x20.toNat) 0 > 10000000000000))
    (bi (Decidable.decide
  (nth 0 (nth [] q18 x20.toNat) 0 > 10000000000000))
    (some (Sum.inr 3))
    none)
    (bi (Decidable.decide
  (nth 0 (nth [] q18 x20.toNat) 0 > 10000000000000))
    (some (Sum.inr 3))
    (bi (!r14)
    (some (Sum.inr 3))
    (prod_Tiers_l6 K k (q0) (q18) (x19) (Go.IntKind.i64.wrap (x20 + 1)))))))))))))))
    (bi (Decidable.decide (x20 > 0))
    none
    (bi (Decidable.decide (x20 > 0))
    none
    (bi (Decidable.decide (x20 > 0))
    none
    (bi (Decidable.decide (x20 > 0))
    none
    (bi (Decidable.decide (x20 > 0))
    none
    (bi (Decidable.decide
  (nth 0 (nth [] q18 x20.toNat) 0 > 10000000000000))
    (bi (Decidable.decide
  (nth 0 (nth [] q18 x20.toNat) 0 > 10000000000000))
    (bi (Decidable.decide
  (nth 0 (nth [] q18 x20.toNat) 0 > 10000000000000))
    (bi (Decidable.decide
  (nth 0 (nth [] q18 x20.toNat) 0 > 10000000000000))
    (bi (Decidable.decide
  (nth 0 (nth [] q18 x20.toNat) 0 > 10000000000000))
    (some (Sum.inr 3))
    none)
    none)
    none)
    none)
    (bi (Decidable.decide
  (nth 0 (nth [] q18 x20.toNat) 0 > 10000000000000))
    (bi (Decidable.decide
  (nth 0 (nth [] q18 x20.toNat) 0 > 10000000000000))
    (bi (Decidable.decide
  (nth 0 (nth [] q18 x20.toNat) 0 > 10000000000000))
    (bi (Decidable.decide
  (nth 0 (nth [] q18 x20.toNat) 0 > 10000000000000))
    (some (Sum.inr 3))
    none)
    none)
    none)
    (bi (Decidable.decide
  (nth 0 (nth [] q18 x20.toNat) 0 > 10000000000000))
    (bi (Decidable.decide
  (nth 0 (nth [] q18 x20.toNat) 0 > 10000000000000))
    (bi (Decidable.decide
  (nth 0 (nth [] q18 x20.toNat) 0 > 10000000000000))
    (some (Sum.inr 3))
    none)
    none)
    ((prod_within K
  (nth 0 (nth [] q18 x20.toNat) 1) 1000000000).bind fun r15 => (bi (Decidable.decide
  (nth 0 (nth [] q18 x20.toNat) 0 > 10000000000000))
    (bi (Decidable.decide
  (nth 0 (nth [] q18 x20.toNat) 0 > 10000000000000))
    (some (Sum.inr 3))
    none)
    (bi (Decidable.decide
  (nth 0 (nth [] q18 x20.toNat) 0 > 10000000000000))
    (some (Sum.inr 3))
    (bi (!r15)
    (some (Sum.inr 3))
    (prod_Tiers_l6 K k (q0) (q18) (x19) (Go.IntKind.i64.wrap (x20 + 1))))))))))))))))
    (bi (Decidable.decide (x20 > 0))
    none
    (bi (Decidable.decide (x20 > 0))
    none
    (bi (Decidable.decide (x20 > 0))
    none
    (bi (Decidable.decide (x20 > 0))
    none
    (bi (Decidable.decide (x20 > 0))
    none
    (bi (Decidable.decide (x20 > 0))
    none
    (bi (Decidable.decide
  (nth 0 (nth [] q18 x20.toNat) 0 > 10000000000000))
    (bi (Decidable.decide
  (nth 0 (nth [] q18 x20.toNat) 0 > 10000000000000))
    (bi (Decidable.decide
  (nth 0 (nth [] q18 x20.toNat) 0 > 10000000000000))
    (bi (Decidable.decide
  (nth 0 (nth [] q18 x20.toNat) 0 > 10000000000000))
    (bi (Decidable.decide
  (nth 0 (nth [] q18 x20.toNat) 0 > 10000000000000))
    (some (Sum.inr 3))
    none)
    none)
    none)
    none)
    (bi (Decidable.decide
  (nth 0 (nth [] q18 x20.toNat) 0 > 10000000000000))
    (bi (Decidable.decide
  (nth 0 (nth [] q18 x20.toNat) 0 > 10000000000000))
    (bi (Decidable.decide
  (nth 0 (nth [] q18 x20.toNat) 0 > 10000000000000))
    (bi (Decidable.decide
  (nth 0 (nth [] q18 x20.toNat) 0 > 10000000000000))
    (some (Sum.inr 3))
    none)
    none)
    none)
    (bi (Decidable.decide
  (nth 0 (nth [] q18 x20.toNat) 0 > 10000000000000))
    (bi (Decidable.decide
  (nth 0 (nth [] q18 x20.toNat) 0 > 10000000000000))
    (bi (Decidable.decide
  (nth 0 (nth [] q18 x20.toNat) 0 > 10000000000000))
    (some (Sum.inr 3))
    none)
    none)
    ((prod_within K
  (nth 0 (nth [] q18 x20.toNat) 1) 1000000000).bind fun r16 => (bi (Decidable.decide
  (nth 0 (nth [] q18 x20.toNat) 0 > 10000000000000))
    (bi (Decidable.decide
  (nth 0 (nth [] q18 x20.toNat) 0 > 10000000000000))
    (some (Sum.inr 3))
    none)
    (bi (Decidable.decide
  (nth 0 (nth [] q18 x20.toNat) 0 > 10000000000000))
    (some (Sum.inr 3))
    (bi (!r16)
    (some (Sum.inr 3))
    (prod_Tiers_l6 K k (q0) (q18) (x19) (Go.IntKind.i64.wrap (x20 + 1)))))))))))))))))
    (bi (Decidable.decide (x20 > 0))
    (bi (Decidable.decide (x20 > 0))
    (bi (Decidable.decide (x20 > 0))
    none
    (bi (Decidable.decide (x20 > 0))
    none
    (bi (Decidable.decide (x20 > 0))
    none
    (bi (Decidable.decide (x20 > 0))
    none
    (bi (Decidable.decide (x20 > 0))
    none
    (bi (Decidable.decide
  (nth 0 (nth [] q18 x20.toNat) 0 > 10000000000000))
    (bi (Decidable.decide
  (nth 0 (nth [] q18 x20.toNat) 0 > 10000000000000))
    (bi (Decidable.decide
  (nth 0 (nth [] q18 x20.toNat) 0 > 10000000000000))
    (bi (Decidable.decide
  (nth 0 (nth [] q18 x20.toNat) 0 > 10000000000000))
    (bi (Decidable.decide
  (nth 0 (nth [] q18 x20.toNat) 0 > 10000000000000))
    (some (Sum.inr 3))
    none)
    none)
    none)
    none)
    (bi (Decidable.decide
  (nth 0 (nth [] q18 x20.toNat) 0 > 10000000000000))
    (bi (Decidable.decide
  (nth 0 (nth [] q18 x20.toNat) 0 > 10000000000000))
    (bi (Decidable.decide
  (nth 0 (nth [] q18 x20.toNat) 0 > 10000000000000))
    (bi (Decidable.decide
  (nth 0 (nth [] q18 x20.toNat) 0 > 10000000000000))
    (some (Sum.inr 3))
    none)
    none)
    none)
    (bi (Decidable.decide
  (nth 0 (nth [] q18 x20.toNat) 0 > 10000000000000))
    (bi (Decidable.decide
  (nth 0 (nth [] q18 x20.toNat) 0 > 10000000000000))
    (bi (Decidable.decide
  (nth 0 (nth [] q18 x20.toNat) 0 > 10000000000000))
    (some (Sum.inr 3))
    none)
    none)
    ((prod_within K
  (nth 0 (nth [] q18 x20.toNat) 1) 1000000000).bind fun r17 => (bi (Decidable.decide
  (nth 0 (nth [] q18 x20.toNat) 0 > 10000000000000))
    (bi (Decidable.decide
  (nth 0 (nth [] q18 x20.toNat) 0 > 10000000000000))
    (some (Sum.inr 3))
    none)
    (bi (Decidable.decide
  (nth 0 (nth [] q18 x20.toNat) 0 > 10000000000000))
    (some (Sum.inr 3))
    (bi (!r17)
    (some (Sum.inr 3))
    (prod_Tiers_l6 K k (q0) (q18) (x19) (Go.IntKind.i64.wrap (x20 + 1)))))))))))))))
    (bi (Decidable.decide (x20 > 0))
    none
    (bi (Decidable.decide (x20 > 0))
    none
    (bi (Decidable.decide (x20 > 0))
    none
    (bi (Decidable.decide (x20 > 0))
    none
    (bi (Decidable.decide (x20 > 0))
    none
    (bi (Decidable.decide
  (nth 0 (nth [] q18 x20.toNat) 0 > 10000000000000))
    (bi (Decidable.decide
  (nth 0 (nth [] q18 x20.toNat) 0 > 10000000000000))
    (bi (Decidable.decide
  (nth 0 (nth [] q18 x20.toNat) 0 > 10000000000000))
    (bi (Decidable.decide
  (nth 0 (nth [] q18 x20.toNat) 0 > 10000000000000))
    (bi (Decidable.decide
  (nth 0 (nth [] q18 x20.toNat) 0 > 10000000000000))
    (some (Sum.inr 3))
    none)
    none)
    none)
    none)
    (bi (Decidable.decide
  (nth 0 (nth [] q18 x20.toNat) 0 > 10000000000000))
    (bi (Decidable.decide
  (nth 0 (nth [] q18 x20.toNat) 0 > 10000000000000))
    (bi (Decidable.decide
  (nth 0 (nth [] q18 x20.toNat) 0 > 10000000000000))
    (bi (Decidable.decide
  (nth 0 (nth [] q18 x20.toNat) 0 > 10000000000000))
    (some (Sum.inr 3))
    none)
    none)
    none)
    (bi (Decidable.decide
  (nth 0 (nth [] q18 x20.toNat) 0 > 10000000000000))
    (bi (Decidable.decide
  (nth 0 (nth [] q18 x20.toNat) 0 > 10000000000000))
    (bi (Decidable.decide
  (nth 0 (nth [] q18 x20.toNat) 0 > 10000000000000))
    (some (Sum.inr 3))
    none)
    none)
    ((prod_within K
  (nth 0 (nth [] q18 x20.toNat) 1) 1000000000).bind fun r18 => (bi (Decidable.decide
  (nth 0 (nth [] q18 x20.toNat) 0 > 10000000000000))
    (bi (Decidable.decide
  (nth 0 (nth [] q18 x20.toNat) 0 > 10000000000000))
    (some (Sum.inr 3))
    none)
    (bi (Decidable.decide
  (nth 0 (nth [] q18 x20.toNat) 0 > 10000000000000))
    (some (Sum.inr 3))
    (bi (!r18)
    (some (Sum.inr 3))
    (prod_Tiers_l6 K k (q0) (q18) (x19) (Go.IntKind.i64.wrap (x20 + 1))))))))))))))))
    (bi (Decidable.decide (x20 > 0))
    none
    (bi (Decidable.decide (x20 > 0))
    none
    (bi (Decidable.decide (x20 > 0))
    none
    (bi (Decidable.decide (x20 > 0))
    none
    (bi (Decidable.decide (x20 > 0))
    none
    (bi (Decidable.decide (x20 > 0))
    none
    (bi (Decidable.decide
  (nth 0 (nth [] q18 x20.toNat) 0 > 10000000000000))
    (bi (Decidable.decide
  (nth 0 (nth [] q18 x20.toNat) 0 > 10000000000000))
    (bi (Decidable.decide
  (nth 0 (nth [] q18 x20.toNat) 0 > 10000000000000))
    (bi (Decidable.decide
  (nth 0 (nth [] q18 x20.toNat) 0 > 10000000000000))
    (bi (Decidable.decide
  (nth 0 (nth [] q18 x20.toNat) 0 > 10000000000000))
    (some (Sum.inr 3))
    none)
    none)
    none)
    none)
    (bi (Decidable.decide
  (nth 0 (nth [] q18 x20.toNat) 0 > 10000000000000))
    (bi (Decidable.decide
  (nth 0 (nth [] q18 x20.toNat) 0 > 10000000000000))
    (bi (Decidable.decide
  (nth 0 (nth [] q18 x20.toNat) 0 > 10000000000000))
    (bi (Decidable.decide
  (nth 0 (nth [] q18 x20.toNat) 0 > 10000000000000))
    (some (Sum.inr 3))
    none)
    none)
    none)
    (bi (Decidable.decide
  (nth 0 (nth [] q18 x20.toNat) 0 > 10000000000000))
    (bi (Decidable.decide
  (nth 0 (nth [] q18 x20.toNat) 0 > 10000000000000))
    (bi (Decidable.decide
  (nth 0 (nth [] q18 x20.toNat) 0 > 10000000000000))
    (some (Sum.inr 3))
    none)
    none)
    ((prod_within K
  (nth 0 (nth [] q18 x20.toNat) 1) 1000000000).bind fun r19 => (bi (Decidable.decide
  (nth 0 (nth [] q18 x20.toNat) 0 > 10000000000000))
    (bi (Decidable.decide
  (nth 0 (nth [] q18 x20.toNat) 0 > 10000000000000))
    (some (Sum.inr 3))
    none)
    (bi (Decidable.decide
  (nth 0 (nth [] q18 x20.toNat) 0 > 10000000000000))
    (some (Sum.inr 3))
    (bi (!r19)
    (some (Sum.inr 3))
    (prod_Tiers_l6 K k (q0) (q18) (x19) (Go.IntKind.i64.wrap (x20 + 1)))))))))))))))))))
    (bi (Decidable.decide (x20 > 0))
    none
    (bi (Decidable.decide (x20 > 0))
    (bi (Decidable.decide (x20 > 0))
    (bi (Decidable.decide (x20 > 0))
    (bi (Decidable.decide (x20 > 0))
    (bi (Decidable.decide (0 ≤ Go.IntKind.i64.wrap (x20 - 1)) &&
  Decidable.decide (Go.IntKind.i64.wrap (x20 - 1) < (↑q0.length : Int)))
    (bi (Decidable.decide (x20 > 0))
    (bi (Decidable.decide (x20 > 0))
    (bi (Decidable.decide (x20 > 0))
    none
    (bi (Decidable.decide (x20 > 0))
    none
    (bi (Decidable.decide
  (nth 0 (nth [] q18 x20.toNat) 0 > 10000000000000))
    (bi (Decidable.decide
  (nth 0 (nth [] q18 x20.toNat) 0 > 10000000000000))
    (bi (Decidable.decide
  (nth 0 (nth [] q18 x20.toNat) 0 > 10000000000000))
    (bi (Decidable.decide
  (nth 0 (nth [] q18 x20.toNat) 0 > 10000000000000))
    (bi (Decidable.decide
  (nth 0 (nth [] q18 x20.toNat) 0 > 10000000000000))
    (some (Sum.inr 3))
    none)
    none)
    none)
    none)
    (bi (Decidable.decide
  (nth 0 (nth [] q18 x20.toNat) 0 > 10000000000000))
    (bi (Decidable.decide
  (nth 0 (nth [] q18 x20.toNat) 0 > 10000000000000))
    (bi (Decidable.decide
  (nth 0 (nth [] q18 x20.toNat) 0 > 10000000000000))
    (bi (Decidable.decide
  (nth 0 (nth [] q18 x20.toNat) 0 > 10000000000000))
    (some (Sum.inr 3))
    none)
    none)
    none)
    (bi (Decidable.decide
  (nth 0 (nth [] q18 x20.toNat) 0 > 10000000000000))
    (bi (Decidable.decide
  (nth 0 (nth [] q18 x20.toNat) 0 > 10000000000000))
    (bi (Decidable.decide
  (nth 0 (nth [] q18 x20.toNat) 0 > 10000000000000))
    (some (Sum.inr 3))
    none)
    none)
    ((prod_within K
  (nth 0 (nth [] q18 x20.toNat) 1) 1000000000).bind fun r20 => (bi (Decidable.decide
  (nth 0 (nth [] q18 x20.toNat) 0 > 10000000000000))
    (bi (Decidable.decide
  (nth 0 (nth [] q18 x20.toNat) 0 > 10000000000000))
    (some (Sum.inr 3))
    none)
    (bi (Decidable.decide
  (nth 0 (nth [] q18 x20.toNat) 0 > 10000000000000))
    (some (Sum.inr 3))
    (bi (!r20)
    (some (Sum.inr 3))
    (prod_Tiers_l6 K k (q0) (q18) (x19) (Go.IntKind.i64.wrap (x20 + 1))))))))))))
    (bi (Decidable.decide (x20 > 0))
    none
    (bi (Decidable.decide (x20 > 0))
    none
    (bi (Decidable.decide
  (nth 0 (nth [] q18 x20.toNat) 0 > 10000000000000))
    (bi (Decidable.decide
  (nth 0 (nth [] q18 x20.toNat) 0 > 10000000000000))
    (bi (Decidable.decide
  (nth 0 (nth [] q18 x20.toNat) 0 > 10000000000000))
    (bi (Decidable.decide
  (nth 0 (nth [] q18 x20.toNat) 0 > 10000000000000))
    (bi (Decidable.decide
  (nth 0 (nth [] q18 x20.toNat) 0 > 10000000000000))
    (some (Sum.inr 3))
    none)
    none)
    none)
    none)
    (bi (Decidable.decide
  (nth 0 (nth [] q18 x20.toNat) 0 > 10000000000000))
    (bi (Decidable.decide
  (nth 0 (nth [] q18 x20.toNat) 0 > 10000000000000))
    (bi (Decidable.decide
  (nth 0 (nth [] q18 x20.toNat) 0 > 10000000000000))
    (bi (Decidable.decide
  (nth 0 (nth [] q18 x20.toNat) 0 > 10000000000000))
    (some (Sum.inr 3))
    none)
    none)
    none)
    (bi (Decidable.decide
  (nth 0 (nth [] q18 x20.toNat) 0 > 10000000000000))
    (bi (Decidable.decide
  (nth 0 (nth [] q18 x20.toNat) 0 > 10000000000000))
    (bi (Decidable.decide
  (nth 0 (nth [] q18 x20.toNat) 0 > 10000000000000))
    (some (Sum.inr 3))
    none)
    none)
    ((prod_within K
  (nth 0 (nth [] q18 x20.toNat) 1) 1000000000).bind fun r21 => (bi (Decidable.decide
  (nth 0 (nth [] q18 x20.toNat) 0 > 10000000000000))
    (bi (Decidable.decide
  (nth 0 (nth [] q18 x20.toNat) 0 > 10000000000000))
    (some (Sum.inr 3))
    none)
    (bi (Decidable.decide
  (nth 0 (nth [] q18 x20.toNat) 0 > 10000000000000))
    (some (Sum.inr 3))
    (bi (!r21)
    (some (Sum.inr 3))
    (prod_Tiers_l6 K k (q0) (q18) (x19) (Go.IntKind.i64.wrap (x20 + 1)))))))))))))
    (bi (Decidable.decide (x20 > 0))
    none
    (bi (Decidable.decide (x20 > 0))
    none
    (bi (Decidable.decide (x20 > 0))
    none
    (bi (Decidable.decide
  (nth 0 (nth [] q18 x20.toNat) 0 > 10000000000000))
    (bi (Decidable.decide
  (nth 0 (nth [] q18 x20.toNat) 0 > 10000000000000))
    (bi (Decidable.decide
  (nth 0 (nth [] q18 x20.toNat) 0 > 10000000000000))
    (bi (Decidable.decide
  (nth 0 (nth [] q18 x20.toNat) 0 > 10000000000000))
    (bi (Decidable.decide
  (nth 0 (nth [] q18 x20.toNat) 0 > 10000000000000))
    (some (Sum.inr 3))
    none)
    none)
    none)
    none)
    (bi (Decidable.decide
  (nth 0 (nth [] q18 x20.toNat) 0 > 10000000000000))
    (bi (Decidable.decide
  (nth 0 (nth [] q18 x20.toNat) 0 > 10000000000000))
    (bi (Decidable.decide
  (nth 0 (nth [] q18 x20.toNat) 0 > 10000000000000))
    (bi (Decidable.decide
  (nth 0 (nth [] q18 x20.toNat) 0 > 10000000000000))
    (some (Sum.inr 3))
    none)
    none)
    none)
    (bi (Decidable.decide
  (nth 0 (nth [] q18 x20.toNat) 0 > 10000000000000))
    (bi (Decidable.decide
  (nth 0 (nth [] q18 x20.toNat) 0 > 10000000000000))
    (bi (Decidable.decide
  (nth 0 (nth [] q18 x20.toNat) 0 > 10000000000000))
    (some (Sum.inr 3))
    none)
    none)
    ((prod_within K
  (nth 0 (nth [] q18 x20.toNat) 1) 1000000000).bind fun r22 => (bi (Decidable.decide
  (nth 0 (nth [] q18 x20.toNat) 0 > 10000000000000))
    (bi (Decidable.decide
  (nth 0 (nth [] q18 x20.toNat) 0 > 10000000000000))
    (some (Sum.inr 3))
    none)
    (bi (Decidable.decide
  (nth 0 (nth [] q18 x20.toNat) 0 > 10000000000000))
    (some (Sum.inr 3))
    (bi (!r22)
    (some (Sum.inr 3))
    (prod_Tiers_l6 K k (q0) (q18) (x19) (Go.IntKind.i64.wrap (x20 + 1))))))))))))))
    none)
    (bi (Decidable.decide (x20 > 0))
    none
    (bi (Decidable.decide (x20 > 0))
    none
    (bi (Decidable.decide (x20 > 0))
    none
    (bi (Decidable.decide (x20 > 0))
    none
    (bi (Decidable.decide
  (nth 0 (nth [] q18 x20.toNat) 0 > 10000000000000))
    (bi (Decidable.decide
  (nth 0 (nth [] q18 x20.toNat) 0 > 10000000000000))
    (bi (Decidable.decide
  (nth 0 (nth [] q18 x20.toNat) 0 > 10000000000000))
    (bi (Decidable.decide
  (nth 0 (nth [] q18 x20.toNat) 0 > 10000000000000))
    (bi (Decidable.decide
  (nth 0 (nth [] q18 x20.toNat) 0 > 10000000000000))
    (some (Sum.inr 3))
    none)
    none)
    none)
    none)
    (bi (Decidable.decide
  (nth 0 (nth [] q18 x20.toNat) 0 > 10000000000000))
    (bi (Decidable.decide
  (nth 0 (nth [] q18 x20.toNat) 0 > 10000000000000))
    (bi (Decidable.decide
  (nth 0 (nth [] q18 x20.toNat) 0 > 10000000000000))
    (bi (Decidable.decide
  (nth 0 (nth [] q18 x20.toNat) 0 > 10000000000000))
    (some (Sum.inr 3))
    none)
    none)
    none)
    (bi (Decidable.decide
  (nth 0 (nth [] q18 x20.toNat) 0 > 10000000000000))
    (bi (Decidable.decide
  (nth 0 (nth [] q18 x20.toNat) 0 > 10000000000000))
    (bi (Decidable.decide
  (nth 0 (nth [] q18 x20.toNat) 0 > 10000000000000))
    (some (Sum.inr 3))
    none)
    none)
    ((prod_within K
  (nth 0 (nth [] q18 x20.toNat) 1) 1000000000).bind fun r23 => (bi (Decidable.decide
  (nth 0 (nth [] q18 x20.toNat) 0 > 10000000000000))
    (bi (Decidable.decide
  (nth 0 (nth [] q18 x20.toNat) 0 > 10000000000000))
    (some (Sum.inr 3))
    none)
    (bi (Decidable.decide
  (nth 0 (nth [] q18 x20.toNat) 0 > 10000000000000))
    (some (Sum.inr 3))
    (bi (!r23)
    (some (Sum.inr 3))
    (prod_Tiers_l6 K k (q0) (q18) (x19) (Go.IntKind.i64.wrap (x20 + 1)))))))))))))))
    (bi (Decidable.decide (x20 > 0))
    none
    (bi (Decidable.decide (x20 > 0))
    none
    (bi (Decidable.decide (x20 > 0))
    none
    (bi (Decidable.decide (x20 > 0))
    none
    (bi (Decidable.decide (x20 > 0))
    none
    (bi (Decidable.decide
  (nth 0 (nth [] q18 x20.toNat) 0 > 10000000000000))
    (bi (Decidable.decide
  (nth 0 (nth [] q18 x20.toNat) 0 > 10000000000000))
    (bi (Decidable.decide
  (nth 0 (nth [] q18 x20.toNat) 0 > 10000000000000))
    (bi (Decidable.decide
  (nth 0 (nth [] q18 x20.toNat) 0 > 10000000000000))
    (bi (Decidable.decide
  (nth 0 (nth [] q18 x20.toNat) 0 > 10000000000000))
    (some (Sum.inr 3))
    none)
    none)
    none)
    none)
    (bi (Decidable.decide
  (nth 0 (nth [] q18 x20.toNat) 0 > 10000000000000))
    (bi (Decidable.decide
  (nth 0 (nth [] q18 x20.toNat) 0 > 10000000000000))
    (bi (Decidable.decide
  (nth 0 (nth [] q18 x20.toNat) 0 > 10000000000000))
    (bi (Decidable.decide
  (nth 0 (nth [] q18 x20.toNat) 0 > 10000000000000))
    (some (Sum.inr 3))
    none)
    none)
    none)
    (bi (Decidable.decide
  (nth 0 (nth [] q18 x20.toNat) 0 > 10000000000000))
    (bi (Decidable.decide
  (nth 0 (nth [] q18 x20.toNat) 0 > 10000000000000))
    (bi (Decidable.decide
  (nth 0 (nth [] q18 x20.toNat) 0 > 10000000000000))
    (some (Sum.inr 3))
    none)
    none)
    ((prod_within K
  (nth 0 (nth [] q18 x20.toNat) 1) 1000000000).bind fun r24 => (bi (Decidable.decide
  (nth 0 (nth [] q18 x20.toNat) 0 > 10000000000000))
    (bi (Decidable.decide
  (nth 0 (nth [] q18 x20.toNat) 0 > 10000000000000))
    (some (Sum.inr 3))
    none)
    (bi (Decidable.decide
  (nth 0 (nth [] q18 x20.toNat) 0 > 10000000000000))
    (some (Sum.inr 3))
    (bi (!r24)
    (some (Sum.inr 3))
    (prod_Tiers_l6 K k (q0) (q18) (x19) (Go.IntKind.i64.wrap (x20 + 1))))))))))))))))
    (bi (Decidable.decide (x20 > 0))
    none
    (bi (Decidable.decide (x20 > 0))
    none
    (bi (Decidable.decide (x20 > 0))
    none
    (bi (Decidable.decide (x20 > 0))
    none
    (bi (Decidable.decide (x20 > 0))
    none
    (bi (Decidable.decide (x20 > 0))
    none
    (bi (Decidable.decide
  (nth 0 (nth [] q18 x20.toNat) 0 > 10000000000000))
    (bi (Decidable.decide
  (nth 0 (nth [] q18 x20.toNat) 0 > 10000000000000))
    (bi (Decidable.decide
  (nth 0 (nth [] q18 x20.toNat) 0 > 10000000000000))
    (bi (Decidable.decide
  (nth 0 (nth [] q18 x20.toNat) 0 > 10000000000000))
    (bi (Decidable.decide
  (nth 0 (nth [] q18 x20.toNat) 0 > 10000000000000))
    (some (Sum.inr 3))
    none)
    none)
    none)
    none)
    (bi (Decidable.decide
  (nth 0 (nth [] q18 x20.toNat) 0 > 10000000000000))
    (bi (Decidable.decide
  (nth 0 (nth [] q18 x20.toNat) 0 > 10000000000000))
    (bi (Decidable.decide
  (nth 0 (nth [] q18 x20.toNat) 0 > 10000000000000))
    (bi (Decidable.decide
  (nth 0 (nth [] q18 x20.toNat) 0 > 10000000000000))
    (some (Sum.inr 3))
    none)
    none)
    none)
    (bi (Decidable.decide
  (nth 0 (nth [] q18 x20.toNat) 0 > 10000000000000))
    (bi (Decidable.decide
  (nth 0 (nth [] q18 x20.toNat) 0 > 10000000000000))
    (bi (Decidable.decide
  (nth 0 (nth [] q18 x20.toNat) 0 > 10000000000000))
    (some (Sum.inr 3))
    none)
    none)
    ((prod_within K
  (nth 0 (nth [] q18 x20.toNat) 1) 1000000000).bind fun r25 => (bi (Decidable.decide
  (nth 0 (nth [] q18 x20.toNat) 0 > 10000000000000))
    (bi (Decidable.decide
  (nth 0 (nth [] q18 x20.toNat) 0 > 10000000000000))
    (some (Sum.inr 3))
    none)
    (bi (Decidable.decide
  (nth 0 (nth [] q18 x20.toNat) 0 > 10000000000000))
    (some (Sum.inr 3))
    (bi (!r25)
    (some (Sum.inr 3))
    (prod_Tiers_l6 K k (q0) (q18) (x19) (Go.IntKind.i64.wrap (x20 + 1)))))))))))))))))
    (bi (Decidable.decide (x20 > 0))
    (bi (Decidable.decide (x20 > 0))
    (bi (Decidable.decide (x20 > 0))
    none
    (bi (Decidable.decide (x20 > 0))
    none
    (bi (Decidable.decide (x20 > 0))
    none
    (bi (Decidable.decide (x20 > 0))
    none
    (bi (Decidable.decide (x20 > 0))
    none
    (bi (Decidable.decide
  (nth 0 (nth [] q18 x20.toNat) 0 > 10000000000000))
    (bi (Decidable.decide
  (nth 0 (nth [] q18 x20.toNat) 0 > 10000000000000))
    (bi (Decidable.decide
  (nth 0 (nth [] q18 x20.toNat) 0 > 10000000000000))
    (bi (Decidable.decide
  (nth 0 (nth [] q18 x20.toNat) 0 > 10000000000000))
    (bi (Decidable.decide
  (nth 0 (nth [] q18 x20.toNat) 0 > 10000000000000))
    (some (Sum.inr 3))
    none)
    none)
    none)
    none)
    (bi (Decidable.decide
  (nth 0 (nth [] q18 x20.toNat) 0 > 10000000000000))
    (bi (Decidable.decide
  (nth 0 (nth [] q18 x20.toNat) 0 > 10000000000000))
    (bi (Decidable.decide
  (nth 0 (nth [] q18 x20.toNat) 0 > 10000000000000))
    (bi (Decidable.decide
  (nth 0 (nth [] q18 x20.toNat) 0 > 10000000000000))
    (some (Sum.inr 3))
    none)
    none)
    none)
    (bi (Decidable.decide
  (nth 0 (nth [] q18 x20.toNat) 0 > 10000000000000))
    (bi (Decidable.decide
  (nth 0 (nth [] q18 x20.toNat) 0 > 10000000000000))
    (bi (Decidable.decide
  (nth 0 (nth [] q18 x20.toNat) 0 > 10000000000000))
    (some (Sum.inr 3))
    none)
    none)
    ((prod_within K
  (nth 0 (nth [] q18 x20.toNat) 1) 1000000000).bind fun r26 => (bi (Decidable.decide
  (nth 0 (nth [] q18 x20.toNat) 0 > 10000000000000))
    (bi (Decidable.decide
  (nth 0 (nth [] q18 x20.toNat) 0 > 10000000000000))
    (some (Sum.inr 3))
    none)
    (bi (Decidable.decide
  (nth 0 (nth [] q18 x20.toNat) 0 > 10000000000000))
    (some (Sum.inr 3))
    (bi (!r26)
    (some (Sum.inr 3))
    (prod_Tiers_l6 K k (q0) (q18) (x19) (Go.IntKind.i64.wrap (x20 + 1)))))))))))))))
    (bi (Decidable.decide (x20 > 0))
    none
    (bi (Decidable.decide (x20 > 0))
    none
    (bi (Decidable.decide (x20 > 0))
    none
    (bi (Decidable.decide (x20 > 0))
    none
    (bi (Decidable.decide (x20 > 0))
    none
    (bi (Decidable.decide
  (nth 0 (nth [] q18 x20.toNat) 0 > 10000000000000))
    (bi (Decidable.decide
  (nth 0 (nth [] q18 x20.toNat) 0 > 10000000000000))
    (bi (Decidable.decide
  (nth 0 (nth [] q18 x20.toNat) 0 > 10000000000000))
    (bi (Decidable.decide
  (nth 0 (nth [] q18 x20.toNat) 0 > 10000000000000))
    (bi (Decidable.decide
  (nth 0 (nth [] q18 x20.toNat) 0 > 10000000000000))
    (some (Sum.inr 3))
    none)
    none)
    none)
    none)
    (bi (Decidable.decide
  (nth 0 (nth [] q18 x20.toNat) 0 > 10000000000000))
    (bi (Decidable.decide
  (nth 0 (nth [] q18 x20.toNat) 0 > 10000000000000))
    (bi (Decidable.decide
  (nth 0 (nth [] q18 x20.toNat) 0 > 10000000000000))
    (bi (Decidable.decide
  (nth 0 (nth [] q18 x20.toNat) 0 > 10000000000000))
    (some (Sum.inr 3))
    none)
    none)
    none)
    (bi (Decidable.decide
  (nth 0 (nth [] q18 x20.toNat) 0 > 10000000000000))
    (bi (Decidable.decide
  (nth 0 (nth [] q18 x20.toNat) 0 > 10000000000000))
    (bi (Decidable.decide
  (nth 0 (nth [] q18 x20.toNat) 0 > 10000000000000))
    (some (Sum.inr 3))
    none)
    none)
    ((prod_within K
  (nth 0 (nth [] q18 x20.toNat) 1) 1000000000).bind fun r27 => (bi (Decidable.decide
  (nth 0 (nth [] q18 x20.toNat) 0 > 10000000000000))
    (bi (Decidable.decide
  (nth 0 (nth [] q18 x20.toNat) 0 > 10000000000000))
    (some (Sum.inr 3))
    none)
    (bi (Decidable.decide
  (nth 0 (nth [] q18 x20.toNat) 0 > 10000000000000))
    (some (Sum.inr 3))
    (bi (!r27)
    (some (Sum.inr 3))
    (prod_Tiers_l6 K k (q0) (q18) (x19) (Go.IntKind.i64.wrap (x20 + 1))))))))))))))))
    (bi (Decidable.decide (x20 > 0))
    none
    (bi (Decidable.decide (x20 > 0))
    none
    (bi (Decidable.decide (x20 > 0))
    none
    (bi (Decidable.decide (x20 > 0))
    none
    (bi (Decidable.decide (x20 > 0))
    none
    (bi (Decidable.decide (x20 > 0))
    none
    (bi (Decidable.decide
  (nth 0 (nth [] q18 x20.toNat) 0 > 10000000000000))
    (bi (Decidable.decide
  (nth 0 (nth [] q18 x20.toNat) 0 > 10000000000000))
    (bi (Decidable.decide
  (nth 0 (nth [] q18 x20.toNat) 0 > 10000000000000))
    (bi (Decidable.decide
  (nth 0 (nth [] q18 x20.toNat) 0 > 10000000000000))
    (bi (Decidable.decide
  (nth 0 (nth [] q18 x20.toNat) 0 > 10000000000000))
    (some (Sum.inr 3))
    none)
    none)
    none)
    none)
    (bi (Decidable.decide
  (nth 0 (nth [] q18 x20.toNat) 0 > 10000000000000))
    (bi (Decidable.decide
  (nth 0 (nth [] q18 x20.toNat) 0 > 10000000000000))
    (bi (Decidable.decide
  (nth 0 (nth [] q18 x20.toNat) 0 > 10000000000000))
    (bi (Decidable.decide
  (nth 0 (nth [] q18 x20.toNat) 0 > 10000000000000))
    (some (Sum.inr 3))
    none)
    none)
    none)
    (bi (Decidable.decide
  (nth 0 (nth [] q18 x20.toNat) 0 > 10000000000000))
    (bi (Decidable.decide
  (nth 0 (nth [] q18 x20.toNat) 0 > 10000000000000))
    (bi (Decidable.decide
  (nth 0 (nth [] q18 x20.toNat) 0 > 10000000000000))
    (some (Sum.inr 3))
    none)
    none)
    ((prod_within K
  (nth 0 (nth [] q18 x20.toNat) 1) 1000000000).bind fun r28 => (bi (Decidable.decide
  (nth 0 (nth [] q18 x20.toNat) 0 > 10000000000000))
    (bi (Decidable.decide
  (nth 0 (nth [] q18 x20.toNat) 0 > 10000000000000))
    (some (Sum.inr 3))
    none)
    (bi (Decidable.decide
  (nth 0 (nth [] q18 x20.toNat) 0 > 10000000000000))
    (some (Sum.inr 3))
    (bi (!r28)
    (some (Sum.inr 3))
    (prod_Tiers_l6 K k (q0) (q18) (x19) (Go.IntKind.i64.wrap (x20 + 1))))))))))))))))))))
    none)
    (some (Sum.inl ())))
def prod_Tiers_l6_w (K k : Nat) : List U → Option ((Unit) ⊕ (Int)) := fun us => match us with | [.rr q0, .rr q18, .i x19, .i x20] => prod_Tiers_l6 K k q0 q18 x19 x20 | _ => none
theorem prod_Tiers_l6_eq (K k : Nat) (q0 : List (List Int)) (q18 : List (List Int)) (x19 : Int) (x20 : Int) : (round2 Go.Proofs.Try.prog (env_prod_within K) (lenv0) (lp (bodyOf Go.Proofs.Try.f22) 0) prod_Tiers_l6_pre (.exit 0) prod_Tiers_l6_post0 .ret prod_Tiers_l6_post1 prod_Tiers_l6_dec0 prod_Tiers_l6_dec1 (prod_Tiers_l6_w K k) [.rr q0, .rr q18, .i x19, .i x20]).den2 = prod_Tiers_l6 K (k + 1) q0 q18 x19 x20 := by kernel_rfl
def prod_Tiers_l6_s (K : Nat) : Vm.LS := .two prod_Tiers_l6_pre _ _ (.exit 0) prod_Tiers_l6_post0 .ret prod_Tiers_l6_post1 (prod_Tiers_l6_w K K) prod_Tiers_l6_enc0 prod_Tiers_l6_enc1
theorem prod_Tiers_l6_ok (K : Nat) : LoopOk Go.Proofs.Try.prog (lp (bodyOf Go.Proofs.Try.f22) 0) (prod_Tiers_l6_s K) := loop_two hmix (env_prod_within_ok K) (lenv := lenv0) (L := prod_Tiers_l6_w K) (enc := prod_Tiers_l6_enc0) (dec := prod_Tiers_l6_dec0) (enc' := prod_Tiers_l6_enc1) (dec' := prod_Tiers_l6_dec1) (lps_ok (l := []) (by kernel_rfl) trivial) (fun u r h => by unfold prod_Tiers_l6_dec0 at h; split at h; (obtain rfl := Option.some.inj h; rfl); cases h) (fun u r h => by unfold prod_Tiers_l6_dec1 at h; split at h; (obtain rfl := Option.some.inj h; rfl); cases h) (fun us => by unfold prod_Tiers_l6_w; split <;> first | rfl | (simp only [prod_Tiers_l6])) (fun k us r h => by unfold prod_Tiers_l6_w at h; split at h; exact ((den2_eq _).symm.trans (prod_Tiers_l6_eq K k _ _ _ _)).trans h; cases h) K
def prod_Tiers_v6 (K : Nat) : Nat → Option Vm.LS := addL (lenv0) 6 (prod_Tiers_l6_s K)
def prod_Tiers_dec : List U → Option (Int) := fun u => match u with | [.i x0] => some (x0) | _ => none
def prod_Tiers (K : Nat) (q0 : List (List Int)) : Option (Int) := (bi (Decidable.decide ((↑q0.length : Int) > 8))
    (some (2))
    (bi ((↑q0.length : Int) == 0)
    (some (3))
    (bi (Bool.true && Decidable.decide (0 < (↑q0.length : Int)))
    (bi (nth 0 (nth [] q0 0) 0 != 0)
    (some (3))
    (casO (prod_Tiers_l6 K K q0 q0 (↑q0.length : Int) 0) (fun r0 => (some (0))) (fun r1 => (some r1))))
    none)))
theorem prod_Tiers_eq (K : Nat) (q0 : List (List Int)) : (runF Go.Proofs.Try.prog (env_prod_within K) (prod_Tiers_v6 K) Go.Proofs.Try.f22 [.one (.recs [.i64, .i64] false)] [.one (.int .i64)] prod_Tiers_dec [.rr q0]).den2 = prod_Tiers K q0 := by kernel_rfl
def prod_Tiers_w (K : Nat) : List U → Option (Int) := fun us => match us with | [.rr q0] => prod_Tiers K q0 | _ => none
def prod_Tiers_enc : (Int) → List U := fun r => [.i r]
def prod_Tiers_spec (K : Nat) : Vm.Spec := ⟨[.one (.recs [.i64, .i64] false)], [.one (.int .i64)], Int, prod_Tiers_w K, prod_Tiers_enc⟩
theorem prod_Tiers_ok (K : Nat) : FnOk Go.Proofs.Try.prog 22 (prod_Tiers_spec K) := fn_ok' hmix (env_prod_within_ok K) (lenv := prod_Tiers_v6 K) (args := [.one (.recs [.i64, .i64] false)]) (res := [.one (.int .i64)]) (G := prod_Tiers_w K) (enc := prod_Tiers_enc) Go.Proofs.Try.func22 (lps_fn (l := [lp (bodyOf Go.Proofs.Try.f22) 0]) (by kernel_rfl) ⟨⟨6, prod_Tiers_l6_s K, by kernel_rfl, by kernel_rfl, prod_Tiers_l6_ok K⟩, trivial⟩) (dec := prod_Tiers_dec) (fun u r h => by unfold prod_Tiers_dec at h; split at h; (obtain rfl := Option.some.inj h; rfl); cases h) (fun us r h => by unfold prod_Tiers_w at h; split at h; exact ((den2_eq _).symm.trans (prod_Tiers_eq K _)).trans h; cases h)
def env_prod_Tiers (K : Nat) : FuncId → Option Vm.Spec := addS (env_prod_within K) 22 (prod_Tiers_spec K)
theorem env_prod_Tiers_ok (K : Nat) : EnvOk Go.Proofs.Try.prog (env_prod_Tiers K) := addS_ok (env_prod_within_ok K) (.inl ⟨callable Go.Proofs.Try.func22 (by kernel_rfl) (by kernel_rfl), prod_Tiers_ok K⟩)
-- passbook/passbookref12.Tiers
def ref12_Tiers_l5_pre : Vm.Pat := ⟨50, [(0, .pv (.one (.recs [.i64, .i64] false))), (3, .pv (.one (.int .i64))), (9, .pv (.one (.recs [.i64, .i64] false))), (10, .pv (.one (.int .i64))), (11, .pv (.one (.int .i64)))], []⟩
def ref12_Tiers_l5_post0 : Vm.Pat := ⟨50, [(0, .pv (.one (.recs [.i64, .i64] false)))], []⟩
def ref12_Tiers_l5_enc0 : List (List Int) → List U := fun r => [.rr r]
def ref12_Tiers_l5_dec0 : List U → Option (List (List Int)) := fun u => match u with | [.rr q0] => some (q0) | _ => none
def ref12_Tiers_l5_post1 : Vm.Pat := ⟨50, [(2, .pv (.one (.int .i64)))], []⟩
def ref12_Tiers_l5_enc1 : Int → List U := fun r => [.i r]
def ref12_Tiers_l5_dec1 : List U → Option (Int) := fun u => match u with | [.i x2] => some (x2) | _ => none
def ref12_Tiers_l5 (K : Nat) : Nat → List (List Int) → Int → List (List Int) → Int → Int → Option ((List (List Int)) ⊕ (Int))
  | 0, _, _, _, _, _ => none
  | k + 1, q0, x3, q9, x10, x11 => (bi (Decidable.decide (x11 < x10))
    (bi (Decidable.decide (0 ≤ x11) && Decidable.decide (x11 < (↑q9.length : Int)))
    (bi (x11 == 0)
    (bi (nth 0 (nth [] q9 x11.toNat) 0 != 0)
    (some (Sum.inr 3))
    (bi (Decidable.decide (nth 0 (nth [] q9 x11.toNat) 0 ≤ x3))
    (some (Sum.inr 3))
    (bi (Decidable.decide
  (nth 0 (nth [] q9 x11.toNat) 0 > 10000000000000))
    (some (Sum.inr 3))
    (bi (Decidable.decide (nth 0 (nth [] q9 x11.toNat) 1 < 0))
    (some (Sum.inr 3))
    (bi (Decidable.decide
  (nth 0 (nth [] q9 x11.toNat) 1 > 1000000000))
    (some (Sum.inr 3))
    (ref12_Tiers_l5 K k (q0) (nth 0 (nth [] q9 x11.toNat) 0) (q9) (x10) (Go.IntKind.i64.wrap (x11 + 1))))))))
    (bi (Decidable.decide (nth 0 (nth [] q9 x11.toNat) 0 ≤ x3))
    (some (Sum.inr 3))
    (bi (Decidable.decide
  (nth 0 (nth [] q9 x11.toNat) 0 > 10000000000000))
    (some (Sum.inr 3))
    (bi (Decidable.decide (nth 0 (nth [] q9 x11.toNat) 1 < 0))
    (some (Sum.inr 3))
    (bi (Decidable.decide
  (nth 0 (nth [] q9 x11.toNat) 1 > 1000000000))
    (some (Sum.inr 3))
    (ref12_Tiers_l5 K k (q0) (nth 0 (nth [] q9 x11.toNat) 0) (q9) (x10) (Go.IntKind.i64.wrap (x11 + 1))))))))
    none)
    (some (Sum.inl q0)))
def ref12_Tiers_l5_w (K k : Nat) : List U → Option ((List (List Int)) ⊕ (Int)) := fun us => match us with | [.rr q0, .i x3, .rr q9, .i x10, .i x11] => ref12_Tiers_l5 K k q0 x3 q9 x10 x11 | _ => none
theorem ref12_Tiers_l5_eq (K k : Nat) (q0 : List (List Int)) (x3 : Int) (q9 : List (List Int)) (x10 : Int) (x11 : Int) : (round2 Go.Proofs.Try.prog (env_prod_Tiers K) (lenv0) (lp (bodyOf Go.Proofs.Try.f32) 0) ref12_Tiers_l5_pre (.exit 0) ref12_Tiers_l5_post0 .ret ref12_Tiers_l5_post1 ref12_Tiers_l5_dec0 ref12_Tiers_l5_dec1 (ref12_Tiers_l5_w K k) [.rr q0, .i x3, .rr q9, .i x10, .i x11]).den2 = ref12_Tiers_l5 K (k + 1) q0 x3 q9 x10 x11 := by kernel_rfl
def ref12_Tiers_l5_s (K : Nat) : Vm.LS := .two ref12_Tiers_l5_pre _ _ (.exit 0) ref12_Tiers_l5_post0 .ret ref12_Tiers_l5_post1 (ref12_Tiers_l5_w K K) ref12_Tiers_l5_enc0 ref12_Tiers_l5_enc1
theorem ref12_Tiers_l5_ok (K : Nat) : LoopOk Go.Proofs.Try.prog (lp (bodyOf Go.Proofs.Try.f32) 0) (ref12_Tiers_l5_s K) := loop_two hmix (env_prod_Tiers_ok K) (lenv := lenv0) (L := ref12_Tiers_l5_w K) (enc := ref12_Tiers_l5_enc0) (dec := ref12_Tiers_l5_dec0) (enc' := ref12_Tiers_l5_enc1) (dec' := ref12_Tiers_l5_dec1) (lps_ok (l := []) (by kernel_rfl) trivial) (fun u r h => by unfold ref12_Tiers_l5_dec0 at h; split at h; (obtain rfl := Option.some.inj h; rfl); cases h) (fun u r h => by unfold ref12_Tiers_l5_dec1 at h; split at h; (obtain rfl := Option.some.inj h; rfl); cases h) (fun us => by unfold ref12_Tiers_l5_w; split <;> first | rfl | (simp only [ref12_Tiers_l5])) (fun k us r h => by unfold ref12_Tiers_l5_w at h; split at h; exact ((den2_eq _).symm.trans (ref12_Tiers_l5_eq K k _ _ _ _ _)).trans h; cases h) K
def ref12_Tiers_v5 (K : Nat) : Nat → Option Vm.LS := addL (lenv0) 5 (ref12_Tiers_l5_s K)
def ref12_Tiers_dec : List U → Option (Int) := fun u => match u with | [.i x0] => some (x0) | _ => none
def ref12_Tiers (K : Nat) (q0 : List (List Int)) : Option (Int) := (bi (Decidable.decide ((↑q0.length : Int) > 8))
    (some (2))
    (casO (ref12_Tiers_l5 K K q0 (-1) q0 (↑q0.length : Int) 0) (fun r0 => (bi ((↑r0.length : Int) == 0)
    (some (3))
    (some (0)))) (fun r1 => (some r1))))
theorem ref12_Tiers_eq (K : Nat) (q0 : List (List Int)) : (runF Go.Proofs.Try.prog (env_prod_Tiers K) (ref12_Tiers_v5 K) Go.Proofs.Try.f32 [.one (.recs [.i64, .i64] false)] [.one (.int .i64)] ref12_Tiers_dec [.rr q0]).den2 = ref12_Tiers K q0 := by kernel_rfl
def ref12_Tiers_w (K : Nat) : List U → Option (Int) := fun us => match us with | [.rr q0] => ref12_Tiers K q0 | _ => none
def ref12_Tiers_enc : (Int) → List U := fun r => [.i r]
def ref12_Tiers_spec (K : Nat) : Vm.Spec := ⟨[.one (.recs [.i64, .i64] false)], [.one (.int .i64)], Int, ref12_Tiers_w K, ref12_Tiers_enc⟩
theorem ref12_Tiers_ok (K : Nat) : FnOk Go.Proofs.Try.prog 32 (ref12_Tiers_spec K) := fn_ok' hmix (env_prod_Tiers_ok K) (lenv := ref12_Tiers_v5 K) (args := [.one (.recs [.i64, .i64] false)]) (res := [.one (.int .i64)]) (G := ref12_Tiers_w K) (enc := ref12_Tiers_enc) Go.Proofs.Try.func32 (lps_fn (l := [lp (bodyOf Go.Proofs.Try.f32) 0]) (by kernel_rfl) ⟨⟨5, ref12_Tiers_l5_s K, by kernel_rfl, by kernel_rfl, ref12_Tiers_l5_ok K⟩, trivial⟩) (dec := ref12_Tiers_dec) (fun u r h => by unfold ref12_Tiers_dec at h; split at h; (obtain rfl := Option.some.inj h; rfl); cases h) (fun us r h => by unfold ref12_Tiers_w at h; split at h; exact ((den2_eq _).symm.trans (ref12_Tiers_eq K _)).trans h; cases h)
def env_ref12_Tiers (K : Nat) : FuncId → Option Vm.Spec := addS (env_prod_Tiers K) 32 (ref12_Tiers_spec K)
theorem env_ref12_Tiers_ok (K : Nat) : EnvOk Go.Proofs.Try.prog (env_ref12_Tiers K) := addS_ok (env_prod_Tiers_ok K) (.inl ⟨callable Go.Proofs.Try.func32 (by kernel_rfl) (by kernel_rfl), ref12_Tiers_ok K⟩)
-- passbook/passbookref01.SameInts
def ref01_SameInts_l4_pre : Vm.Pat := ⟨26, [(0, .pv (.one (.row .i64 false))), (1, .pv (.one (.row .i64 false))), (12, .pv (.one (.int .i64))), (13, .pv (.one (.int .i64)))], []⟩
def ref01_SameInts_l4_post0 : Vm.Pat := ⟨26, [], []⟩
def ref01_SameInts_l4_enc0 : Unit → List U := fun _ => []
def ref01_SameInts_l4_dec0 : List U → Option (Unit) := fun u => match u with | [] => some () | _ => none
def ref01_SameInts_l4_post1 : Vm.Pat := ⟨26, [(4, .pv (.one (.bool)))], []⟩
def ref01_SameInts_l4_enc1 : Bool → List U := fun r => [.b r]
def ref01_SameInts_l4_dec1 : List U → Option (Bool) := fun u => match u with | [.b c4] => some (c4) | _ => none
def ref01_SameInts_l4 (K : Nat) : Nat → List Int → List Int → Int → Int → Option ((Unit) ⊕ (Bool))
  | 0, _, _, _, _ => none
  | k + 1, l0, l1, x12, x13 => (bi (Decidable.decide (x13 < x12))
    (bi (Decidable.decide (0 ≤ x13) && Decidable.decide (x13 < (↑l0.length : Int)))
    (bi (Decidable.decide (0 ≤ x13) && Decidable.decide (x13 < (↑l1.length : Int)))
    (bi (nth 0 l0 x13.toNat != nth 0 l1 x13.toNat)
    (some (Sum.inr Bool.false))
    (ref01_SameInts_l4 K k (l0) (l1) (x12) (Go.IntKind.i64.wrap (x13 + 1))))
    none)
    none)
    (some (Sum.inl ())))
def ref01_SameInts_l4_w (K k : Nat) : List U → Option ((Unit) ⊕ (Bool)) := fun us => match us with | [.r l0, .r l1, .i x12, .i x13] => ref01_SameInts_l4 K k l0 l1 x12 x13 | _ => none
theorem ref01_SameInts_l4_eq (K k : Nat) (l0 : List Int) (l1 : List Int) (x12 : Int) (x13 : Int) : (round2 Go.Proofs.Try.prog (env_ref12_Tiers K) (lenv0) (lp (bodyOf Go.Proofs.Try.f15) 0) ref01_SameInts_l4_pre (.exit 0) ref01_SameInts_l4_post0 .ret ref01_SameInts_l4_post1 ref01_SameInts_l4_dec0 ref01_SameInts_l4_dec1 (ref01_SameInts_l4_w K k) [.r l0, .r l1, .i x12, .i x13]).den2 = ref01_SameInts_l4 K (k + 1) l0 l1 x12 x13 := by kernel_rfl
def ref01_SameInts_l4_s (K : Nat) : Vm.LS := .two ref01_SameInts_l4_pre _ _ (.exit 0) ref01_SameInts_l4_post0 .ret ref01_SameInts_l4_post1 (ref01_SameInts_l4_w K K) ref01_SameInts_l4_enc0 ref01_SameInts_l4_enc1
theorem ref01_SameInts_l4_ok (K : Nat) : LoopOk Go.Proofs.Try.prog (lp (bodyOf Go.Proofs.Try.f15) 0) (ref01_SameInts_l4_s K) := loop_two hmix (env_ref12_Tiers_ok K) (lenv := lenv0) (L := ref01_SameInts_l4_w K) (enc := ref01_SameInts_l4_enc0) (dec := ref01_SameInts_l4_dec0) (enc' := ref01_SameInts_l4_enc1) (dec' := ref01_SameInts_l4_dec1) (lps_ok (l := []) (by kernel_rfl) trivial) (fun u r h => by unfold ref01_SameInts_l4_dec0 at h; split at h; (obtain rfl := Option.some.inj h; rfl); cases h) (fun u r h => by unfold ref01_SameInts_l4_dec1 at h; split at h; (obtain rfl := Option.some.inj h; rfl); cases h) (fun us => by unfold ref01_SameInts_l4_w; split <;> first | rfl | (simp only [ref01_SameInts_l4])) (fun k us r h => by unfold ref01_SameInts_l4_w at h; split at h; exact ((den2_eq _).symm.trans (ref01_SameInts_l4_eq K k _ _ _ _)).trans h; cases h) K
def ref01_SameInts_v4 (K : Nat) : Nat → Option Vm.LS := addL (lenv0) 4 (ref01_SameInts_l4_s K)
def ref01_SameInts_dec : List U → Option (Bool) := fun u => match u with | [.b c0] => some (c0) | _ => none
def ref01_SameInts (K : Nat) (l0 : List Int) (l1 : List Int) : Option (Bool) := (bi ((↑l0.length : Int) != (↑l1.length : Int))
    (some Bool.false)
    (casO (ref01_SameInts_l4 K K l0 l1 (↑l0.length : Int) 0) (fun r0 => (some Bool.true)) (fun r1 => (some r1))))
theorem ref01_SameInts_eq (K : Nat) (l0 : List Int) (l1 : List Int) : (runF Go.Proofs.Try.prog (env_ref12_Tiers K) (ref01_SameInts_v4 K) Go.Proofs.Try.f15 [.one (.row .i64 false), .one (.row .i64 false)] [.one (.bool)] ref01_SameInts_dec [.r l0, .r l1]).den2 = ref01_SameInts K l0 l1 := by kernel_rfl
def ref01_SameInts_w (K : Nat) : List U → Option (Bool) := fun us => match us with | [.r l0, .r l1] => ref01_SameInts K l0 l1 | _ => none
def ref01_SameInts_enc : (Bool) → List U := fun r => [.b r]
def ref01_SameInts_spec (K : Nat) : Vm.Spec := ⟨[.one (.row .i64 false), .one (.row .i64 false)], [.one (.bool)], Bool, ref01_SameInts_w K, ref01_SameInts_enc⟩
theorem ref01_SameInts_ok (K : Nat) : FnOk Go.Proofs.Try.prog 15 (ref01_SameInts_spec K) := fn_ok' hmix (env_ref12_Tiers_ok K) (lenv := ref01_SameInts_v4 K) (args := [.one (.row .i64 false), .one (.row .i64 false)]) (res := [.one (.bool)]) (G := ref01_SameInts_w K) (enc := ref01_SameInts_enc) Go.Proofs.Try.func15 (lps_fn (l := [lp (bodyOf Go.Proofs.Try.f15) 0]) (by kernel_rfl) ⟨⟨4, ref01_SameInts_l4_s K, by kernel_rfl, by kernel_rfl, ref01_SameInts_l4_ok K⟩, trivial⟩) (dec := ref01_SameInts_dec) (fun u r h => by unfold ref01_SameInts_dec at h; split at h; (obtain rfl := Option.some.inj h; rfl); cases h) (fun us r h => by unfold ref01_SameInts_w at h; split at h; exact ((den2_eq _).symm.trans (ref01_SameInts_eq K _ _)).trans h; cases h)
def env_ref01_SameInts (K : Nat) : FuncId → Option Vm.Spec := addS (env_ref12_Tiers K) 15 (ref01_SameInts_spec K)
theorem env_ref01_SameInts_ok (K : Nat) : EnvOk Go.Proofs.Try.prog (env_ref01_SameInts K) := addS_ok (env_ref12_Tiers_ok K) (.inl ⟨callable Go.Proofs.Try.func15 (by kernel_rfl) (by kernel_rfl), ref01_SameInts_ok K⟩)
-- passbook/accrue.amount
def accrue_amount_dec : List U → Option (Bool) := fun u => match u with | [.b c0] => some (c0) | _ => none
def accrue_amount (K : Nat) (x0 : Int) : Option (Bool) := (bi (Decidable.decide (x0 ≥ 0))
    (some (Decidable.decide (x0 ≤ 10000000000000)))
    (some Bool.false))
theorem accrue_amount_eq (K : Nat) (x0 : Int) : (runF Go.Proofs.Try.prog (env_ref01_SameInts K) (lenv0) Go.Proofs.Try.f21 [.one (.int .i64)] [.one (.bool)] accrue_amount_dec [.i x0]).den2 = accrue_amount K x0 := by kernel_rfl
def accrue_amount_w (K : Nat) : List U → Option (Bool) := fun us => match us with | [.i x0] => accrue_amount K x0 | _ => none
def accrue_amount_enc : (Bool) → List U := fun r => [.b r]
def accrue_amount_spec (K : Nat) : Vm.Spec := ⟨[.one (.int .i64)], [.one (.bool)], Bool, accrue_amount_w K, accrue_amount_enc⟩
theorem accrue_amount_ok (K : Nat) : FnOk Go.Proofs.Try.prog 21 (accrue_amount_spec K) := fn_ok' hmix (env_ref01_SameInts_ok K) (lenv := lenv0) (args := [.one (.int .i64)]) (res := [.one (.bool)]) (G := accrue_amount_w K) (enc := accrue_amount_enc) Go.Proofs.Try.func21 (lps_fn (l := []) (by kernel_rfl) trivial) (dec := accrue_amount_dec) (fun u r h => by unfold accrue_amount_dec at h; split at h; (obtain rfl := Option.some.inj h; rfl); cases h) (fun us r h => by unfold accrue_amount_w at h; split at h; exact ((den2_eq _).symm.trans (accrue_amount_eq K _)).trans h; cases h)
def env_accrue_amount (K : Nat) : FuncId → Option Vm.Spec := addS (env_ref01_SameInts K) 21 (accrue_amount_spec K)
theorem env_accrue_amount_ok (K : Nat) : EnvOk Go.Proofs.Try.prog (env_accrue_amount K) := addS_ok (env_ref01_SameInts_ok K) (.inl ⟨callable Go.Proofs.Try.func21 (by kernel_rfl) (by kernel_rfl), accrue_amount_ok K⟩)
-- passbook/accrue.parts
def accrue_parts_l3_pre : Vm.Pat := ⟨40, [(0, .pv (.one (.int .i64))), (1, .pv (.one (.recs [.i64, .i64] false))), (5, .pv (.one (.row .i64 true))), (6, .pv (.one (.int .i64)))], []⟩
def accrue_parts_l3_post0 : Vm.Pat := ⟨40, [(5, .pv (.one (.row .i64 true)))], []⟩
def accrue_parts_l3_enc0 : List Int → List U := fun r => [.r r]
def accrue_parts_l3_dec0 : List U → Option (List Int) := fun u => match u with | [.r l5] => some (l5) | _ => none
def accrue_parts_l3 (K : Nat) : Nat → Int → List (List Int) → List Int → Int → Option (List Int)
  | 0, _, _, _, _ => none
  | k + 1, x0, q1, l5, x6 => (bi (Decidable.decide (x6 ≥ 0))
    (bi (Decidable.decide (0 ≤ x6) && Decidable.decide (x6 < (↑q1.length : Int)))
    (bi (Decidable.decide (x0 > nth 0 (nth [] q1 x6.toNat) 0))
    (bi (Decidable.decide (0 ≤ x6) && Decidable.decide (x6 < (↑q1.length : Int)))
    (bi (Decidable.decide (0 ≤ x6) && Decidable.decide (x6 < (↑l5.length : Int)))
    (bi (Decidable.decide (0 ≤ x6) && Decidable.decide (x6 < (↑q1.length : Int)))
    (accrue_parts_l3 K k (nth 0 (nth [] q1 x6.toNat) 0) (q1) (l5.set x6.toNat
  (Go.IntKind.i64.wrap (x0 - nth 0 (nth [] q1 x6.toNat) 0))) (Go.IntKind.i64.wrap (x6 - 1)))
    none)
    none)
    none)
    (accrue_parts_l3 K k (x0) (q1) (l5) (Go.IntKind.i64.wrap (x6 - 1))))
    none)
    (some l5))
def accrue_parts_l3_w (K k : Nat) : List U → Option (List Int) := fun us => match us with | [.i x0, .rr q1, .r l5, .i x6] => accrue_parts_l3 K k x0 q1 l5 x6 | _ => none
theorem accrue_parts_l3_eq (K k : Nat) (x0 : Int) (q1 : List (List Int)) (l5 : List Int) (x6 : Int) : (round1 Go.Proofs.Try.prog (env_accrue_amount K) (lenv0) (lp (bodyOf Go.Proofs.Try.f24) 0) accrue_parts_l3_pre (.exit 0) accrue_parts_l3_post0 accrue_parts_l3_dec0 (accrue_parts_l3_w K k) [.i x0, .rr q1, .r l5, .i x6]).den2 = accrue_parts_l3 K (k + 1) x0 q1 l5 x6 := by kernel_rfl
def accrue_parts_l3_s (K : Nat) : Vm.LS := .one accrue_parts_l3_pre _ (.exit 0) accrue_parts_l3_post0 (accrue_parts_l3_w K K) accrue_parts_l3_enc0
theorem accrue_parts_l3_ok (K : Nat) : LoopOk Go.Proofs.Try.prog (lp (bodyOf Go.Proofs.Try.f24) 0) (accrue_parts_l3_s K) := loop_one hmix (env_accrue_amount_ok K) (lenv := lenv0) (L := accrue_parts_l3_w K) (enc := accrue_parts_l3_enc0) (dec := accrue_parts_l3_dec0) (lps_ok (l := []) (by kernel_rfl) trivial) (fun u r h => by unfold accrue_parts_l3_dec0 at h; split at h; (obtain rfl := Option.some.inj h; rfl); cases h) (fun us => by unfold accrue_parts_l3_w; split <;> first | rfl | (simp only [accrue_parts_l3])) (fun k us r h => by unfold accrue_parts_l3_w at h; split at h; exact ((den2_eq _).symm.trans (accrue_parts_l3_eq K k _ _ _ _)).trans h; cases h) K
def accrue_parts_v3 (K : Nat) : Nat → Option Vm.LS := addL (lenv0) 3 (accrue_parts_l3_s K)
def accrue_parts_dec : List U → Option (List Int) := fun u => match u with | [.r l0] => some (l0) | _ => none
def accrue_parts (K : Nat) (x0 : Int) (q1 : List (List Int)) : Option (List Int) := (bi (Decidable.decide (0 ≤ (↑q1.length : Int)) && Decidable.decide ((↑q1.length : Int) ≤ (↑q1.length : Int)) &&
  Decidable.decide ((↑q1.length : Int) ≤ 8796093022208))
    ((accrue_parts_l3 K K x0 q1 (List.replicate (↑q1.length : Int).toNat 0)
  (Go.IntKind.i64.wrap ((↑q1.length : Int) - 1))).bind fun r0 => (some r0))
    none)
theorem accrue_parts_eq (K : Nat) (x0 : Int) (q1 : List (List Int)) : (runF Go.Proofs.Try.prog (env_accrue_amount K) (accrue_parts_v3 K) Go.Proofs.Try.f24 [.one (.int .i64), .one (.recs [.i64, .i64] false)] [.one (.row .i64 false)] accrue_parts_dec [.i x0, .rr q1]).den2 = accrue_parts K x0 q1 := by kernel_rfl
def accrue_parts_w (K : Nat) : List U → Option (List Int) := fun us => match us with | [.i x0, .rr q1] => accrue_parts K x0 q1 | _ => none
def accrue_parts_enc : (List Int) → List U := fun r => [.r r]
def accrue_parts_spec (K : Nat) : Vm.Spec := ⟨[.one (.int .i64), .one (.recs [.i64, .i64] false)], [.one (.row .i64 false)], List Int, accrue_parts_w K, accrue_parts_enc⟩
theorem accrue_parts_ok (K : Nat) : FnOk Go.Proofs.Try.prog 24 (accrue_parts_spec K) := fn_ok' hmix (env_accrue_amount_ok K) (lenv := accrue_parts_v3 K) (args := [.one (.int .i64), .one (.recs [.i64, .i64] false)]) (res := [.one (.row .i64 false)]) (G := accrue_parts_w K) (enc := accrue_parts_enc) Go.Proofs.Try.func24 (lps_fn (l := [lp (bodyOf Go.Proofs.Try.f24) 0]) (by kernel_rfl) ⟨⟨3, accrue_parts_l3_s K, by kernel_rfl, by kernel_rfl, accrue_parts_l3_ok K⟩, trivial⟩) (dec := accrue_parts_dec) (fun u r h => by unfold accrue_parts_dec at h; split at h; (obtain rfl := Option.some.inj h; rfl); cases h) (fun us r h => by unfold accrue_parts_w at h; split at h; exact ((den2_eq _).symm.trans (accrue_parts_eq K _ _)).trans h; cases h)
def env_accrue_parts (K : Nat) : FuncId → Option Vm.Spec := addS (env_accrue_amount K) 24 (accrue_parts_spec K)
theorem env_accrue_parts_ok (K : Nat) : EnvOk Go.Proofs.Try.prog (env_accrue_parts K) := addS_ok (env_accrue_amount_ok K) (.inl ⟨callable Go.Proofs.Try.func24 (by kernel_rfl) (by kernel_rfl), accrue_parts_ok K⟩)
-- passbook/accrue.Parts
def accrue_Parts_dec : List U → Option (List Int × Int) := fun u => match u with | [.r l0, .i x1] => some (l0, x1) | _ => none
def accrue_Parts (K : Nat) (x0 : Int) (q1 : List (List Int)) : Option (List Int × Int) := ((accrue_amount K x0).bind fun r0 => (bi (!r0)
    (some (([], 1)))
    ((prod_Tiers K q1).bind fun r1 => (bi (r1 != 0)
    (some (([], r1)))
    ((accrue_parts K x0 q1).bind fun r2 => (some ((r2, 0))))))))
theorem accrue_Parts_eq (K : Nat) (x0 : Int) (q1 : List (List Int)) : (runF Go.Proofs.Try.prog (env_accrue_parts K) (lenv0) Go.Proofs.Try.f13 [.one (.int .i64), .one (.recs [.i64, .i64] false)] [.one (.row .i64 false), .one (.int .i64)] accrue_Parts_dec [.i x0, .rr q1]).den2 = accrue_Parts K x0 q1 := by kernel_rfl
def accrue_Parts_w (K : Nat) : List U → Option (List Int × Int) := fun us => match us with | [.i x0, .rr q1] => accrue_Parts K x0 q1 | _ => none
def accrue_Parts_enc : (List Int × Int) → List U := fun r => [.r r.1, .i r.2]
def accrue_Parts_spec (K : Nat) : Vm.Spec := ⟨[.one (.int .i64), .one (.recs [.i64, .i64] false)], [.one (.row .i64 false), .one (.int .i64)], List Int × Int, accrue_Parts_w K, accrue_Parts_enc⟩
theorem accrue_Parts_ok (K : Nat) : FnOk Go.Proofs.Try.prog 13 (accrue_Parts_spec K) := fn_ok' hmix (env_accrue_parts_ok K) (lenv := lenv0) (args := [.one (.int .i64), .one (.recs [.i64, .i64] false)]) (res := [.one (.row .i64 false), .one (.int .i64)]) (G := accrue_Parts_w K) (enc := accrue_Parts_enc) Go.Proofs.Try.func13 (lps_fn (l := []) (by kernel_rfl) trivial) (dec := accrue_Parts_dec) (fun u r h => by unfold accrue_Parts_dec at h; split at h; (obtain rfl := Option.some.inj h; rfl); cases h) (fun us r h => by unfold accrue_Parts_w at h; split at h; exact ((den2_eq _).symm.trans (accrue_Parts_eq K _ _)).trans h; cases h)
def env_accrue_Parts (K : Nat) : FuncId → Option Vm.Spec := addS (env_accrue_parts K) 13 (accrue_Parts_spec K)
theorem env_accrue_Parts_ok (K : Nat) : EnvOk Go.Proofs.Try.prog (env_accrue_Parts K) := addS_ok (env_accrue_parts_ok K) (.inl ⟨callable Go.Proofs.Try.func13 (by kernel_rfl) (by kernel_rfl), accrue_Parts_ok K⟩)
-- passbook/accrue.of
def accrue_of_dec : List U → Option (Int × Int × Int) := fun u => match u with | [.i x0_0, .i x0_1, .i x0_2] => some (x0_0, x0_1, x0_2) | _ => none
def accrue_of (K : Nat) (x0 : Int) : Option (Int × Int × Int) := ((dec_Of K x0 0).bind fun r0 => (some ((r0.fst, r0.snd.fst, r0.snd.snd.fst))))
theorem accrue_of_eq (K : Nat) (x0 : Int) : (runF Go.Proofs.Try.prog (env_accrue_Parts K) (lenv0) Go.Proofs.Try.f23 [.one (.int .i64)] [.agg [.int .i64, .int .u64, .int .i64]] accrue_of_dec [.i x0]).den2 = accrue_of K x0 := by kernel_rfl
def accrue_of_w (K : Nat) : List U → Option (Int × Int × Int) := fun us => match us with | [.i x0] => accrue_of K x0 | _ => none
def accrue_of_enc : (Int × Int × Int) → List U := fun r => [.i r.1, .i r.2.1, .i r.2.2]
def accrue_of_spec (K : Nat) : Vm.Spec := ⟨[.one (.int .i64)], [.agg [.int .i64, .int .u64, .int .i64]], Int × Int × Int, accrue_of_w K, accrue_of_enc⟩
theorem accrue_of_ok (K : Nat) : FnOk Go.Proofs.Try.prog 23 (accrue_of_spec K) := fn_ok' hmix (env_accrue_Parts_ok K) (lenv := lenv0) (args := [.one (.int .i64)]) (res := [.agg [.int .i64, .int .u64, .int .i64]]) (G := accrue_of_w K) (enc := accrue_of_enc) Go.Proofs.Try.func23 (lps_fn (l := []) (by kernel_rfl) trivial) (dec := accrue_of_dec) (fun u r h => by unfold accrue_of_dec at h; split at h; (obtain rfl := Option.some.inj h; rfl); cases h) (fun us r h => by unfold accrue_of_w at h; split at h; exact ((den2_eq _).symm.trans (accrue_of_eq K _)).trans h; cases h)
def env_accrue_of (K : Nat) : FuncId → Option Vm.Spec := addS (env_accrue_Parts K) 23 (accrue_of_spec K)
theorem env_accrue_of_ok (K : Nat) : EnvOk Go.Proofs.Try.prog (env_accrue_of K) := addS_ok (env_accrue_Parts_ok K) (.inl ⟨callable Go.Proofs.Try.func23 (by kernel_rfl) (by kernel_rfl), accrue_of_ok K⟩)
-- passbook/accrue.times
def accrue_times_dec : List U → Option (Int × Int × Int) := fun u => match u with | [.i x0_0, .i x0_1, .i x0_2] => some (x0_0, x0_1, x0_2) | _ => none
def accrue_times (K : Nat) (x0_0 : Int) (x0_1 : Int) (x0_2 : Int) (x1_0 : Int) (x1_1 : Int) (x1_2 : Int) : Option (Int × Int × Int) := ((dec_Mul K x0_0 x0_1 x0_2 x1_0 x1_1 x1_2 0 0).bind fun r0 => (some ((r0.fst, r0.snd.fst, r0.snd.snd.fst))))
theorem accrue_times_eq (K : Nat) (x0_0 : Int) (x0_1 : Int) (x0_2 : Int) (x1_0 : Int) (x1_1 : Int) (x1_2 : Int) : (runF Go.Proofs.Try.prog (env_accrue_of K) (lenv0) Go.Proofs.Try.f26 [.agg [.int .i64, .int .u64, .int .i64], .agg [.int .i64, .int .u64, .int .i64]] [.agg [.int .i64, .int .u64, .int .i64]] accrue_times_dec [.i x0_0, .i x0_1, .i x0_2, .i x1_0, .i x1_1, .i x1_2]).den2 = accrue_times K x0_0 x0_1 x0_2 x1_0 x1_1 x1_2 := by kernel_rfl
def accrue_times_w (K : Nat) : List U → Option (Int × Int × Int) := fun us => match us with | [.i x0_0, .i x0_1, .i x0_2, .i x1_0, .i x1_1, .i x1_2] => accrue_times K x0_0 x0_1 x0_2 x1_0 x1_1 x1_2 | _ => none
def accrue_times_enc : (Int × Int × Int) → List U := fun r => [.i r.1, .i r.2.1, .i r.2.2]
def accrue_times_spec (K : Nat) : Vm.Spec := ⟨[.agg [.int .i64, .int .u64, .int .i64], .agg [.int .i64, .int .u64, .int .i64]], [.agg [.int .i64, .int .u64, .int .i64]], Int × Int × Int, accrue_times_w K, accrue_times_enc⟩
theorem accrue_times_ok (K : Nat) : FnOk Go.Proofs.Try.prog 26 (accrue_times_spec K) := fn_ok' hmix (env_accrue_of_ok K) (lenv := lenv0) (args := [.agg [.int .i64, .int .u64, .int .i64], .agg [.int .i64, .int .u64, .int .i64]]) (res := [.agg [.int .i64, .int .u64, .int .i64]]) (G := accrue_times_w K) (enc := accrue_times_enc) Go.Proofs.Try.func26 (lps_fn (l := []) (by kernel_rfl) trivial) (dec := accrue_times_dec) (fun u r h => by unfold accrue_times_dec at h; split at h; (obtain rfl := Option.some.inj h; rfl); cases h) (fun us r h => by unfold accrue_times_w at h; split at h; exact ((den2_eq _).symm.trans (accrue_times_eq K _ _ _ _ _ _)).trans h; cases h)
def env_accrue_times (K : Nat) : FuncId → Option Vm.Spec := addS (env_accrue_of K) 26 (accrue_times_spec K)
theorem env_accrue_times_ok (K : Nat) : EnvOk Go.Proofs.Try.prog (env_accrue_times K) := addS_ok (env_accrue_of_ok K) (.inl ⟨callable Go.Proofs.Try.func26 (by kernel_rfl) (by kernel_rfl), accrue_times_ok K⟩)
-- passbook/accrue.Daily
def accrue_Daily_l11_pre : Vm.Pat := ⟨111, [(1, .pv (.one (.recs [.i64, .i64] false))), (3, .pv (.one (.int .i64))), (14, .pv (.one (.int .i64))), (15, .pv (.one (.int .i64))), (63, .pv (.one (.row .i64 false))), (64, .pv (.one (.int .i64))), (65, .pv (.one (.int .i64))), (18, .box 0 0)], [.cells [.int .i64, .int .u64, .int .i64]]⟩
def accrue_Daily_l11_post0 : Vm.Pat := ⟨111, [(3, .pv (.one (.int .i64))), (14, .pv (.one (.int .i64))), (15, .pv (.one (.int .i64))), (18, .box 0 0)], [.cells [.int .i64, .int .u64, .int .i64]]⟩
def accrue_Daily_l11_enc0 : Int × Int × Int × Int × Int × Int → List U := fun r => [.i r.1, .i r.2.1, .i r.2.2.1, .i r.2.2.2.1, .i r.2.2.2.2.1, .i r.2.2.2.2.2]
def accrue_Daily_l11_dec0 : List U → Option (Int × Int × Int × Int × Int × Int) := fun u => match u with | [.i x3, .i x14, .i x15, .i x18_0, .i x18_1, .i x18_2] => some (x3, x14, x15, x18_0, x18_1, x18_2) | _ => none
def accrue_Daily_l11 (K : Nat) : Nat → List (List Int) → Int → Int → Int → List Int → Int → Int → Int → Int → Int → Option (Int × Int × Int × Int × Int × Int)
  | 0, _, _, _, _, _, _, _, _, _, _ => none
  | k + 1, q1, x3, x14, x15, l63, x64, x65, x18_0, x18_1, x18_2 => (bi (Decidable.decide (x65 < x64))
    (bi (Decidable.decide (0 ≤ x65) && Decidable.decide (x65 < (↑l63.length : Int)))
    ((accrue_of K (nth 0 l63 x65.toNat)).bind fun r0 => (bi (Decidable.decide (0 ≤ x65) && Decidable.decide (x65 < (↑q1.length : Int)))
    ((accrue_of K
  (nth 0 (nth [] q1 x65.toNat) 1)).bind fun r1 => ((accrue_times K r0.fst r0.snd.fst r0.snd.snd r1.fst r1.snd.fst r1.snd.snd).bind fun r2 => ((dec_Add K x18_0 x18_1 x18_2 r2.fst r2.snd.fst r2.snd.snd).bind fun r3 => (accrue_Daily_l11 K k (q1) (x3) (x14) (x15) (l63) (x64) (Go.IntKind.i64.wrap (x65 + 1)) (r3.fst) (r3.snd.fst) (r3.snd.snd.fst)))))
    none))
    none)
    (some ((x3, x14, x15, x18_0, x18_1, x18_2))))
def accrue_Daily_l11_w (K k : Nat) : List U → Option (Int × Int × Int × Int × Int × Int) := fun us => match us with | [.rr q1, .i x3, .i x14, .i x15, .r l63, .i x64, .i x65, .i x18_0, .i x18_1, .i x18_2] => accrue_Daily_l11 K k q1 x3 x14 x15 l63 x64 x65 x18_0 x18_1 x18_2 | _ => none
theorem accrue_Daily_l11_eq (K k : Nat) (q1 : List (List Int)) (x3 : Int) (x14 : Int) (x15 : Int) (l63 : List Int) (x64 : Int) (x65 : Int) (x18_0 : Int) (x18_1 : Int) (x18_2 : Int) : (round1 Go.Proofs.Try.prog (env_accrue_times K) (lenv0) (lp (bodyOf Go.Proofs.Try.f11) 0) accrue_Daily_l11_pre (.exit 0) accrue_Daily_l11_post0 accrue_Daily_l11_dec0 (accrue_Daily_l11_w K k) [.rr q1, .i x3, .i x14, .i x15, .r l63, .i x64, .i x65, .i x18_0, .i x18_1, .i x18_2]).den2 = accrue_Daily_l11 K (k + 1) q1 x3 x14 x15 l63 x64 x65 x18_0 x18_1 x18_2 := by kernel_rfl
def accrue_Daily_l11_s (K : Nat) : Vm.LS := .one accrue_Daily_l11_pre _ (.exit 0) accrue_Daily_l11_post0 (accrue_Daily_l11_w K K) accrue_Daily_l11_enc0
theorem accrue_Daily_l11_ok (K : Nat) : LoopOk Go.Proofs.Try.prog (lp (bodyOf Go.Proofs.Try.f11) 0) (accrue_Daily_l11_s K) := loop_one hmix (env_accrue_times_ok K) (lenv := lenv0) (L := accrue_Daily_l11_w K) (enc := accrue_Daily_l11_enc0) (dec := accrue_Daily_l11_dec0) (lps_ok (l := []) (by kernel_rfl) trivial) (fun u r h => by unfold accrue_Daily_l11_dec0 at h; split at h; (obtain rfl := Option.some.inj h; rfl); cases h) (fun us => by unfold accrue_Daily_l11_w; split <;> first | rfl | (simp only [accrue_Daily_l11])) (fun k us r h => by unfold accrue_Daily_l11_w at h; split at h; exact ((den2_eq _).symm.trans (accrue_Daily_l11_eq K k _ _ _ _ _ _ _ _ _ _)).trans h; cases h) K
def accrue_Daily_v11 (K : Nat) : Nat → Option Vm.LS := addL (lenv0) 11 (accrue_Daily_l11_s K)
def accrue_Daily_dec : List U → Option (Int × Int) := fun u => match u with | [.i x0, .i x1] => some (x0, x1) | _ => none
def accrue_Daily (K : Nat) (x0 : Int) (q1 : List (List Int)) (x2 : Int) (x3 : Int) (x4 : Int) (x5 : Int) : Option (Int × Int) := ((basis_Part K x2 x4 x5).bind fun r0 => ((accrue_amount K x0).bind fun r1 => (bi (!r1)
    ((prod_Tiers K q1).bind fun r2 => (bi (r2 != 0)
    (bi (Decidable.decide (r2 < 1))
    (bi (r2 != 0)
    (some ((0, r2)))
    ((accrue_of K 0).bind fun r3 => ((accrue_parts K x0 q1).bind fun r4 => ((accrue_Daily_l11 K K q1 x3 r0.fst r0.snd.fst r4 (↑(List.length r4) : Int) 0 r3.fst
  r3.snd.fst r3.snd.snd).bind fun r5 => ((accrue_of K r5.snd.fst).bind fun r6 => ((accrue_times K r5.snd.snd.snd.fst r5.snd.snd.snd.snd.fst r5.snd.snd.snd.snd.snd r6.fst
  r6.snd.fst r6.snd.snd).bind fun r7 => ((accrue_of K (Go.IntKind.i64.wrap (1000 * r5.snd.snd.fst))).bind fun r8 => ((dec_Quo K r7.fst r7.snd.fst r7.snd.snd r8.fst r8.snd.fst r8.snd.snd 0 r5.fst).bind fun r9 => (bi (r9.snd.snd.snd != 0)
    (some ((0, 4)))
    ((accrue_of K 4000000000000000000).bind fun r10 => ((dec_Cmp K r9.fst r9.snd.fst r9.snd.snd.fst r10.fst r10.snd.fst r10.snd.snd).bind fun r11 => (bi (Decidable.decide (r11.fst > 0))
    (some ((0, 4)))
    ((dec_Int K r9.fst r9.snd.fst r9.snd.snd.fst).bind fun r12 => (some ((r12.fst, r12.snd))))))))))))))))
    (some ((0, 1))))
    (some ((0, 1)))))
    (bi (Decidable.decide (x3 < 0))
    ((prod_Tiers K q1).bind fun r13 => (bi (r13 != 0)
    (bi (Decidable.decide (r13 < 1))
    (bi (r13 != 0)
    (some ((0, r13)))
    ((accrue_of K 0).bind fun r14 => ((accrue_parts K x0 q1).bind fun r15 => ((accrue_Daily_l11 K K q1 x3 r0.fst r0.snd.fst r15 (↑(List.length r15) : Int) 0 r14.fst
  r14.snd.fst r14.snd.snd).bind fun r16 => ((accrue_of K r16.snd.fst).bind fun r17 => ((accrue_times K r16.snd.snd.snd.fst r16.snd.snd.snd.snd.fst r16.snd.snd.snd.snd.snd r17.fst
  r17.snd.fst r17.snd.snd).bind fun r18 => ((accrue_of K (Go.IntKind.i64.wrap (1000 * r16.snd.snd.fst))).bind fun r19 => ((dec_Quo K r18.fst r18.snd.fst r18.snd.snd r19.fst r19.snd.fst r19.snd.snd 0 r16.fst).bind fun r20 => (bi (r20.snd.snd.snd != 0)
    (some ((0, 4)))
    ((accrue_of K 4000000000000000000).bind fun r21 => ((dec_Cmp K r20.fst r20.snd.fst r20.snd.snd.fst r21.fst r21.snd.fst r21.snd.snd).bind fun r22 => (bi (Decidable.decide (r22.fst > 0))
    (some ((0, 4)))
    ((dec_Int K r20.fst r20.snd.fst r20.snd.snd.fst).bind fun r23 => (some ((r23.fst, r23.snd))))))))))))))))
    (some ((0, 1))))
    (some ((0, 1)))))
    (bi (Decidable.decide (x3 > 6))
    ((prod_Tiers K q1).bind fun r24 => (bi (r24 != 0)
    (bi (Decidable.decide (r24 < 1))
    (bi (r24 != 0)
    (some ((0, r24)))
    ((accrue_of K 0).bind fun r25 => ((accrue_parts K x0 q1).bind fun r26 => ((accrue_Daily_l11 K K q1 x3 r0.fst r0.snd.fst r26 (↑(List.length r26) : Int) 0 r25.fst
  r25.snd.fst r25.snd.snd).bind fun r27 => ((accrue_of K r27.snd.fst).bind fun r28 => ((accrue_times K r27.snd.snd.snd.fst r27.snd.snd.snd.snd.fst r27.snd.snd.snd.snd.snd r28.fst
  r28.snd.fst r28.snd.snd).bind fun r29 => ((accrue_of K (Go.IntKind.i64.wrap (1000 * r27.snd.snd.fst))).bind fun r30 => ((dec_Quo K r29.fst r29.snd.fst r29.snd.snd r30.fst r30.snd.fst r30.snd.snd 0 r27.fst).bind fun r31 => (bi (r31.snd.snd.snd != 0)
    (some ((0, 4)))
    ((accrue_of K 4000000000000000000).bind fun r32 => ((dec_Cmp K r31.fst r31.snd.fst r31.snd.snd.fst r32.fst r32.snd.fst r32.snd.snd).bind fun r33 => (bi (Decidable.decide (r33.fst > 0))
    (some ((0, 4)))
    ((dec_Int K r31.fst r31.snd.fst r31.snd.snd.fst).bind fun r34 => (some ((r34.fst, r34.snd))))))))))))))))
    (some ((0, 1))))
    (some ((0, 1)))))
    ((prod_Tiers K q1).bind fun r35 => (bi (r35 != 0)
    (bi (r0.snd.snd == 0)
    (bi (r35 != 0)
    (some ((0, r35)))
    ((accrue_of K 0).bind fun r36 => ((accrue_parts K x0 q1).bind fun r37 => ((accrue_Daily_l11 K K q1 x3 r0.fst r0.snd.fst r37 (↑(List.length r37) : Int) 0 r36.fst
  r36.snd.fst r36.snd.snd).bind fun r38 => ((accrue_of K r38.snd.fst).bind fun r39 => ((accrue_times K r38.snd.snd.snd.fst r38.snd.snd.snd.snd.fst r38.snd.snd.snd.snd.snd r39.fst
  r39.snd.fst r39.snd.snd).bind fun r40 => ((accrue_of K (Go.IntKind.i64.wrap (1000 * r38.snd.snd.fst))).bind fun r41 => ((dec_Quo K r40.fst r40.snd.fst r40.snd.snd r41.fst r41.snd.fst r41.snd.snd 0 r38.fst).bind fun r42 => (bi (r42.snd.snd.snd != 0)
    (some ((0, 4)))
    ((accrue_of K 4000000000000000000).bind fun r43 => ((dec_Cmp K r42.fst r42.snd.fst r42.snd.snd.fst r43.fst r43.snd.fst r43.snd.snd).bind fun r44 => (bi (Decidable.decide (r44.fst > 0))
    (some ((0, 4)))
    ((dec_Int K r42.fst r42.snd.fst r42.snd.snd.fst).bind fun r45 => (some ((r45.fst, r45.snd))))))))))))))))
    (bi (Decidable.decide (r35 < r0.snd.snd))
    (bi (r35 != 0)
    (some ((0, r35)))
    ((accrue_of K 0).bind fun r46 => ((accrue_parts K x0 q1).bind fun r47 => ((accrue_Daily_l11 K K q1 x3 r0.fst r0.snd.fst r47 (↑(List.length r47) : Int) 0 r46.fst
  r46.snd.fst r46.snd.snd).bind fun r48 => ((accrue_of K r48.snd.fst).bind fun r49 => ((accrue_times K r48.snd.snd.snd.fst r48.snd.snd.snd.snd.fst r48.snd.snd.snd.snd.snd r49.fst
  r49.snd.fst r49.snd.snd).bind fun r50 => ((accrue_of K (Go.IntKind.i64.wrap (1000 * r48.snd.snd.fst))).bind fun r51 => ((dec_Quo K r50.fst r50.snd.fst r50.snd.snd r51.fst r51.snd.fst r51.snd.snd 0 r48.fst).bind fun r52 => (bi (r52.snd.snd.snd != 0)
    (some ((0, 4)))
    ((accrue_of K 4000000000000000000).bind fun r53 => ((dec_Cmp K r52.fst r52.snd.fst r52.snd.snd.fst r53.fst r53.snd.fst r53.snd.snd).bind fun r54 => (bi (Decidable.decide (r54.fst > 0))
    (some ((0, 4)))
    ((dec_Int K r52.fst r52.snd.fst r52.snd.snd.fst).bind fun r55 => (some ((r55.fst, r55.snd))))))))))))))))
    (bi (r0.snd.snd != 0)
    (some ((0, r0.snd.snd)))
    ((accrue_of K 0).bind fun r56 => ((accrue_parts K x0 q1).bind fun r57 => ((accrue_Daily_l11 K K q1 x3 r0.fst r0.snd.fst r57 (↑(List.length r57) : Int) 0 r56.fst
  r56.snd.fst r56.snd.snd).bind fun r58 => ((accrue_of K r58.snd.fst).bind fun r59 => ((accrue_times K r58.snd.snd.snd.fst r58.snd.snd.snd.snd.fst r58.snd.snd.snd.snd.snd r59.fst
  r59.snd.fst r59.snd.snd).bind fun r60 => ((accrue_of K (Go.IntKind.i64.wrap (1000 * r58.snd.snd.fst))).bind fun r61 => ((dec_Quo K r60.fst r60.snd.fst r60.snd.snd r61.fst r61.snd.fst r61.snd.snd 0 r58.fst).bind fun r62 => (bi (r62.snd.snd.snd != 0)
    (some ((0, 4)))
    ((accrue_of K 4000000000000000000).bind fun r63 => ((dec_Cmp K r62.fst r62.snd.fst r62.snd.snd.fst r63.fst r63.snd.fst r63.snd.snd).bind fun r64 => (bi (Decidable.decide (r64.fst > 0))
    (some ((0, 4)))
    ((dec_Int K r62.fst r62.snd.fst r62.snd.snd.fst).bind fun r65 => (some ((r65.fst, r65.snd))))))))))))))))))
    (bi (r0.snd.snd != 0)
    (some ((0, r0.snd.snd)))
    ((accrue_of K 0).bind fun r66 => ((accrue_parts K x0 q1).bind fun r67 => ((accrue_Daily_l11 K K q1 x3 r0.fst r0.snd.fst r67 (↑(List.length r67) : Int) 0 r66.fst
  r66.snd.fst r66.snd.snd).bind fun r68 => ((accrue_of K r68.snd.fst).bind fun r69 => ((accrue_times K r68.snd.snd.snd.fst r68.snd.snd.snd.snd.fst r68.snd.snd.snd.snd.snd r69.fst
  r69.snd.fst r69.snd.snd).bind fun r70 => ((accrue_of K (Go.IntKind.i64.wrap (1000 * r68.snd.snd.fst))).bind fun r71 => ((dec_Quo K r70.fst r70.snd.fst r70.snd.snd r71.fst r71.snd.fst r71.snd.snd 0 r68.fst).bind fun r72 => (bi (r72.snd.snd.snd != 0)
    (some ((0, 4)))
    ((accrue_of K 4000000000000000000).bind fun r73 => ((dec_Cmp K r72.fst r72.snd.fst r72.snd.snd.fst r73.fst r73.snd.fst r73.snd.snd).bind fun r74 => (bi (Decidable.decide (r74.fst > 0))
    (some ((0, 4)))
    ((dec_Int K r72.fst r72.snd.fst r72.snd.snd.fst).bind fun r75 => (some ((r75.fst, r75.snd)))))))))))))))))))))))
theorem accrue_Daily_eq (K : Nat) (x0 : Int) (q1 : List (List Int)) (x2 : Int) (x3 : Int) (x4 : Int) (x5 : Int) : (runF Go.Proofs.Try.prog (env_accrue_times K) (accrue_Daily_v11 K) Go.Proofs.Try.f11 [.one (.int .i64), .one (.recs [.i64, .i64] false), .one (.int .i64), .one (.int .i64), .one (.int .i64), .one (.int .i64)] [.one (.int .i64), .one (.int .i64)] accrue_Daily_dec [.i x0, .rr q1, .i x2, .i x3, .i x4, .i x5]).den2 = accrue_Daily K x0 q1 x2 x3 x4 x5 := by kernel_rfl
def accrue_Daily_w (K : Nat) : List U → Option (Int × Int) := fun us => match us with | [.i x0, .rr q1, .i x2, .i x3, .i x4, .i x5] => accrue_Daily K x0 q1 x2 x3 x4 x5 | _ => none
def accrue_Daily_enc : (Int × Int) → List U := fun r => [.i r.1, .i r.2]
def accrue_Daily_spec (K : Nat) : Vm.Spec := ⟨[.one (.int .i64), .one (.recs [.i64, .i64] false), .one (.int .i64), .one (.int .i64), .one (.int .i64), .one (.int .i64)], [.one (.int .i64), .one (.int .i64)], Int × Int, accrue_Daily_w K, accrue_Daily_enc⟩
theorem accrue_Daily_ok (K : Nat) : FnOk Go.Proofs.Try.prog 11 (accrue_Daily_spec K) := fn_ok' hmix (env_accrue_times_ok K) (lenv := accrue_Daily_v11 K) (args := [.one (.int .i64), .one (.recs [.i64, .i64] false), .one (.int .i64), .one (.int .i64), .one (.int .i64), .one (.int .i64)]) (res := [.one (.int .i64), .one (.int .i64)]) (G := accrue_Daily_w K) (enc := accrue_Daily_enc) Go.Proofs.Try.func11 (lps_fn (l := [lp (bodyOf Go.Proofs.Try.f11) 0]) (by kernel_rfl) ⟨⟨11, accrue_Daily_l11_s K, by kernel_rfl, by kernel_rfl, accrue_Daily_l11_ok K⟩, trivial⟩) (dec := accrue_Daily_dec) (fun u r h => by unfold accrue_Daily_dec at h; split at h; (obtain rfl := Option.some.inj h; rfl); cases h) (fun us r h => by unfold accrue_Daily_w at h; split at h; exact ((den2_eq _).symm.trans (accrue_Daily_eq K _ _ _ _ _ _)).trans h; cases h)
def env_accrue_Daily (K : Nat) : FuncId → Option Vm.Spec := addS (env_accrue_times K) 11 (accrue_Daily_spec K)
theorem env_accrue_Daily_ok (K : Nat) : EnvOk Go.Proofs.Try.prog (env_accrue_Daily K) := addS_ok (env_accrue_times_ok K) (.inl ⟨callable Go.Proofs.Try.func11 (by kernel_rfl) (by kernel_rfl), accrue_Daily_ok K⟩)
-- passbook/accrue.Pay
def accrue_Pay_dec : List U → Option (Int × Int × Int) := fun u => match u with | [.i x0, .i x1, .i x2] => some (x0, x1, x2) | _ => none
def accrue_Pay (K : Nat) (x0 : Int) (x1 : Int) : Option (Int × Int × Int) := (bi (Decidable.decide (x0 < 0))
    (some ((0, 0, 1)))
    (bi (Decidable.decide (x0 > 4000000000000000000))
    (some ((0, 0, 1)))
    (bi (Decidable.decide (x1 < 0))
    (some ((0, 0, 1)))
    (bi (Decidable.decide (x1 > 20000000000000))
    (some ((0, 0, 1)))
    (some ((if x1 < Go.IntKind.i64.wrap (x0.tdiv 1000000) then x1 else Go.IntKind.i64.wrap (x0.tdiv 1000000), x0.tmod 1000000, 0)))))))
theorem accrue_Pay_eq (K : Nat) (x0 : Int) (x1 : Int) : (runF Go.Proofs.Try.prog (env_accrue_Daily K) (lenv0) Go.Proofs.Try.f16 [.one (.int .i64), .one (.int .i64)] [.one (.int .i64), .one (.int .i64), .one (.int .i64)] accrue_Pay_dec [.i x0, .i x1]).den2 = accrue_Pay K x0 x1 := by kernel_rfl
def accrue_Pay_w (K : Nat) : List U → Option (Int × Int × Int) := fun us => match us with | [.i x0, .i x1] => accrue_Pay K x0 x1 | _ => none
def accrue_Pay_enc : (Int × Int × Int) → List U := fun r => [.i r.1, .i r.2.1, .i r.2.2]
def accrue_Pay_spec (K : Nat) : Vm.Spec := ⟨[.one (.int .i64), .one (.int .i64)], [.one (.int .i64), .one (.int .i64), .one (.int .i64)], Int × Int × Int, accrue_Pay_w K, accrue_Pay_enc⟩
theorem accrue_Pay_ok (K : Nat) : FnOk Go.Proofs.Try.prog 16 (accrue_Pay_spec K) := fn_ok' hmix (env_accrue_Daily_ok K) (lenv := lenv0) (args := [.one (.int .i64), .one (.int .i64)]) (res := [.one (.int .i64), .one (.int .i64), .one (.int .i64)]) (G := accrue_Pay_w K) (enc := accrue_Pay_enc) Go.Proofs.Try.func16 (lps_fn (l := []) (by kernel_rfl) trivial) (dec := accrue_Pay_dec) (fun u r h => by unfold accrue_Pay_dec at h; split at h; (obtain rfl := Option.some.inj h; rfl); cases h) (fun us r h => by unfold accrue_Pay_w at h; split at h; exact ((den2_eq _).symm.trans (accrue_Pay_eq K _ _)).trans h; cases h)
def env_accrue_Pay (K : Nat) : FuncId → Option Vm.Spec := addS (env_accrue_Daily K) 16 (accrue_Pay_spec K)
theorem env_accrue_Pay_ok (K : Nat) : EnvOk Go.Proofs.Try.prog (env_accrue_Pay K) := addS_ok (env_accrue_Daily_ok K) (.inl ⟨callable Go.Proofs.Try.func16 (by kernel_rfl) (by kernel_rfl), accrue_Pay_ok K⟩)
-- passbook/accrue.Fee
def accrue_Fee_dec : List U → Option (Int × Int) := fun u => match u with | [.i x0, .i x1] => some (x0, x1) | _ => none
def accrue_Fee (K : Nat) (x0 : Int) (x1 : Int) (x2 : Int) : Option (Int × Int) := ((accrue_amount K x0).bind fun r0 => (bi (!r0)
    (some ((0, 1)))
    (bi (Decidable.decide (x1 < 0))
    (some ((0, 1)))
    (bi (Decidable.decide (x1 > 20000000000000))
    (some ((0, 1)))
    ((accrue_amount K x2).bind fun r1 => (bi (!r1)
    (some ((0, 1)))
    (some ((if 0 > if Go.IntKind.i64.wrap (x0 - x1) < x2 then Go.IntKind.i64.wrap (x0 - x1) else x2 then 0
  else if Go.IntKind.i64.wrap (x0 - x1) < x2 then Go.IntKind.i64.wrap (x0 - x1) else x2,
  0)))))))))
theorem accrue_Fee_eq (K : Nat) (x0 : Int) (x1 : Int) (x2 : Int) : (runF Go.Proofs.Try.prog (env_accrue_Pay K) (lenv0) Go.Proofs.Try.f18 [.one (.int .i64), .one (.int .i64), .one (.int .i64)] [.one (.int .i64), .one (.int .i64)] accrue_Fee_dec [.i x0, .i x1, .i x2]).den2 = accrue_Fee K x0 x1 x2 := by kernel_rfl
def accrue_Fee_w (K : Nat) : List U → Option (Int × Int) := fun us => match us with | [.i x0, .i x1, .i x2] => accrue_Fee K x0 x1 x2 | _ => none
def accrue_Fee_enc : (Int × Int) → List U := fun r => [.i r.1, .i r.2]
def accrue_Fee_spec (K : Nat) : Vm.Spec := ⟨[.one (.int .i64), .one (.int .i64), .one (.int .i64)], [.one (.int .i64), .one (.int .i64)], Int × Int, accrue_Fee_w K, accrue_Fee_enc⟩
theorem accrue_Fee_ok (K : Nat) : FnOk Go.Proofs.Try.prog 18 (accrue_Fee_spec K) := fn_ok' hmix (env_accrue_Pay_ok K) (lenv := lenv0) (args := [.one (.int .i64), .one (.int .i64), .one (.int .i64)]) (res := [.one (.int .i64), .one (.int .i64)]) (G := accrue_Fee_w K) (enc := accrue_Fee_enc) Go.Proofs.Try.func18 (lps_fn (l := []) (by kernel_rfl) trivial) (dec := accrue_Fee_dec) (fun u r h => by unfold accrue_Fee_dec at h; split at h; (obtain rfl := Option.some.inj h; rfl); cases h) (fun us r h => by unfold accrue_Fee_w at h; split at h; exact ((den2_eq _).symm.trans (accrue_Fee_eq K _ _ _)).trans h; cases h)
def env_accrue_Fee (K : Nat) : FuncId → Option Vm.Spec := addS (env_accrue_Pay K) 18 (accrue_Fee_spec K)
theorem env_accrue_Fee_ok (K : Nat) : EnvOk Go.Proofs.Try.prog (env_accrue_Fee K) := addS_ok (env_accrue_Pay_ok K) (.inl ⟨callable Go.Proofs.Try.func18 (by kernel_rfl) (by kernel_rfl), accrue_Fee_ok K⟩)
-- passbook/passbookref14.amount
def ref14_amount_dec : List U → Option (Bool) := fun u => match u with | [.b c0] => some (c0) | _ => none
def ref14_amount (K : Nat) (x0 : Int) : Option (Bool) := (bi (Decidable.decide (x0 ≥ 0))
    (some (Decidable.decide (x0 ≤ 10000000000000)))
    (some Bool.false))
theorem ref14_amount_eq (K : Nat) (x0 : Int) : (runF Go.Proofs.Try.prog (env_accrue_Fee K) (lenv0) Go.Proofs.Try.f31 [.one (.int .i64)] [.one (.bool)] ref14_amount_dec [.i x0]).den2 = ref14_amount K x0 := by kernel_rfl
def ref14_amount_w (K : Nat) : List U → Option (Bool) := fun us => match us with | [.i x0] => ref14_amount K x0 | _ => none
def ref14_amount_enc : (Bool) → List U := fun r => [.b r]
def ref14_amount_spec (K : Nat) : Vm.Spec := ⟨[.one (.int .i64)], [.one (.bool)], Bool, ref14_amount_w K, ref14_amount_enc⟩
theorem ref14_amount_ok (K : Nat) : FnOk Go.Proofs.Try.prog 31 (ref14_amount_spec K) := fn_ok' hmix (env_accrue_Fee_ok K) (lenv := lenv0) (args := [.one (.int .i64)]) (res := [.one (.bool)]) (G := ref14_amount_w K) (enc := ref14_amount_enc) Go.Proofs.Try.func31 (lps_fn (l := []) (by kernel_rfl) trivial) (dec := ref14_amount_dec) (fun u r h => by unfold ref14_amount_dec at h; split at h; (obtain rfl := Option.some.inj h; rfl); cases h) (fun us r h => by unfold ref14_amount_w at h; split at h; exact ((den2_eq _).symm.trans (ref14_amount_eq K _)).trans h; cases h)
def env_ref14_amount (K : Nat) : FuncId → Option Vm.Spec := addS (env_accrue_Fee K) 31 (ref14_amount_spec K)
theorem env_ref14_amount_ok (K : Nat) : EnvOk Go.Proofs.Try.prog (env_ref14_amount K) := addS_ok (env_accrue_Fee_ok K) (.inl ⟨callable Go.Proofs.Try.func31 (by kernel_rfl) (by kernel_rfl), ref14_amount_ok K⟩)
-- passbook/passbookref14.Parts
def ref14_Parts_l3_pre : Vm.Pat := ⟨48, [(0, .pv (.one (.int .i64))), (1, .pv (.one (.recs [.i64, .i64] false))), (5, .pv (.one (.row .i64 true))), (9, .pv (.one (.recs [.i64, .i64] false))), (10, .pv (.one (.int .i64))), (11, .pv (.one (.int .i64)))], []⟩
def ref14_Parts_l3_post0 : Vm.Pat := ⟨48, [(5, .pv (.one (.row .i64 true)))], []⟩
def ref14_Parts_l3_enc0 : List Int → List U := fun r => [.r r]
def ref14_Parts_l3_dec0 : List U → Option (List Int) := fun u => match u with | [.r l5] => some (l5) | _ => none
def ref14_Parts_l3 (K : Nat) : Nat → Int → List (List Int) → List Int → List (List Int) → Int → Int → Option (List Int)
  | 0, _, _, _, _, _, _ => none
  | k + 1, x0, q1, l5, q9, x10, x11 => (bi (Decidable.decide (x11 < x10))
    (bi (Decidable.decide (0 ≤ x11) && Decidable.decide (x11 < (↑q9.length : Int)))
    (bi (Decidable.decide (Go.IntKind.i64.wrap (x11 + 1) < (↑q1.length : Int)))
    (bi (Decidable.decide (0 ≤ Go.IntKind.i64.wrap (x11 + 1)) &&
  Decidable.decide (Go.IntKind.i64.wrap (x11 + 1) < (↑q1.length : Int)))
    (bi (Decidable.decide
  (nth 0 (nth [] q1 (Go.IntKind.i64.wrap (x11 + 1)).toNat)
      0 <
    x0))
    (bi (Decidable.decide (0 ≤ Go.IntKind.i64.wrap (x11 + 1)) &&
  Decidable.decide (Go.IntKind.i64.wrap (x11 + 1) < (↑q1.length : Int)))
    (bi (Decidable.decide (l5.length + 1 ≤ 8796093022208))
    (ref14_Parts_l3 K k (x0) (q1) (l5 ++
  [if
        0 >
          Go.IntKind.i64.wrap
            (nth 0
                (nth [] q1 (Go.IntKind.i64.wrap (x11 + 1)).toNat) 0 -
              nth 0 (nth [] q9 x11.toNat) 0) then
      0
    else
      Go.IntKind.i64.wrap
        (nth 0
            (nth [] q1 (Go.IntKind.i64.wrap (x11 + 1)).toNat) 0 -
          nth 0 (nth [] q9 x11.toNat) 0)]) (q9) (x10) (Go.IntKind.i64.wrap (x11 + 1)))
    none)
    none)
    (bi (Decidable.decide (l5.length + 1 ≤ 8796093022208))
    (ref14_Parts_l3 K k (x0) (q1) (l5 ++
  [if
        0 >
          Go.IntKind.i64.wrap
            (x0 - nth 0 (nth [] q9 x11.toNat) 0) then
      0
    else
      Go.IntKind.i64.wrap
        (x0 - nth 0 (nth [] q9 x11.toNat) 0)]) (q9) (x10) (Go.IntKind.i64.wrap (x11 + 1)))
    none))
    none)
    (bi (Decidable.decide (l5.length + 1 ≤ 8796093022208))
    (ref14_Parts_l3 K k (x0) (q1) (l5 ++
  [if
        0 >
          Go.IntKind.i64.wrap
            (x0 - nth 0 (nth [] q9 x11.toNat) 0) then
      0
    else
      Go.IntKind.i64.wrap
        (x0 - nth 0 (nth [] q9 x11.toNat) 0)]) (q9) (x10) (Go.IntKind.i64.wrap (x11 + 1)))
    none))
    none)
    (some l5))
def ref14_Parts_l3_w (K k : Nat) : List U → Option (List Int) := fun us => match us with | [.i x0, .rr q1, .r l5, .rr q9, .i x10, .i x11] => ref14_Parts_l3 K k x0 q1 l5 q9 x10 x11 | _ => none
theorem ref14_Parts_l3_eq (K k : Nat) (x0 : Int) (q1 : List (List Int)) (l5 : List Int) (q9 : List (List Int)) (x10 : Int) (x11 : Int) : (round1 Go.Proofs.Try.prog (env_ref14_amount K) (lenv0) (lp (bodyOf Go.Proofs.Try.f35) 0) ref14_Parts_l3_pre (.exit 0) ref14_Parts_l3_post0 ref14_Parts_l3_dec0 (ref14_Parts_l3_w K k) [.i x0, .rr q1, .r l5, .rr q9, .i x10, .i x11]).den2 = ref14_Parts_l3 K (k + 1) x0 q1 l5 q9 x10 x11 := by kernel_rfl
def ref14_Parts_l3_s (K : Nat) : Vm.LS := .one ref14_Parts_l3_pre _ (.exit 0) ref14_Parts_l3_post0 (ref14_Parts_l3_w K K) ref14_Parts_l3_enc0
theorem ref14_Parts_l3_ok (K : Nat) : LoopOk Go.Proofs.Try.prog (lp (bodyOf Go.Proofs.Try.f35) 0) (ref14_Parts_l3_s K) := loop_one hmix (env_ref14_amount_ok K) (lenv := lenv0) (L := ref14_Parts_l3_w K) (enc := ref14_Parts_l3_enc0) (dec := ref14_Parts_l3_dec0) (lps_ok (l := []) (by kernel_rfl) trivial) (fun u r h => by unfold ref14_Parts_l3_dec0 at h; split at h; (obtain rfl := Option.some.inj h; rfl); cases h) (fun us => by unfold ref14_Parts_l3_w; split <;> first | rfl | (simp only [ref14_Parts_l3])) (fun k us r h => by unfold ref14_Parts_l3_w at h; split at h; exact ((den2_eq _).symm.trans (ref14_Parts_l3_eq K k _ _ _ _ _ _)).trans h; cases h) K
def ref14_Parts_v3 (K : Nat) : Nat → Option Vm.LS := addL (lenv0) 3 (ref14_Parts_l3_s K)
def ref14_Parts_dec : List U → Option (List Int) := fun u => match u with | [.r l0] => some (l0) | _ => none
def ref14_Parts (K : Nat) (x0 : Int) (q1 : List (List Int)) : Option (List Int) := ((ref14_Parts_l3 K K x0 q1 [] q1 (↑q1.length : Int) 0).bind fun r0 => (some r0))
theorem ref14_Parts_eq (K : Nat) (x0 : Int) (q1 : List (List Int)) : (runF Go.Proofs.Try.prog (env_ref14_amount K) (ref14_Parts_v3 K) Go.Proofs.Try.f35 [.one (.int .i64), .one (.recs [.i64, .i64] false)] [.one (.row .i64 false)] ref14_Parts_dec [.i x0, .rr q1]).den2 = ref14_Parts K x0 q1 := by kernel_rfl
def ref14_Parts_w (K : Nat) : List U → Option (List Int) := fun us => match us with | [.i x0, .rr q1] => ref14_Parts K x0 q1 | _ => none
def ref14_Parts_enc : (List Int) → List U := fun r => [.r r]
def ref14_Parts_spec (K : Nat) : Vm.Spec := ⟨[.one (.int .i64), .one (.recs [.i64, .i64] false)], [.one (.row .i64 false)], List Int, ref14_Parts_w K, ref14_Parts_enc⟩
theorem ref14_Parts_ok (K : Nat) : FnOk Go.Proofs.Try.prog 35 (ref14_Parts_spec K) := fn_ok' hmix (env_ref14_amount_ok K) (lenv := ref14_Parts_v3 K) (args := [.one (.int .i64), .one (.recs [.i64, .i64] false)]) (res := [.one (.row .i64 false)]) (G := ref14_Parts_w K) (enc := ref14_Parts_enc) Go.Proofs.Try.func35 (lps_fn (l := [lp (bodyOf Go.Proofs.Try.f35) 0]) (by kernel_rfl) ⟨⟨3, ref14_Parts_l3_s K, by kernel_rfl, by kernel_rfl, ref14_Parts_l3_ok K⟩, trivial⟩) (dec := ref14_Parts_dec) (fun u r h => by unfold ref14_Parts_dec at h; split at h; (obtain rfl := Option.some.inj h; rfl); cases h) (fun us r h => by unfold ref14_Parts_w at h; split at h; exact ((den2_eq _).symm.trans (ref14_Parts_eq K _ _)).trans h; cases h)
def env_ref14_Parts (K : Nat) : FuncId → Option Vm.Spec := addS (env_ref14_amount K) 35 (ref14_Parts_spec K)
theorem env_ref14_Parts_ok (K : Nat) : EnvOk Go.Proofs.Try.prog (env_ref14_Parts K) := addS_ok (env_ref14_amount_ok K) (.inl ⟨callable Go.Proofs.Try.func35 (by kernel_rfl) (by kernel_rfl), ref14_Parts_ok K⟩)
-- passbook/passbookref14.DocParts
def ref14_DocParts_dec : List U → Option (List Int × Int) := fun u => match u with | [.r l0, .i x1] => some (l0, x1) | _ => none
def ref14_DocParts (K : Nat) (x0 : Int) (q1 : List (List Int)) : Option (List Int × Int) := ((ref14_amount K x0).bind fun r0 => (bi (!r0)
    (some (([], 1)))
    ((ref12_Tiers K q1).bind fun r1 => (bi (r1 != 0)
    (some (([], r1)))
    ((ref14_Parts K x0 q1).bind fun r2 => (some ((r2, 0))))))))
theorem ref14_DocParts_eq (K : Nat) (x0 : Int) (q1 : List (List Int)) : (runF Go.Proofs.Try.prog (env_ref14_Parts K) (lenv0) Go.Proofs.Try.f14 [.one (.int .i64), .one (.recs [.i64, .i64] false)] [.one (.row .i64 false), .one (.int .i64)] ref14_DocParts_dec [.i x0, .rr q1]).den2 = ref14_DocParts K x0 q1 := by kernel_rfl
def ref14_DocParts_w (K : Nat) : List U → Option (List Int × Int) := fun us => match us with | [.i x0, .rr q1] => ref14_DocParts K x0 q1 | _ => none
def ref14_DocParts_enc : (List Int × Int) → List U := fun r => [.r r.1, .i r.2]
def ref14_DocParts_spec (K : Nat) : Vm.Spec := ⟨[.one (.int .i64), .one (.recs [.i64, .i64] false)], [.one (.row .i64 false), .one (.int .i64)], List Int × Int, ref14_DocParts_w K, ref14_DocParts_enc⟩
theorem ref14_DocParts_ok (K : Nat) : FnOk Go.Proofs.Try.prog 14 (ref14_DocParts_spec K) := fn_ok' hmix (env_ref14_Parts_ok K) (lenv := lenv0) (args := [.one (.int .i64), .one (.recs [.i64, .i64] false)]) (res := [.one (.row .i64 false), .one (.int .i64)]) (G := ref14_DocParts_w K) (enc := ref14_DocParts_enc) Go.Proofs.Try.func14 (lps_fn (l := []) (by kernel_rfl) trivial) (dec := ref14_DocParts_dec) (fun u r h => by unfold ref14_DocParts_dec at h; split at h; (obtain rfl := Option.some.inj h; rfl); cases h) (fun us r h => by unfold ref14_DocParts_w at h; split at h; exact ((den2_eq _).symm.trans (ref14_DocParts_eq K _ _)).trans h; cases h)
def env_ref14_DocParts (K : Nat) : FuncId → Option Vm.Spec := addS (env_ref14_Parts K) 14 (ref14_DocParts_spec K)
theorem env_ref14_DocParts_ok (K : Nat) : EnvOk Go.Proofs.Try.prog (env_ref14_DocParts K) := addS_ok (env_ref14_Parts_ok K) (.inl ⟨callable Go.Proofs.Try.func14 (by kernel_rfl) (by kernel_rfl), ref14_DocParts_ok K⟩)
-- passbook/passbookref14.Daily
def ref14_Daily_l3_pre : Vm.Pat := ⟨62, [(1, .pv (.one (.recs [.i64, .i64] false))), (2, .pv (.one (.int .i64))), (3, .pv (.one (.int .i64))), (4, .pv (.one (.int .i64))), (5, .pv (.one (.int .i64))), (22, .pv (.one (.row .i64 false))), (23, .pv (.one (.int .i64))), (24, .pv (.one (.int .i64))), (12, .box 0 0), (13, .box 1 0)], [.cells [.bool, .row .u64 false], .cells [.bool, .row .u64 false]]⟩
def ref14_Daily_l3_post0 : Vm.Pat := ⟨62, [(2, .pv (.one (.int .i64))), (3, .pv (.one (.int .i64))), (4, .pv (.one (.int .i64))), (5, .pv (.one (.int .i64))), (12, .box 0 0), (13, .box 1 0)], [.cells [.bool, .row .u64 false], .cells [.bool, .row .u64 false]]⟩
def ref14_Daily_l3_enc0 : Int × Int × Int × Int × Bool × List Int × Bool × List Int → List U := fun r => [.i r.1, .i r.2.1, .i r.2.2.1, .i r.2.2.2.1, .b r.2.2.2.2.1, .r r.2.2.2.2.2.1, .b r.2.2.2.2.2.2.1, .r r.2.2.2.2.2.2.2]
def ref14_Daily_l3_dec0 : List U → Option (Int × Int × Int × Int × Bool × List Int × Bool × List Int) := fun u => match u with | [.i x2, .i x3, .i x4, .i x5, .b c12_0, .r l12_1, .b c13_0, .r l13_1] => some (x2, x3, x4, x5, c12_0, l12_1, c13_0, l13_1) | _ => none
def ref14_Daily_l3 (K : Nat) : Nat → List (List Int) → Int → Int → Int → Int → List Int → Int → Int → Bool → List Int → Bool → List Int → Option (Int × Int × Int × Int × Bool × List Int × Bool × List Int)
  | 0, _, _, _, _, _, _, _, _, _, _, _, _ => none
  | k + 1, q1, x2, x3, x4, x5, l22, x23, x24, c12_0, l12_1, c13_0, l13_1 => (bi (Decidable.decide (x24 < x23))
    (bi (Decidable.decide (0 ≤ x24) && Decidable.decide (x24 < (↑l22.length : Int)))
    ((ref01_Made K (nth 0 l22 x24.toNat)).bind fun r0 => (bi (Decidable.decide (0 ≤ x24) && Decidable.decide (x24 < (↑q1.length : Int)))
    ((ref01_Made K
  (nth 0 (nth [] q1 x24.toNat) 1)).bind fun r1 => ((ref01_Product K r0.fst r0.snd r1.fst r1.snd).bind fun r2 => ((ref01_Sum K c13_0 l13_1 r2.fst r2.snd).bind fun r3 => (ref14_Daily_l3 K k (q1) (x2) (x3) (x4) (x5) (l22) (x23) (Go.IntKind.i64.wrap (x24 + 1)) (c12_0) (l12_1) (r3.fst) (r3.snd)))))
    none))
    none)
    (some ((x2, x3, x4, x5, c12_0, l12_1, c13_0, l13_1))))
def ref14_Daily_l3_w (K k : Nat) : List U → Option (Int × Int × Int × Int × Bool × List Int × Bool × List Int) := fun us => match us with | [.rr q1, .i x2, .i x3, .i x4, .i x5, .r l22, .i x23, .i x24, .b c12_0, .r l12_1, .b c13_0, .r l13_1] => ref14_Daily_l3 K k q1 x2 x3 x4 x5 l22 x23 x24 c12_0 l12_1 c13_0 l13_1 | _ => none
theorem ref14_Daily_l3_eq (K k : Nat) (q1 : List (List Int)) (x2 : Int) (x3 : Int) (x4 : Int) (x5 : Int) (l22 : List Int) (x23 : Int) (x24 : Int) (c12_0 : Bool) (l12_1 : List Int) (c13_0 : Bool) (l13_1 : List Int) : (round1 Go.Proofs.Try.prog (env_ref14_DocParts K) (lenv0) (lp (bodyOf Go.Proofs.Try.f34) 0) ref14_Daily_l3_pre (.exit 0) ref14_Daily_l3_post0 ref14_Daily_l3_dec0 (ref14_Daily_l3_w K k) [.rr q1, .i x2, .i x3, .i x4, .i x5, .r l22, .i x23, .i x24, .b c12_0, .r l12_1, .b c13_0, .r l13_1]).den2 = ref14_Daily_l3 K (k + 1) q1 x2 x3 x4 x5 l22 x23 x24 c12_0 l12_1 c13_0 l13_1 := by kernel_rfl
def ref14_Daily_l3_s (K : Nat) : Vm.LS := .one ref14_Daily_l3_pre _ (.exit 0) ref14_Daily_l3_post0 (ref14_Daily_l3_w K K) ref14_Daily_l3_enc0
theorem ref14_Daily_l3_ok (K : Nat) : LoopOk Go.Proofs.Try.prog (lp (bodyOf Go.Proofs.Try.f34) 0) (ref14_Daily_l3_s K) := loop_one hmix (env_ref14_DocParts_ok K) (lenv := lenv0) (L := ref14_Daily_l3_w K) (enc := ref14_Daily_l3_enc0) (dec := ref14_Daily_l3_dec0) (lps_ok (l := []) (by kernel_rfl) trivial) (fun u r h => by unfold ref14_Daily_l3_dec0 at h; split at h; (obtain rfl := Option.some.inj h; rfl); cases h) (fun us => by unfold ref14_Daily_l3_w; split <;> first | rfl | (simp only [ref14_Daily_l3])) (fun k us r h => by unfold ref14_Daily_l3_w at h; split at h; exact ((den2_eq _).symm.trans (ref14_Daily_l3_eq K k _ _ _ _ _ _ _ _ _ _ _ _)).trans h; cases h) K
def ref14_Daily_v3 (K : Nat) : Nat → Option Vm.LS := addL (lenv0) 3 (ref14_Daily_l3_s K)
def ref14_Daily_dec : List U → Option (Bool × List Int) := fun u => match u with | [.b c0_0, .r l0_1] => some (c0_0, l0_1) | _ => none
def ref14_Daily (K : Nat) (x0 : Int) (q1 : List (List Int)) (x2 : Int) (x3 : Int) (x4 : Int) (x5 : Int) : Option (Bool × List Int) := ((ref14_Parts K x0 q1).bind fun r0 => ((ref14_Daily_l3 K K q1 x2 x3 x4 x5 r0 (↑(List.length r0) : Int) 0 Bool.false [] Bool.false
  []).bind fun r1 => ((ref04_Part K r1.fst r1.snd.snd.fst r1.snd.snd.snd.fst).bind fun r2 => ((ref01_Made K r2.fst).bind fun r3 => ((ref01_Product K r1.snd.snd.snd.snd.snd.snd.fst r1.snd.snd.snd.snd.snd.snd.snd r3.fst r3.snd).bind fun r4 => ((ref01_Made K 1000000).bind fun r5 => ((ref01_Product K r4.fst r4.snd r5.fst r5.snd).bind fun r6 => ((ref01_Word K (Go.IntKind.u64.wrap r2.snd)).bind fun r7 => ((ref01_Ten K 9).bind fun r8 => ((ref01_Times K r7 r8).bind fun r9 => ((ref01_Rounded K r6.fst r6.snd r9 r1.snd.fst).bind fun r10 => (some ((r10.fst, r10.snd))))))))))))))
theorem ref14_Daily_eq (K : Nat) (x0 : Int) (q1 : List (List Int)) (x2 : Int) (x3 : Int) (x4 : Int) (x5 : Int) : (runF Go.Proofs.Try.prog (env_ref14_DocParts K) (ref14_Daily_v3 K) Go.Proofs.Try.f34 [.one (.int .i64), .one (.recs [.i64, .i64] false), .one (.int .i64), .one (.int .i64), .one (.int .i64), .one (.int .i64)] [.agg [.bool, .row .u64 false]] ref14_Daily_dec [.i x0, .rr q1, .i x2, .i x3, .i x4, .i x5]).den2 = ref14_Daily K x0 q1 x2 x3 x4 x5 := by kernel_rfl
def ref14_Daily_w (K : Nat) : List U → Option (Bool × List Int) := fun us => match us with | [.i x0, .rr q1, .i x2, .i x3, .i x4, .i x5] => ref14_Daily K x0 q1 x2 x3 x4 x5 | _ => none
def ref14_Daily_enc : (Bool × List Int) → List U := fun r => [.b r.1, .r r.2]
def ref14_Daily_spec (K : Nat) : Vm.Spec := ⟨[.one (.int .i64), .one (.recs [.i64, .i64] false), .one (.int .i64), .one (.int .i64), .one (.int .i64), .one (.int .i64)], [.agg [.bool, .row .u64 false]], Bool × List Int, ref14_Daily_w K, ref14_Daily_enc⟩
theorem ref14_Daily_ok (K : Nat) : FnOk Go.Proofs.Try.prog 34 (ref14_Daily_spec K) := fn_ok' hmix (env_ref14_DocParts_ok K) (lenv := ref14_Daily_v3 K) (args := [.one (.int .i64), .one (.recs [.i64, .i64] false), .one (.int .i64), .one (.int .i64), .one (.int .i64), .one (.int .i64)]) (res := [.agg [.bool, .row .u64 false]]) (G := ref14_Daily_w K) (enc := ref14_Daily_enc) Go.Proofs.Try.func34 (lps_fn (l := [lp (bodyOf Go.Proofs.Try.f34) 0]) (by kernel_rfl) ⟨⟨3, ref14_Daily_l3_s K, by kernel_rfl, by kernel_rfl, ref14_Daily_l3_ok K⟩, trivial⟩) (dec := ref14_Daily_dec) (fun u r h => by unfold ref14_Daily_dec at h; split at h; (obtain rfl := Option.some.inj h; rfl); cases h) (fun us r h => by unfold ref14_Daily_w at h; split at h; exact ((den2_eq _).symm.trans (ref14_Daily_eq K _ _ _ _ _ _)).trans h; cases h)
def env_ref14_Daily (K : Nat) : FuncId → Option Vm.Spec := addS (env_ref14_DocParts K) 34 (ref14_Daily_spec K)
theorem env_ref14_Daily_ok (K : Nat) : EnvOk Go.Proofs.Try.prog (env_ref14_Daily K) := addS_ok (env_ref14_DocParts_ok K) (.inl ⟨callable Go.Proofs.Try.func34 (by kernel_rfl) (by kernel_rfl), ref14_Daily_ok K⟩)
-- passbook/passbookref14.DocDaily
def ref14_DocDaily_dec : List U → Option (Int × Int) := fun u => match u with | [.i x0, .i x1] => some (x0, x1) | _ => none
def ref14_DocDaily (K : Nat) (x0 : Int) (q1 : List (List Int)) (x2 : Int) (x3 : Int) (x4 : Int) (x5 : Int) : Option (Int × Int) := ((ref04_Check K x2 x4 x5).bind fun r0 => ((ref14_amount K x0).bind fun r1 => (bi (!r1)
    ((ref12_Tiers K q1).bind fun r2 => (bi (r2 != 0)
    (bi (Decidable.decide (r2 < 1))
    (bi (r2 != 0)
    (some ((0, r2)))
    ((ref14_Daily K x0 q1 x2 x3 x4 x5).bind fun r3 => ((ref01_Small K r3.fst r3.snd).bind fun r4 => (bi (!r4.snd)
    (some ((0, 4)))
    (bi (Decidable.decide (r4.fst > 4000000000000000000))
    (some ((0, 4)))
    (some ((r4.fst, 0))))))))
    (some ((0, 1))))
    (some ((0, 1)))))
    (bi (Decidable.decide (x3 < 0))
    ((ref12_Tiers K q1).bind fun r5 => (bi (r5 != 0)
    (bi (Decidable.decide (r5 < 1))
    (bi (r5 != 0)
    (some ((0, r5)))
    ((ref14_Daily K x0 q1 x2 x3 x4 x5).bind fun r6 => ((ref01_Small K r6.fst r6.snd).bind fun r7 => (bi (!r7.snd)
    (some ((0, 4)))
    (bi (Decidable.decide (r7.fst > 4000000000000000000))
    (some ((0, 4)))
    (some ((r7.fst, 0))))))))
    (some ((0, 1))))
    (some ((0, 1)))))
    (bi (Decidable.decide (x3 > 6))
    ((ref12_Tiers K q1).bind fun r8 => (bi (r8 != 0)
    (bi (Decidable.decide (r8 < 1))
    (bi (r8 != 0)
    (some ((0, r8)))
    ((ref14_Daily K x0 q1 x2 x3 x4 x5).bind fun r9 => ((ref01_Small K r9.fst r9.snd).bind fun r10 => (bi (!r10.snd)
    (some ((0, 4)))
    (bi (Decidable.decide (r10.fst > 4000000000000000000))
    (some ((0, 4)))
    (some ((r10.fst, 0))))))))
    (some ((0, 1))))
    (some ((0, 1)))))
    ((ref12_Tiers K q1).bind fun r11 => (bi (r11 != 0)
    (bi (r0 == 0)
    (bi (r11 != 0)
    (some ((0, r11)))
    ((ref14_Daily K x0 q1 x2 x3 x4 x5).bind fun r12 => ((ref01_Small K r12.fst r12.snd).bind fun r13 => (bi (!r13.snd)
    (some ((0, 4)))
    (bi (Decidable.decide (r13.fst > 4000000000000000000))
    (some ((0, 4)))
    (some ((r13.fst, 0))))))))
    (bi (Decidable.decide (r11 < r0))
    (bi (r11 != 0)
    (some ((0, r11)))
    ((ref14_Daily K x0 q1 x2 x3 x4 x5).bind fun r14 => ((ref01_Small K r14.fst r14.snd).bind fun r15 => (bi (!r15.snd)
    (some ((0, 4)))
    (bi (Decidable.decide (r15.fst > 4000000000000000000))
    (some ((0, 4)))
    (some ((r15.fst, 0))))))))
    (bi (r0 != 0)
    (some ((0, r0)))
    ((ref14_Daily K x0 q1 x2 x3 x4 x5).bind fun r16 => ((ref01_Small K r16.fst r16.snd).bind fun r17 => (bi (!r17.snd)
    (some ((0, 4)))
    (bi (Decidable.decide (r17.fst > 4000000000000000000))
    (some ((0, 4)))
    (some ((r17.fst, 0))))))))))
    (bi (r0 != 0)
    (some ((0, r0)))
    ((ref14_Daily K x0 q1 x2 x3 x4 x5).bind fun r18 => ((ref01_Small K r18.fst r18.snd).bind fun r19 => (bi (!r19.snd)
    (some ((0, 4)))
    (bi (Decidable.decide (r19.fst > 4000000000000000000))
    (some ((0, 4)))
    (some ((r19.fst, 0)))))))))))))))
theorem ref14_DocDaily_eq (K : Nat) (x0 : Int) (q1 : List (List Int)) (x2 : Int) (x3 : Int) (x4 : Int) (x5 : Int) : (runF Go.Proofs.Try.prog (env_ref14_Daily K) (lenv0) Go.Proofs.Try.f12 [.one (.int .i64), .one (.recs [.i64, .i64] false), .one (.int .i64), .one (.int .i64), .one (.int .i64), .one (.int .i64)] [.one (.int .i64), .one (.int .i64)] ref14_DocDaily_dec [.i x0, .rr q1, .i x2, .i x3, .i x4, .i x5]).den2 = ref14_DocDaily K x0 q1 x2 x3 x4 x5 := by kernel_rfl
def ref14_DocDaily_w (K : Nat) : List U → Option (Int × Int) := fun us => match us with | [.i x0, .rr q1, .i x2, .i x3, .i x4, .i x5] => ref14_DocDaily K x0 q1 x2 x3 x4 x5 | _ => none
def ref14_DocDaily_enc : (Int × Int) → List U := fun r => [.i r.1, .i r.2]
def ref14_DocDaily_spec (K : Nat) : Vm.Spec := ⟨[.one (.int .i64), .one (.recs [.i64, .i64] false), .one (.int .i64), .one (.int .i64), .one (.int .i64), .one (.int .i64)], [.one (.int .i64), .one (.int .i64)], Int × Int, ref14_DocDaily_w K, ref14_DocDaily_enc⟩
theorem ref14_DocDaily_ok (K : Nat) : FnOk Go.Proofs.Try.prog 12 (ref14_DocDaily_spec K) := fn_ok' hmix (env_ref14_Daily_ok K) (lenv := lenv0) (args := [.one (.int .i64), .one (.recs [.i64, .i64] false), .one (.int .i64), .one (.int .i64), .one (.int .i64), .one (.int .i64)]) (res := [.one (.int .i64), .one (.int .i64)]) (G := ref14_DocDaily_w K) (enc := ref14_DocDaily_enc) Go.Proofs.Try.func12 (lps_fn (l := []) (by kernel_rfl) trivial) (dec := ref14_DocDaily_dec) (fun u r h => by unfold ref14_DocDaily_dec at h; split at h; (obtain rfl := Option.some.inj h; rfl); cases h) (fun us r h => by unfold ref14_DocDaily_w at h; split at h; exact ((den2_eq _).symm.trans (ref14_DocDaily_eq K _ _ _ _ _ _)).trans h; cases h)
def env_ref14_DocDaily (K : Nat) : FuncId → Option Vm.Spec := addS (env_ref14_Daily K) 12 (ref14_DocDaily_spec K)
theorem env_ref14_DocDaily_ok (K : Nat) : EnvOk Go.Proofs.Try.prog (env_ref14_DocDaily K) := addS_ok (env_ref14_Daily_ok K) (.inl ⟨callable Go.Proofs.Try.func12 (by kernel_rfl) (by kernel_rfl), ref14_DocDaily_ok K⟩)
-- passbook/passbookref14.DocPay
def ref14_DocPay_dec : List U → Option (Int × Int × Int) := fun u => match u with | [.i x0, .i x1, .i x2] => some (x0, x1, x2) | _ => none
def ref14_DocPay (K : Nat) (x0 : Int) (x1 : Int) : Option (Int × Int × Int) := (bi (Decidable.decide (x0 < 0))
    (some ((0, 0, 1)))
    (bi (Decidable.decide (x0 > 4000000000000000000))
    (some ((0, 0, 1)))
    (bi (Decidable.decide (x1 < 0))
    (some ((0, 0, 1)))
    (bi (Decidable.decide (x1 > 20000000000000))
    (some ((0, 0, 1)))
    (bi (Decidable.decide (Go.IntKind.i64.wrap (x0.tdiv 1000000) > x1))
    (some ((x1, Go.IntKind.i64.wrap (x0 - Go.IntKind.i64.wrap (1000000 * Go.IntKind.i64.wrap (x0.tdiv 1000000))), 0)))
    (some ((Go.IntKind.i64.wrap (x0.tdiv 1000000),
  Go.IntKind.i64.wrap (x0 - Go.IntKind.i64.wrap (1000000 * Go.IntKind.i64.wrap (x0.tdiv 1000000))), 0))))))))
theorem ref14_DocPay_eq (K : Nat) (x0 : Int) (x1 : Int) : (runF Go.Proofs.Try.prog (env_ref14_DocDaily K) (lenv0) Go.Proofs.Try.f17 [.one (.int .i64), .one (.int .i64)] [.one (.int .i64), .one (.int .i64), .one (.int .i64)] ref14_DocPay_dec [.i x0, .i x1]).den2 = ref14_DocPay K x0 x1 := by kernel_rfl
def ref14_DocPay_w (K : Nat) : List U → Option (Int × Int × Int) := fun us => match us with | [.i x0, .i x1] => ref14_DocPay K x0 x1 | _ => none
def ref14_DocPay_enc : (Int × Int × Int) → List U := fun r => [.i r.1, .i r.2.1, .i r.2.2]
def ref14_DocPay_spec (K : Nat) : Vm.Spec := ⟨[.one (.int .i64), .one (.int .i64)], [.one (.int .i64), .one (.int .i64), .one (.int .i64)], Int × Int × Int, ref14_DocPay_w K, ref14_DocPay_enc⟩
theorem ref14_DocPay_ok (K : Nat) : FnOk Go.Proofs.Try.prog 17 (ref14_DocPay_spec K) := fn_ok' hmix (env_ref14_DocDaily_ok K) (lenv := lenv0) (args := [.one (.int .i64), .one (.int .i64)]) (res := [.one (.int .i64), .one (.int .i64), .one (.int .i64)]) (G := ref14_DocPay_w K) (enc := ref14_DocPay_enc) Go.Proofs.Try.func17 (lps_fn (l := []) (by kernel_rfl) trivial) (dec := ref14_DocPay_dec) (fun u r h => by unfold ref14_DocPay_dec at h; split at h; (obtain rfl := Option.some.inj h; rfl); cases h) (fun us r h => by unfold ref14_DocPay_w at h; split at h; exact ((den2_eq _).symm.trans (ref14_DocPay_eq K _ _)).trans h; cases h)
def env_ref14_DocPay (K : Nat) : FuncId → Option Vm.Spec := addS (env_ref14_DocDaily K) 17 (ref14_DocPay_spec K)
theorem env_ref14_DocPay_ok (K : Nat) : EnvOk Go.Proofs.Try.prog (env_ref14_DocPay K) := addS_ok (env_ref14_DocDaily_ok K) (.inl ⟨callable Go.Proofs.Try.func17 (by kernel_rfl) (by kernel_rfl), ref14_DocPay_ok K⟩)
-- passbook/passbookref14.DocFee
def ref14_DocFee_dec : List U → Option (Int × Int) := fun u => match u with | [.i x0, .i x1] => some (x0, x1) | _ => none
def ref14_DocFee (K : Nat) (x0 : Int) (x1 : Int) (x2 : Int) : Option (Int × Int) := ((ref14_amount K x0).bind fun r0 => (bi (!r0)
    (some ((0, 1)))
    (bi (Decidable.decide (x1 < 0))
    (some ((0, 1)))
    (bi (Decidable.decide (x1 > 20000000000000))
    (some ((0, 1)))
    ((ref14_amount K x2).bind fun r1 => (bi (!r1)
    (some ((0, 1)))
    (bi (Decidable.decide (Go.IntKind.i64.wrap (x0 - x1) > x2))
    (bi (Decidable.decide (x2 < 0))
    (some ((0, 0)))
    (some ((x2, 0))))
    (bi (Decidable.decide (Go.IntKind.i64.wrap (x0 - x1) < 0))
    (some ((0, 0)))
    (some ((Go.IntKind.i64.wrap (x0 - x1), 0)))))))))))
theorem ref14_DocFee_eq (K : Nat) (x0 : Int) (x1 : Int) (x2 : Int) : (runF Go.Proofs.Try.prog (env_ref14_DocPay K) (lenv0) Go.Proofs.Try.f19 [.one (.int .i64), .one (.int .i64), .one (.int .i64)] [.one (.int .i64), .one (.int .i64)] ref14_DocFee_dec [.i x0, .i x1, .i x2]).den2 = ref14_DocFee K x0 x1 x2 := by kernel_rfl
def ref14_DocFee_w (K : Nat) : List U → Option (Int × Int) := fun us => match us with | [.i x0, .i x1, .i x2] => ref14_DocFee K x0 x1 x2 | _ => none
def ref14_DocFee_enc : (Int × Int) → List U := fun r => [.i r.1, .i r.2]
def ref14_DocFee_spec (K : Nat) : Vm.Spec := ⟨[.one (.int .i64), .one (.int .i64), .one (.int .i64)], [.one (.int .i64), .one (.int .i64)], Int × Int, ref14_DocFee_w K, ref14_DocFee_enc⟩
theorem ref14_DocFee_ok (K : Nat) : FnOk Go.Proofs.Try.prog 19 (ref14_DocFee_spec K) := fn_ok' hmix (env_ref14_DocPay_ok K) (lenv := lenv0) (args := [.one (.int .i64), .one (.int .i64), .one (.int .i64)]) (res := [.one (.int .i64), .one (.int .i64)]) (G := ref14_DocFee_w K) (enc := ref14_DocFee_enc) Go.Proofs.Try.func19 (lps_fn (l := []) (by kernel_rfl) trivial) (dec := ref14_DocFee_dec) (fun u r h => by unfold ref14_DocFee_dec at h; split at h; (obtain rfl := Option.some.inj h; rfl); cases h) (fun us r h => by unfold ref14_DocFee_w at h; split at h; exact ((den2_eq _).symm.trans (ref14_DocFee_eq K _ _ _)).trans h; cases h)
def env_ref14_DocFee (K : Nat) : FuncId → Option Vm.Spec := addS (env_ref14_DocPay K) 19 (ref14_DocFee_spec K)
theorem env_ref14_DocFee_ok (K : Nat) : EnvOk Go.Proofs.Try.prog (env_ref14_DocFee K) := addS_ok (env_ref14_DocPay_ok K) (.inl ⟨callable Go.Proofs.Try.func19 (by kernel_rfl) (by kernel_rfl), ref14_DocFee_ok K⟩)
-- passbook/passbooklaw14.awake
def law14_awake_dec : List U → Option (Bool) := fun u => match u with | [.b c0] => some (c0) | _ => none
def law14_awake (K : Nat)  : Option (Bool) := ((accrue_Daily K 1000000 [[0, 36500000]] 1 0 1000 1001).bind fun r0 => ((accrue_Parts K 1500 [[0, 5], [1000, 6]]).bind fun r1 => (bi (r0.snd == 0)
    (bi (r0.fst == 100000000)
    (bi (r1.snd == 0)
    ((ref01_SameInts K r1.fst [1000, 500]).bind fun r2 => (some r2))
    (some Bool.false))
    (some Bool.false))
    (some Bool.false))))
theorem law14_awake_eq (K : Nat)  : (runF Go.Proofs.Try.prog (env_ref14_DocFee K) (lenv0) Go.Proofs.Try.f10 [] [.one (.bool)] law14_awake_dec []).den2 = law14_awake K  := by kernel_rfl
def law14_awake_w (K : Nat) : List U → Option (Bool) := fun us => match us with | [] => law14_awake K  | _ => none
def law14_awake_enc : (Bool) → List U := fun r => [.b r]
def law14_awake_spec (K : Nat) : Vm.Spec := ⟨[], [.one (.bool)], Bool, law14_awake_w K, law14_awake_enc⟩
theorem law14_awake_ok (K : Nat) : FnOk Go.Proofs.Try.prog 10 (law14_awake_spec K) := fn_ok' hmix (env_ref14_DocFee_ok K) (lenv := lenv0) (args := []) (res := [.one (.bool)]) (G := law14_awake_w K) (enc := law14_awake_enc) Go.Proofs.Try.func10 (lps_fn (l := []) (by kernel_rfl) trivial) (dec := law14_awake_dec) (fun u r h => by unfold law14_awake_dec at h; split at h; (obtain rfl := Option.some.inj h; rfl); cases h) (fun us r h => by unfold law14_awake_w at h; split at h; exact ((den2_eq _).symm.trans (law14_awake_eq K)).trans h; cases h)
def env_law14_awake (K : Nat) : FuncId → Option Vm.Spec := addS (env_ref14_DocFee K) 10 (law14_awake_spec K)
theorem env_law14_awake_ok (K : Nat) : EnvOk Go.Proofs.Try.prog (env_law14_awake K) := addS_ok (env_ref14_DocFee_ok K) (.inl ⟨callable Go.Proofs.Try.func10 (by kernel_rfl) (by kernel_rfl), law14_awake_ok K⟩)
-- passbook/passbooklaw14.AccruePays
def law14_AccruePays_dec : List U → Option (Bool) := fun u => match u with | [.b c0] => some (c0) | _ => none
def law14_AccruePays (K : Nat) (x0 : Int) (x1 : Int) (x2 : Int) (x3 : Int) (x4 : Int) : Option (Bool) := ((accrue_Pay K x0 x1).bind fun r0 => ((ref14_DocPay K x0 x1).bind fun r1 => ((accrue_Fee K x2 x3 x4).bind fun r2 => ((ref14_DocFee K x2 x3 x4).bind fun r3 => ((law14_awake K).bind fun r4 => (bi (r4)
    (bi (r0.fst == r1.fst)
    (bi (r0.snd.fst == r1.snd.fst)
    (bi (r0.snd.snd == r1.snd.snd)
    (bi (r2.fst == r3.fst)
    (some (r2.snd == r3.snd))
    (some Bool.false))
    (some Bool.false))
    (some Bool.false))
    (some Bool.false))
    (some Bool.false)))))))
theorem law14_AccruePays_eq (K : Nat) (x0 : Int) (x1 : Int) (x2 : Int) (x3 : Int) (x4 : Int) : (runF Go.Proofs.Try.prog (env_law14_awake K) (lenv0) Go.Proofs.Try.f9 [.one (.int .i64), .one (.int .i64), .one (.int .i64), .one (.int .i64), .one (.int .i64)] [.one (.bool)] law14_AccruePays_dec [.i x0, .i x1, .i x2, .i x3, .i x4]).den2 = law14_AccruePays K x0 x1 x2 x3 x4 := by kernel_rfl
def law14_AccruePays_w (K : Nat) : List U → Option (Bool) := fun us => match us with | [.i x0, .i x1, .i x2, .i x3, .i x4] => law14_AccruePays K x0 x1 x2 x3 x4 | _ => none
def law14_AccruePays_enc : (Bool) → List U := fun r => [.b r]
def law14_AccruePays_spec (K : Nat) : Vm.Spec := ⟨[.one (.int .i64), .one (.int .i64), .one (.int .i64), .one (.int .i64), .one (.int .i64)], [.one (.bool)], Bool, law14_AccruePays_w K, law14_AccruePays_enc⟩
theorem law14_AccruePays_ok (K : Nat) : FnOk Go.Proofs.Try.prog 9 (law14_AccruePays_spec K) := fn_ok' hmix (env_law14_awake_ok K) (lenv := lenv0) (args := [.one (.int .i64), .one (.int .i64), .one (.int .i64), .one (.int .i64), .one (.int .i64)]) (res := [.one (.bool)]) (G := law14_AccruePays_w K) (enc := law14_AccruePays_enc) Go.Proofs.Try.func9 (lps_fn (l := []) (by kernel_rfl) trivial) (dec := law14_AccruePays_dec) (fun u r h => by unfold law14_AccruePays_dec at h; split at h; (obtain rfl := Option.some.inj h; rfl); cases h) (fun us r h => by unfold law14_AccruePays_w at h; split at h; exact ((den2_eq _).symm.trans (law14_AccruePays_eq K _ _ _ _ _)).trans h; cases h)
def env_law14_AccruePays (K : Nat) : FuncId → Option Vm.Spec := addS (env_law14_awake K) 9 (law14_AccruePays_spec K)
theorem env_law14_AccruePays_ok (K : Nat) : EnvOk Go.Proofs.Try.prog (env_law14_AccruePays K) := addS_ok (env_law14_awake_ok K) (.inl ⟨callable Go.Proofs.Try.func9 (by kernel_rfl) (by kernel_rfl), law14_AccruePays_ok K⟩)
-- passbook/passbooklaw14.AccrueParts
def law14_AccrueParts_l8_pre : Vm.Pat := ⟨47, [(0, .pv (.one (.int .i64))), (1, .pv (.one (.recs [.i64, .i64] false))), (5, .pv (.one (.row .i64 false))), (7, .pv (.one (.int .i64))), (25, .pv (.one (.row .i64 false))), (26, .pv (.one (.int .i64))), (27, .pv (.one (.int .i64)))], []⟩
def law14_AccrueParts_l8_post0 : Vm.Pat := ⟨47, [(0, .pv (.one (.int .i64))), (1, .pv (.one (.recs [.i64, .i64] false))), (5, .pv (.one (.row .i64 false))), (7, .pv (.one (.int .i64)))], []⟩
def law14_AccrueParts_l8_enc0 : Int × List (List Int) × List Int × Int → List U := fun r => [.i r.1, .rr r.2.1, .r r.2.2.1, .i r.2.2.2]
def law14_AccrueParts_l8_dec0 : List U → Option (Int × List (List Int) × List Int × Int) := fun u => match u with | [.i x0, .rr q1, .r l5, .i x7] => some (x0, q1, l5, x7) | _ => none
def law14_AccrueParts_l8_post1 : Vm.Pat := ⟨47, [(4, .pv (.one (.bool)))], []⟩
def law14_AccrueParts_l8_enc1 : Bool → List U := fun r => [.b r]
def law14_AccrueParts_l8_dec1 : List U → Option (Bool) := fun u => match u with | [.b c4] => some (c4) | _ => none
def law14_AccrueParts_l8 (K : Nat) : Nat → Int → List (List Int) → List Int → Int → List Int → Int → Int → Option ((Int × List (List Int) × List Int × Int) ⊕ (Bool))
  | 0, _, _, _, _, _, _, _ => none
  | k + 1, x0, q1, l5, x7, l25, x26, x27 => (bi (Decidable.decide (x27 < x26))
    (bi (Decidable.decide (0 ≤ x27) && Decidable.decide (x27 < (↑l25.length : Int)))
    (bi (Decidable.decide (nth 0 l25 x27.toNat < 0))
    (some (Sum.inr Bool.false))
    (law14_AccrueParts_l8 K k (x0) (q1) (l5) (Go.IntKind.i64.wrap (x7 + nth 0 l25 x27.toNat)) (l25) (x26) (Go.IntKind.i64.wrap (x27 + 1))))
    none)
    (some (Sum.inl (x0, q1, l5, x7))))
def law14_AccrueParts_l8_w (K k : Nat) : List U → Option ((Int × List (List Int) × List Int × Int) ⊕ (Bool)) := fun us => match us with | [.i x0, .rr q1, .r l5, .i x7, .r l25, .i x26, .i x27] => law14_AccrueParts_l8 K k x0 q1 l5 x7 l25 x26 x27 | _ => none
theorem law14_AccrueParts_l8_eq (K k : Nat) (x0 : Int) (q1 : List (List Int)) (l5 : List Int) (x7 : Int) (l25 : List Int) (x26 : Int) (x27 : Int) : (round2 Go.Proofs.Try.prog (env_law14_AccruePays K) (lenv0) (lp (bodyOf Go.Proofs.Try.f5) 0) law14_AccrueParts_l8_pre (.exit 0) law14_AccrueParts_l8_post0 .ret law14_AccrueParts_l8_post1 law14_AccrueParts_l8_dec0 law14_AccrueParts_l8_dec1 (law14_AccrueParts_l8_w K k) [.i x0, .rr q1, .r l5, .i x7, .r l25, .i x26, .i x27]).den2 = law14_AccrueParts_l8 K (k + 1) x0 q1 l5 x7 l25 x26 x27 := by kernel_rfl
def law14_AccrueParts_l8_s (K : Nat) : Vm.LS := .two law14_AccrueParts_l8_pre _ _ (.exit 0) law14_AccrueParts_l8_post0 .ret law14_AccrueParts_l8_post1 (law14_AccrueParts_l8_w K K) law14_AccrueParts_l8_enc0 law14_AccrueParts_l8_enc1
theorem law14_AccrueParts_l8_ok (K : Nat) : LoopOk Go.Proofs.Try.prog (lp (bodyOf Go.Proofs.Try.f5) 0) (law14_AccrueParts_l8_s K) := loop_two hmix (env_law14_AccruePays_ok K) (lenv := lenv0) (L := law14_AccrueParts_l8_w K) (enc := law14_AccrueParts_l8_enc0) (dec := law14_AccrueParts_l8_dec0) (enc' := law14_AccrueParts_l8_enc1) (dec' := law14_AccrueParts_l8_dec1) (lps_ok (l := []) (by kernel_rfl) trivial) (fun u r h => by unfold law14_AccrueParts_l8_dec0 at h; split at h; (obtain rfl := Option.some.inj h; rfl); cases h) (fun u r h => by unfold law14_AccrueParts_l8_dec1 at h; split at h; (obtain rfl := Option.some.inj h; rfl); cases h) (fun us => by unfold law14_AccrueParts_l8_w; split <;> first | rfl | (simp only [law14_AccrueParts_l8])) (fun k us r h => by unfold law14_AccrueParts_l8_w at h; split at h; exact ((den2_eq _).symm.trans (law14_AccrueParts_l8_eq K k _ _ _ _ _ _ _)).trans h; cases h) K
def law14_AccrueParts_v8 (K : Nat) : Nat → Option Vm.LS := addL (lenv0) 8 (law14_AccrueParts_l8_s K)
def law14_AccrueParts_dec : List U → Option (Bool) := fun u => match u with | [.b c0] => some (c0) | _ => none
def law14_AccrueParts (K : Nat) (x0 : Int) (q1 : List (List Int)) : Option (Bool) := ((law14_awake K).bind fun r0 => (bi (!r0)
    (some Bool.false)
    (bi (Decidable.decide (0 + q1.length ≤ 8796093022208))
    ((accrue_Parts K x0 ([] ++ q1)).bind fun r1 => (bi (r1.snd != 0)
    (some ((↑r1.fst.length : Int) == 0))
    (casO (law14_AccrueParts_l8 K K x0 q1 r1.fst 0 r1.fst (↑r1.fst.length : Int) 0) (fun r2 => (bi ((↑r2.snd.snd.fst.length : Int) == (↑r2.snd.fst.length : Int))
    (some (r2.snd.snd.snd == r2.fst))
    (some Bool.false))) (fun r3 => (some r3)))))
    none)))
theorem law14_AccrueParts_eq (K : Nat) (x0 : Int) (q1 : List (List Int)) : (runF Go.Proofs.Try.prog (env_law14_AccruePays K) (law14_AccrueParts_v8 K) Go.Proofs.Try.f5 [.one (.int .i64), .one (.recs [.i64, .i64] false)] [.one (.bool)] law14_AccrueParts_dec [.i x0, .rr q1]).den2 = law14_AccrueParts K x0 q1 := by kernel_rfl
def law14_AccrueParts_w (K : Nat) : List U → Option (Bool) := fun us => match us with | [.i x0, .rr q1] => law14_AccrueParts K x0 q1 | _ => none
def law14_AccrueParts_enc : (Bool) → List U := fun r => [.b r]
def law14_AccrueParts_spec (K : Nat) : Vm.Spec := ⟨[.one (.int .i64), .one (.recs [.i64, .i64] false)], [.one (.bool)], Bool, law14_AccrueParts_w K, law14_AccrueParts_enc⟩
theorem law14_AccrueParts_ok (K : Nat) : FnOk Go.Proofs.Try.prog 5 (law14_AccrueParts_spec K) := fn_ok' hmix (env_law14_AccruePays_ok K) (lenv := law14_AccrueParts_v8 K) (args := [.one (.int .i64), .one (.recs [.i64, .i64] false)]) (res := [.one (.bool)]) (G := law14_AccrueParts_w K) (enc := law14_AccrueParts_enc) Go.Proofs.Try.func5 (lps_fn (l := [lp (bodyOf Go.Proofs.Try.f5) 0]) (by kernel_rfl) ⟨⟨8, law14_AccrueParts_l8_s K, by kernel_rfl, by kernel_rfl, law14_AccrueParts_l8_ok K⟩, trivial⟩) (dec := law14_AccrueParts_dec) (fun u r h => by unfold law14_AccrueParts_dec at h; split at h; (obtain rfl := Option.some.inj h; rfl); cases h) (fun us r h => by unfold law14_AccrueParts_w at h; split at h; exact ((den2_eq _).symm.trans (law14_AccrueParts_eq K _ _)).trans h; cases h)
def env_law14_AccrueParts (K : Nat) : FuncId → Option Vm.Spec := addS (env_law14_AccruePays K) 5 (law14_AccrueParts_spec K)
theorem env_law14_AccrueParts_ok (K : Nat) : EnvOk Go.Proofs.Try.prog (env_law14_AccrueParts K) := addS_ok (env_law14_AccruePays_ok K) (.inl ⟨callable Go.Proofs.Try.func5 (by kernel_rfl) (by kernel_rfl), law14_AccrueParts_ok K⟩)
-- passbook/passbooklaw14.AccrueGrows
def law14_AccrueGrows_dec : List U → Option (Bool) := fun u => match u with | [.b c0] => some (c0) | _ => none
def law14_AccrueGrows (K : Nat) (x0 : Int) (x1 : Int) (x2 : Int) (x3 : Int) (x4 : Int) (x5 : Int) : Option (Bool) := ((law14_awake K).bind fun r0 => (bi (!r0)
    (some Bool.false)
    ((accrue_Daily K (Go.IntKind.i64.wrap ((Go.IntKind.u64.wrap x0).tmod 5000000000000))
  [[0, Go.IntKind.i64.wrap ((Go.IntKind.u64.wrap x2).tmod 1000000001)]] 1 (Go.IntKind.i64.wrap (x4.tmod 7))
  (Go.IntKind.i64.wrap (1 + Go.IntKind.i64.wrap x5))
  (Go.IntKind.i64.wrap (Go.IntKind.i64.wrap (1 + Go.IntKind.i64.wrap x5) + 1))).bind fun r1 => ((accrue_Daily K
  (Go.IntKind.i64.wrap
    (Go.IntKind.i64.wrap ((Go.IntKind.u64.wrap x0).tmod 5000000000000) +
      Go.IntKind.i64.wrap ((Go.IntKind.u64.wrap x1).tmod 5000000000000)))
  [[0, Go.IntKind.i64.wrap ((Go.IntKind.u64.wrap x2).tmod 1000000001)]] 1 (Go.IntKind.i64.wrap (x4.tmod 7))
  (Go.IntKind.i64.wrap (1 + Go.IntKind.i64.wrap x5))
  (Go.IntKind.i64.wrap (Go.IntKind.i64.wrap (1 + Go.IntKind.i64.wrap x5) + 1))).bind fun r2 => ((accrue_Daily K
  (Go.IntKind.i64.wrap
    (Go.IntKind.i64.wrap ((Go.IntKind.u64.wrap x0).tmod 5000000000000) +
      Go.IntKind.i64.wrap ((Go.IntKind.u64.wrap x1).tmod 5000000000000)))
  [[0, Go.IntKind.i64.wrap ((Go.IntKind.u64.wrap x2).tmod 1000000001)],
    [Go.IntKind.i64.wrap (1 + Go.IntKind.i64.wrap ((Go.IntKind.u64.wrap x3).tmod 5000000000000)),
      Go.IntKind.i64.wrap ((Go.IntKind.u64.wrap x2).tmod 1000000001)]]
  1 (Go.IntKind.i64.wrap (x4.tmod 7)) (Go.IntKind.i64.wrap (1 + Go.IntKind.i64.wrap x5))
  (Go.IntKind.i64.wrap (Go.IntKind.i64.wrap (1 + Go.IntKind.i64.wrap x5) + 1))).bind fun r3 => (bi (r1.snd == 0)
    (bi (r2.snd == 0)
    (bi (r3.snd == 0)
    (bi (Decidable.decide (r1.fst ≥ 0))
    (bi (Decidable.decide (r1.fst ≤ r2.fst))
    (some (r2.fst == r3.fst))
    (some Bool.false))
    (some Bool.false))
    (some Bool.false))
    (some Bool.false))
    (some Bool.false)))))))
theorem law14_AccrueGrows_eq (K : Nat) (x0 : Int) (x1 : Int) (x2 : Int) (x3 : Int) (x4 : Int) (x5 : Int) : (runF Go.Proofs.Try.prog (env_law14_AccrueParts K) (lenv0) Go.Proofs.Try.f4 [.one (.int .i64), .one (.int .i64), .one (.int .i64), .one (.int .i64), .one (.int .u8), .one (.int .u16)] [.one (.bool)] law14_AccrueGrows_dec [.i x0, .i x1, .i x2, .i x3, .i x4, .i x5]).den2 = law14_AccrueGrows K x0 x1 x2 x3 x4 x5 := by kernel_rfl
def law14_AccrueGrows_w (K : Nat) : List U → Option (Bool) := fun us => match us with | [.i x0, .i x1, .i x2, .i x3, .i x4, .i x5] => law14_AccrueGrows K x0 x1 x2 x3 x4 x5 | _ => none
def law14_AccrueGrows_enc : (Bool) → List U := fun r => [.b r]
def law14_AccrueGrows_spec (K : Nat) : Vm.Spec := ⟨[.one (.int .i64), .one (.int .i64), .one (.int .i64), .one (.int .i64), .one (.int .u8), .one (.int .u16)], [.one (.bool)], Bool, law14_AccrueGrows_w K, law14_AccrueGrows_enc⟩
theorem law14_AccrueGrows_ok (K : Nat) : FnOk Go.Proofs.Try.prog 4 (law14_AccrueGrows_spec K) := fn_ok' hmix (env_law14_AccrueParts_ok K) (lenv := lenv0) (args := [.one (.int .i64), .one (.int .i64), .one (.int .i64), .one (.int .i64), .one (.int .u8), .one (.int .u16)]) (res := [.one (.bool)]) (G := law14_AccrueGrows_w K) (enc := law14_AccrueGrows_enc) Go.Proofs.Try.func4 (lps_fn (l := []) (by kernel_rfl) trivial) (dec := law14_AccrueGrows_dec) (fun u r h => by unfold law14_AccrueGrows_dec at h; split at h; (obtain rfl := Option.some.inj h; rfl); cases h) (fun us r h => by unfold law14_AccrueGrows_w at h; split at h; exact ((den2_eq _).symm.trans (law14_AccrueGrows_eq K _ _ _ _ _ _)).trans h; cases h)
def env_law14_AccrueGrows (K : Nat) : FuncId → Option Vm.Spec := addS (env_law14_AccrueParts K) 4 (law14_AccrueGrows_spec K)
theorem env_law14_AccrueGrows_ok (K : Nat) : EnvOk Go.Proofs.Try.prog (env_law14_AccrueGrows K) := addS_ok (env_law14_AccrueParts_ok K) (.inl ⟨callable Go.Proofs.Try.func4 (by kernel_rfl) (by kernel_rfl), law14_AccrueGrows_ok K⟩)
-- passbook/passbooklaw14.AccrueNothingLost
def law14_AccrueNothingLost_l12_pre : Vm.Pat := ⟨117, [(14, .pv (.one (.int .i64))), (15, .pv (.one (.recs [.i64, .i64] false))), (16, .pv (.one (.int .i64))), (17, .pv (.one (.int .i64))), (18, .pv (.one (.int .i64))), (70, .pv (.one (.int .i64))), (71, .pv (.one (.int .i64)))], []⟩
def law14_AccrueNothingLost_l12_post0 : Vm.Pat := ⟨117, [(14, .pv (.one (.int .i64))), (15, .pv (.one (.recs [.i64, .i64] false))), (16, .pv (.one (.int .i64))), (17, .pv (.one (.int .i64))), (18, .pv (.one (.int .i64)))], []⟩
def law14_AccrueNothingLost_l12_enc0 : Int × List (List Int) × Int × Int × Int → List U := fun r => [.i r.1, .rr r.2.1, .i r.2.2.1, .i r.2.2.2.1, .i r.2.2.2.2]
def law14_AccrueNothingLost_l12_dec0 : List U → Option (Int × List (List Int) × Int × Int × Int) := fun u => match u with | [.i x14, .rr q15, .i x16, .i x17, .i x18] => some (x14, q15, x16, x17, x18) | _ => none
def law14_AccrueNothingLost_l12_post1 : Vm.Pat := ⟨117, [(10, .pv (.one (.bool)))], []⟩
def law14_AccrueNothingLost_l12_enc1 : Bool → List U := fun r => [.b r]
def law14_AccrueNothingLost_l12_dec1 : List U → Option (Bool) := fun u => match u with | [.b c10] => some (c10) | _ => none
def law14_AccrueNothingLost_l12 (K : Nat) : Nat → Int → List (List Int) → Int → Int → Int → Int → Int → Option ((Int × List (List Int) × Int × Int × Int) ⊕ (Bool))
  | 0, _, _, _, _, _, _, _ => none
  | k + 1, x14, q15, x16, x17, x18, x70, x71 => (bi (Decidable.decide (x71 < x70))
    ((accrue_Daily K x14 q15 0 0 (Go.IntKind.i64.wrap (x17 + x71))
  (Go.IntKind.i64.wrap (Go.IntKind.i64.wrap (x17 + x71) + 1))).bind fun r0 => (bi (r0.snd != 0)
    (some (Sum.inr Bool.false))
    (law14_AccrueNothingLost_l12 K k (x14) (q15) (x16) (x17) (Go.IntKind.i64.wrap (x18 + r0.fst)) (x70) (Go.IntKind.i64.wrap (x71 + 1)))))
    (some (Sum.inl (x14, q15, x16, x17, x18))))
def law14_AccrueNothingLost_l12_w (K k : Nat) : List U → Option ((Int × List (List Int) × Int × Int × Int) ⊕ (Bool)) := fun us => match us with | [.i x14, .rr q15, .i x16, .i x17, .i x18, .i x70, .i x71] => law14_AccrueNothingLost_l12 K k x14 q15 x16 x17 x18 x70 x71 | _ => none
theorem law14_AccrueNothingLost_l12_eq (K k : Nat) (x14 : Int) (q15 : List (List Int)) (x16 : Int) (x17 : Int) (x18 : Int) (x70 : Int) (x71 : Int) : (round2 Go.Proofs.Try.prog (env_law14_AccrueGrows K) (lenv0) (lp (bodyOf Go.Proofs.Try.f8) 0) law14_AccrueNothingLost_l12_pre (.exit 0) law14_AccrueNothingLost_l12_post0 .ret law14_AccrueNothingLost_l12_post1 law14_AccrueNothingLost_l12_dec0 law14_AccrueNothingLost_l12_dec1 (law14_AccrueNothingLost_l12_w K k) [.i x14, .rr q15, .i x16, .i x17, .i x18, .i x70, .i x71]).den2 = law14_AccrueNothingLost_l12 K (k + 1) x14 q15 x16 x17 x18 x70 x71 := by kernel_rfl
def law14_AccrueNothingLost_l12_s (K : Nat) : Vm.LS := .two law14_AccrueNothingLost_l12_pre _ _ (.exit 0) law14_AccrueNothingLost_l12_post0 .ret law14_AccrueNothingLost_l12_post1 (law14_AccrueNothingLost_l12_w K K) law14_AccrueNothingLost_l12_enc0 law14_AccrueNothingLost_l12_enc1
theorem law14_AccrueNothingLost_l12_ok (K : Nat) : LoopOk Go.Proofs.Try.prog (lp (bodyOf Go.Proofs.Try.f8) 0) (law14_AccrueNothingLost_l12_s K) := loop_two hmix (env_law14_AccrueGrows_ok K) (lenv := lenv0) (L := law14_AccrueNothingLost_l12_w K) (enc := law14_AccrueNothingLost_l12_enc0) (dec := law14_AccrueNothingLost_l12_dec0) (enc' := law14_AccrueNothingLost_l12_enc1) (dec' := law14_AccrueNothingLost_l12_dec1) (lps_ok (l := []) (by kernel_rfl) trivial) (fun u r h => by unfold law14_AccrueNothingLost_l12_dec0 at h; split at h; (obtain rfl := Option.some.inj h; rfl); cases h) (fun u r h => by unfold law14_AccrueNothingLost_l12_dec1 at h; split at h; (obtain rfl := Option.some.inj h; rfl); cases h) (fun us => by unfold law14_AccrueNothingLost_l12_w; split <;> first | rfl | (simp only [law14_AccrueNothingLost_l12])) (fun k us r h => by unfold law14_AccrueNothingLost_l12_w at h; split at h; exact ((den2_eq _).symm.trans (law14_AccrueNothingLost_l12_eq K k _ _ _ _ _ _ _)).trans h; cases h) K
def law14_AccrueNothingLost_v12 (K : Nat) : Nat → Option Vm.LS := addL (lenv0) 12 (law14_AccrueNothingLost_l12_s K)
def law14_AccrueNothingLost_dec : List U → Option (Bool) := fun u => match u with | [.b c0] => some (c0) | _ => none
def law14_AccrueNothingLost (K : Nat) (x0 : Int) (x1 : Int) (x2 : Int) (x3 : Int) (x4 : Int) : Option (Bool) := ((law14_awake K).bind fun r0 => (bi (!r0)
    (some Bool.false)
    ((accrue_Pay K (Go.IntKind.i64.wrap ((Go.IntKind.u64.wrap x0).tmod 10000000000000000))
  20000000000000).bind fun r1 => (bi (r1.snd.snd != 0)
    (some Bool.false)
    (bi (Go.IntKind.i64.wrap (Go.IntKind.i64.wrap (1000000 * r1.fst) + r1.snd.fst) !=
  Go.IntKind.i64.wrap ((Go.IntKind.u64.wrap x0).tmod 10000000000000000))
    (some Bool.false)
    (bi (Decidable.decide (r1.snd.fst < 0))
    (some Bool.false)
    (bi (Decidable.decide (r1.snd.fst > 999999))
    (some Bool.false)
    (casO (law14_AccrueNothingLost_l12 K K
  (Go.IntKind.i64.wrap ((Go.IntKind.u64.wrap x1).tmod 1000000000))
  [[0, Go.IntKind.i64.wrap ((Go.IntKind.u64.wrap x2).tmod 1000000001)]] (Go.IntKind.i64.wrap (x3.tmod 40))
  (Go.IntKind.i64.wrap (1 + Go.IntKind.i64.wrap x4)) 0 (Go.IntKind.i64.wrap (x3.tmod 40)) 0) (fun r2 => ((accrue_Daily K r2.fst r2.snd.fst 0 0 r2.snd.snd.snd.fst
  (Go.IntKind.i64.wrap (r2.snd.snd.snd.fst + r2.snd.snd.fst))).bind fun r3 => (bi (r3.snd == 0)
    (bi (Decidable.decide (r2.snd.snd.snd.snd ≤ r3.fst))
    (some (Decidable.decide (Go.IntKind.i64.wrap (r3.fst - r2.snd.snd.snd.snd) ≤ r2.snd.snd.fst)))
    (some Bool.false))
    (some Bool.false)))) (fun r4 => (some r4))))))))))
theorem law14_AccrueNothingLost_eq (K : Nat) (x0 : Int) (x1 : Int) (x2 : Int) (x3 : Int) (x4 : Int) : (runF Go.Proofs.Try.prog (env_law14_AccrueGrows K) (law14_AccrueNothingLost_v12 K) Go.Proofs.Try.f8 [.one (.int .i64), .one (.int .i64), .one (.int .i64), .one (.int .u8), .one (.int .u16)] [.one (.bool)] law14_AccrueNothingLost_dec [.i x0, .i x1, .i x2, .i x3, .i x4]).den2 = law14_AccrueNothingLost K x0 x1 x2 x3 x4 := by kernel_rfl
def law14_AccrueNothingLost_w (K : Nat) : List U → Option (Bool) := fun us => match us with | [.i x0, .i x1, .i x2, .i x3, .i x4] => law14_AccrueNothingLost K x0 x1 x2 x3 x4 | _ => none
def law14_AccrueNothingLost_enc : (Bool) → List U := fun r => [.b r]
def law14_AccrueNothingLost_spec (K : Nat) : Vm.Spec := ⟨[.one (.int .i64), .one (.int .i64), .one (.int .i64), .one (.int .u8), .one (.int .u16)], [.one (.bool)], Bool, law14_AccrueNothingLost_w K, law14_AccrueNothingLost_enc⟩
theorem law14_AccrueNothingLost_ok (K : Nat) : FnOk Go.Proofs.Try.prog 8 (law14_AccrueNothingLost_spec K) := fn_ok' hmix (env_law14_AccrueGrows_ok K) (lenv := law14_AccrueNothingLost_v12 K) (args := [.one (.int .i64), .one (.int .i64), .one (.int .i64), .one (.int .u8), .one (.int .u16)]) (res := [.one (.bool)]) (G := law14_AccrueNothingLost_w K) (enc := law14_AccrueNothingLost_enc) Go.Proofs.Try.func8 (lps_fn (l := [lp (bodyOf Go.Proofs.Try.f8) 0]) (by kernel_rfl) ⟨⟨12, law14_AccrueNothingLost_l12_s K, by kernel_rfl, by kernel_rfl, law14_AccrueNothingLost_l12_ok K⟩, trivial⟩) (dec := law14_AccrueNothingLost_dec) (fun u r h => by unfold law14_AccrueNothingLost_dec at h; split at h; (obtain rfl := Option.some.inj h; rfl); cases h) (fun us r h => by unfold law14_AccrueNothingLost_w at h; split at h; exact ((den2_eq _).symm.trans (law14_AccrueNothingLost_eq K _ _ _ _ _)).trans h; cases h)
def env_law14_AccrueNothingLost (K : Nat) : FuncId → Option Vm.Spec := addS (env_law14_AccrueGrows K) 8 (law14_AccrueNothingLost_spec K)
theorem env_law14_AccrueNothingLost_ok (K : Nat) : EnvOk Go.Proofs.Try.prog (env_law14_AccrueNothingLost K) := addS_ok (env_law14_AccrueGrows_ok K) (.inl ⟨callable Go.Proofs.Try.func8 (by kernel_rfl) (by kernel_rfl), law14_AccrueNothingLost_ok K⟩)
-- passbook/passbooklaw14.AccrueModes
def law14_AccrueModes_l16_pre : Vm.Pat := ⟨102, [(59, .pv (.agg [.int .i64, .int .i64, .int .i64, .int .i64, .int .i64, .int .i64, .int .i64])), (60, .pv (.one (.int .i64))), (14, .arr 0)], [.row .i64]⟩
def law14_AccrueModes_l16_post0 : Vm.Pat := ⟨102, [(14, .arr 0)], [.row .i64]⟩
def law14_AccrueModes_l16_enc0 : List Int → List U := fun r => [.r r]
def law14_AccrueModes_l16_dec0 : List U → Option (List Int) := fun u => match u with | [.r l14] => some (l14) | _ => none
def law14_AccrueModes_l16_post1 : Vm.Pat := ⟨102, [(10, .pv (.one (.bool)))], []⟩
def law14_AccrueModes_l16_enc1 : Bool → List U := fun r => [.b r]
def law14_AccrueModes_l16_dec1 : List U → Option (Bool) := fun u => match u with | [.b c10] => some (c10) | _ => none
def law14_AccrueModes_l16 (K : Nat) : Nat → Int → Int → Int → Int → Int → Int → Int → Int → List Int → Option ((List Int) ⊕ (Bool))
  | 0, _, _, _, _, _, _, _, _, _ => none
  | k + 1, x59_0, x59_1, x59_2, x59_3, x59_4, x59_5, x59_6, x60, l14 => (bi (Decidable.decide (x60 < 7))
    (bi (Decidable.decide (0 ≤ x60) && Decidable.decide (x60 < 7))
    (bi (Bool.true && Decidable.decide (0 < l14.length))
    (bi (nth 0 [x59_0, x59_1, x59_2, x59_3, x59_4, x59_5, x59_6] x60.toNat !=
  nth 0 l14 0)
    (bi (Bool.true && Decidable.decide (1 < l14.length))
    (bi (nth 0 [x59_0, x59_1, x59_2, x59_3, x59_4, x59_5, x59_6] x60.toNat !=
  nth 0 l14 1)
    (some (Sum.inr Bool.false))
    (law14_AccrueModes_l16 K k (x59_0) (x59_1) (x59_2) (x59_3) (x59_4) (x59_5) (x59_6) (Go.IntKind.i64.wrap (x60 + 1)) (l14)))
    none)
    (law14_AccrueModes_l16 K k (x59_0) (x59_1) (x59_2) (x59_3) (x59_4) (x59_5) (x59_6) (Go.IntKind.i64.wrap (x60 + 1)) (l14)))
    none)
    none)
    (some (Sum.inl l14)))
def law14_AccrueModes_l16_w (K k : Nat) : List U → Option ((List Int) ⊕ (Bool)) := fun us => match us with | [.i x59_0, .i x59_1, .i x59_2, .i x59_3, .i x59_4, .i x59_5, .i x59_6, .i x60, .r l14] => law14_AccrueModes_l16 K k x59_0 x59_1 x59_2 x59_3 x59_4 x59_5 x59_6 x60 l14 | _ => none
theorem law14_AccrueModes_l16_eq (K k : Nat) (x59_0 : Int) (x59_1 : Int) (x59_2 : Int) (x59_3 : Int) (x59_4 : Int) (x59_5 : Int) (x59_6 : Int) (x60 : Int) (l14 : List Int) : (round2 Go.Proofs.Try.prog (env_law14_AccrueNothingLost K) (lenv0) (lp (bodyOf Go.Proofs.Try.f6) 1) law14_AccrueModes_l16_pre (.exit 2) law14_AccrueModes_l16_post0 .ret law14_AccrueModes_l16_post1 law14_AccrueModes_l16_dec0 law14_AccrueModes_l16_dec1 (law14_AccrueModes_l16_w K k) [.i x59_0, .i x59_1, .i x59_2, .i x59_3, .i x59_4, .i x59_5, .i x59_6, .i x60, .r l14]).den2 = law14_AccrueModes_l16 K (k + 1) x59_0 x59_1 x59_2 x59_3 x59_4 x59_5 x59_6 x60 l14 := by kernel_rfl
def law14_AccrueModes_l16_s (K : Nat) : Vm.LS := .two law14_AccrueModes_l16_pre _ _ (.exit 2) law14_AccrueModes_l16_post0 .ret law14_AccrueModes_l16_post1 (law14_AccrueModes_l16_w K K) law14_AccrueModes_l16_enc0 law14_AccrueModes_l16_enc1
theorem law14_AccrueModes_l16_ok (K : Nat) : LoopOk Go.Proofs.Try.prog (lp (bodyOf Go.Proofs.Try.f6) 1) (law14_AccrueModes_l16_s K) := loop_two hmix (env_law14_AccrueNothingLost_ok K) (lenv := lenv0) (L := law14_AccrueModes_l16_w K) (enc := law14_AccrueModes_l16_enc0) (dec := law14_AccrueModes_l16_dec0) (enc' := law14_AccrueModes_l16_enc1) (dec' := law14_AccrueModes_l16_dec1) (lps_ok (l := []) (by kernel_rfl) trivial) (fun u r h => by unfold law14_AccrueModes_l16_dec0 at h; split at h; (obtain rfl := Option.some.inj h; rfl); cases h) (fun u r h => by unfold law14_AccrueModes_l16_dec1 at h; split at h; (obtain rfl := Option.some.inj h; rfl); cases h) (fun us => by unfold law14_AccrueModes_l16_w; split <;> first | rfl | (simp only [law14_AccrueModes_l16])) (fun k us r h => by unfold law14_AccrueModes_l16_w at h; split at h; exact ((den2_eq _).symm.trans (law14_AccrueModes_l16_eq K k _ _ _ _ _ _ _ _ _)).trans h; cases h) K
def law14_AccrueModes_v16 (K : Nat) : Nat → Option Vm.LS := addL (lenv0) 16 (law14_AccrueModes_l16_s K)
def law14_AccrueModes_l8_pre : Vm.Pat := ⟨102, [(2, .pv (.one (.int .u8))), (4, .pv (.one (.int .u8))), (11, .pv (.one (.int .i64))), (12, .pv (.one (.recs [.i64, .i64] false))), (13, .pv (.one (.int .i64))), (35, .pv (.one (.int .i64))), (14, .arr 0)], [.row .i64]⟩
def law14_AccrueModes_l8_post0 : Vm.Pat := ⟨102, [(14, .arr 0)], [.row .i64]⟩
def law14_AccrueModes_l8_enc0 : List Int → List U := fun r => [.r r]
def law14_AccrueModes_l8_dec0 : List U → Option (List Int) := fun u => match u with | [.r l14] => some (l14) | _ => none
def law14_AccrueModes_l8_post1 : Vm.Pat := ⟨102, [(10, .pv (.one (.bool)))], []⟩
def law14_AccrueModes_l8_enc1 : Bool → List U := fun r => [.b r]
def law14_AccrueModes_l8_dec1 : List U → Option (Bool) := fun u => match u with | [.b c10] => some (c10) | _ => none
def law14_AccrueModes_l8 (K : Nat) : Nat → Int → Int → Int → List (List Int) → Int → Int → List Int → Option ((List Int) ⊕ (Bool))
  | 0, _, _, _, _, _, _, _ => none
  | k + 1, x2, x4, x11, q12, x13, x35, l14 => (bi (Decidable.decide (x35 < 7))
    ((accrue_Daily K x11 q12 (Go.IntKind.i64.wrap (x2.tmod 4)) x35 x13
  (Go.IntKind.i64.wrap (x13 + Go.IntKind.i64.wrap x4))).bind fun r0 => (bi (r0.snd != 0)
    (some (Sum.inr Bool.false))
    (bi (Decidable.decide (0 ≤ x35) && Decidable.decide (x35 < 7) && Decidable.decide (x35.toNat < l14.length))
    (law14_AccrueModes_l8 K k (x2) (x4) (x11) (q12) (x13) (Go.IntKind.i64.wrap (x35 + 1)) (l14.set x35.toNat r0.fst))
    none)))
    (some (Sum.inl l14)))
def law14_AccrueModes_l8_w (K k : Nat) : List U → Option ((List Int) ⊕ (Bool)) := fun us => match us with | [.i x2, .i x4, .i x11, .rr q12, .i x13, .i x35, .r l14] => law14_AccrueModes_l8 K k x2 x4 x11 q12 x13 x35 l14 | _ => none
theorem law14_AccrueModes_l8_eq (K k : Nat) (x2 : Int) (x4 : Int) (x11 : Int) (q12 : List (List Int)) (x13 : Int) (x35 : Int) (l14 : List Int) : (round2 Go.Proofs.Try.prog (env_law14_AccrueNothingLost K) (law14_AccrueModes_v16 K) (lp (bodyOf Go.Proofs.Try.f6) 0) law14_AccrueModes_l8_pre (.exit 0) law14_AccrueModes_l8_post0 .ret law14_AccrueModes_l8_post1 law14_AccrueModes_l8_dec0 law14_AccrueModes_l8_dec1 (law14_AccrueModes_l8_w K k) [.i x2, .i x4, .i x11, .rr q12, .i x13, .i x35, .r l14]).den2 = law14_AccrueModes_l8 K (k + 1) x2 x4 x11 q12 x13 x35 l14 := by kernel_rfl
def law14_AccrueModes_l8_s (K : Nat) : Vm.LS := .two law14_AccrueModes_l8_pre _ _ (.exit 0) law14_AccrueModes_l8_post0 .ret law14_AccrueModes_l8_post1 (law14_AccrueModes_l8_w K K) law14_AccrueModes_l8_enc0 law14_AccrueModes_l8_enc1
theorem law14_AccrueModes_l8_ok (K : Nat) : LoopOk Go.Proofs.Try.prog (lp (bodyOf Go.Proofs.Try.f6) 0) (law14_AccrueModes_l8_s K) := loop_two hmix (env_law14_AccrueNothingLost_ok K) (lenv := law14_AccrueModes_v16 K) (L := law14_AccrueModes_l8_w K) (enc := law14_AccrueModes_l8_enc0) (dec := law14_AccrueModes_l8_dec0) (enc' := law14_AccrueModes_l8_enc1) (dec' := law14_AccrueModes_l8_dec1) (lps_ok (l := []) (by kernel_rfl) trivial) (fun u r h => by unfold law14_AccrueModes_l8_dec0 at h; split at h; (obtain rfl := Option.some.inj h; rfl); cases h) (fun u r h => by unfold law14_AccrueModes_l8_dec1 at h; split at h; (obtain rfl := Option.some.inj h; rfl); cases h) (fun us => by unfold law14_AccrueModes_l8_w; split <;> first | rfl | (simp only [law14_AccrueModes_l8])) (fun k us r h => by unfold law14_AccrueModes_l8_w at h; split at h; exact ((den2_eq _).symm.trans (law14_AccrueModes_l8_eq K k _ _ _ _ _ _ _)).trans h; cases h) K
def law14_AccrueModes_v8 (K : Nat) : Nat → Option Vm.LS := addL (law14_AccrueModes_v16 K) 8 (law14_AccrueModes_l8_s K)
def law14_AccrueModes_dec : List U → Option (Bool) := fun u => match u with | [.b c0] => some (c0) | _ => none
def law14_AccrueModes (K : Nat) (x0 : Int) (x1 : Int) (x2 : Int) (x3 : Int) (x4 : Int) : Option (Bool) := ((law14_awake K).bind fun r0 => (bi (!r0)
    (some Bool.false)
    (casO (law14_AccrueModes_l8 K K x2 x4
  (Go.IntKind.i64.wrap ((Go.IntKind.u64.wrap x0).tmod 1000000000))
  [[0, Go.IntKind.i64.wrap ((Go.IntKind.u64.wrap x1).tmod 1000000001)]]
  (Go.IntKind.i64.wrap (1 + Go.IntKind.i64.wrap x3)) 0 [0, 0, 0, 0, 0, 0, 0]) (fun r1 => (bi (Decidable.decide (7 ≤ r1.length))
    (casO (law14_AccrueModes_l16 K K (nth 0 r1 0)
  (nth 0 r1 1) (nth 0 r1 2)
  (nth 0 r1 3) (nth 0 r1 4)
  (nth 0 r1 5) (nth 0 r1 6) 0 r1) (fun r2 => (bi (Bool.true && Decidable.decide (2 < r2.length))
    (bi (Bool.true && Decidable.decide (0 < r2.length))
    (bi (nth 0 r2 2 == nth 0 r2 0)
    (bi (Bool.true && Decidable.decide (3 < r2.length))
    (bi (Bool.true && Decidable.decide (1 < r2.length))
    (bi (nth 0 r2 3 == nth 0 r2 1)
    (bi (Bool.true && Decidable.decide (1 < r2.length))
    (bi (Bool.true && Decidable.decide (0 < r2.length))
    (bi (Decidable.decide
  (Go.IntKind.i64.wrap (nth 0 r2 1 - nth 0 r2 0) ≥ 0))
    (bi (Bool.true && Decidable.decide (1 < r2.length))
    (bi (Bool.true && Decidable.decide (0 < r2.length))
    (some (Decidable.decide
  (Go.IntKind.i64.wrap (nth 0 r2 1 - nth 0 r2 0) ≤ 1)))
    none)
    none)
    (some Bool.false))
    none)
    none)
    (some Bool.false))
    none)
    none)
    (some Bool.false))
    none)
    none)) (fun r3 => (some r3)))
    none)) (fun r4 => (some r4)))))
theorem law14_AccrueModes_eq (K : Nat) (x0 : Int) (x1 : Int) (x2 : Int) (x3 : Int) (x4 : Int) : (runF Go.Proofs.Try.prog (env_law14_AccrueNothingLost K) (law14_AccrueModes_v8 K) Go.Proofs.Try.f6 [.one (.int .i64), .one (.int .i64), .one (.int .u8), .one (.int .u16), .one (.int .u8)] [.one (.bool)] law14_AccrueModes_dec [.i x0, .i x1, .i x2, .i x3, .i x4]).den2 = law14_AccrueModes K x0 x1 x2 x3 x4 := by kernel_rfl
def law14_AccrueModes_w (K : Nat) : List U → Option (Bool) := fun us => match us with | [.i x0, .i x1, .i x2, .i x3, .i x4] => law14_AccrueModes K x0 x1 x2 x3 x4 | _ => none
def law14_AccrueModes_enc : (Bool) → List U := fun r => [.b r]
def law14_AccrueModes_spec (K : Nat) : Vm.Spec := ⟨[.one (.int .i64), .one (.int .i64), .one (.int .u8), .one (.int .u16), .one (.int .u8)], [.one (.bool)], Bool, law14_AccrueModes_w K, law14_AccrueModes_enc⟩
theorem law14_AccrueModes_ok (K : Nat) : FnOk Go.Proofs.Try.prog 6 (law14_AccrueModes_spec K) := fn_ok' hmix (env_law14_AccrueNothingLost_ok K) (lenv := law14_AccrueModes_v8 K) (args := [.one (.int .i64), .one (.int .i64), .one (.int .u8), .one (.int .u16), .one (.int .u8)]) (res := [.one (.bool)]) (G := law14_AccrueModes_w K) (enc := law14_AccrueModes_enc) Go.Proofs.Try.func6 (lps_fn (l := [lp (bodyOf Go.Proofs.Try.f6) 0, lp (bodyOf Go.Proofs.Try.f6) 1]) (by kernel_rfl) ⟨⟨8, law14_AccrueModes_l8_s K, by kernel_rfl, by kernel_rfl, law14_AccrueModes_l8_ok K⟩, ⟨⟨16, law14_AccrueModes_l16_s K, by kernel_rfl, by kernel_rfl, law14_AccrueModes_l16_ok K⟩, trivial⟩⟩) (dec := law14_AccrueModes_dec) (fun u r h => by unfold law14_AccrueModes_dec at h; split at h; (obtain rfl := Option.some.inj h; rfl); cases h) (fun us r h => by unfold law14_AccrueModes_w at h; split at h; exact ((den2_eq _).symm.trans (law14_AccrueModes_eq K _ _ _ _ _)).trans h; cases h)
def env_law14_AccrueModes (K : Nat) : FuncId → Option Vm.Spec := addS (env_law14_AccrueNothingLost K) 6 (law14_AccrueModes_spec K)
theorem env_law14_AccrueModes_ok (K : Nat) : EnvOk Go.Proofs.Try.prog (env_law14_AccrueModes K) := addS_ok (env_law14_AccrueNothingLost_ok K) (.inl ⟨callable Go.Proofs.Try.func6 (by kernel_rfl) (by kernel_rfl), law14_AccrueModes_ok K⟩)
-- passbook/passbooklaw14.AccrueSpans
def law14_AccrueSpans_dec : List U → Option (Bool) := fun u => match u with | [.b c0] => some (c0) | _ => none
def law14_AccrueSpans (K : Nat) (x0 : Int) (x1 : Int) (x2 : Int) (x3 : Int) (x4 : Int) (x5 : Int) (x6 : Int) : Option (Bool) := ((law14_awake K).bind fun r0 => (bi (!r0)
    (some Bool.false)
    ((accrue_Daily K (Go.IntKind.i64.wrap ((Go.IntKind.u64.wrap x0).tmod 1000000000))
  [[0, Go.IntKind.i64.wrap ((Go.IntKind.u64.wrap x1).tmod 1000000001)]] (Go.IntKind.i64.wrap (x2.tmod 4))
  (Go.IntKind.i64.wrap (x3.tmod 7)) (Go.IntKind.i64.wrap (1 + Go.IntKind.i64.wrap x4))
  (Go.IntKind.i64.wrap (1 + Go.IntKind.i64.wrap x4))).bind fun r1 => ((accrue_Daily K (Go.IntKind.i64.wrap ((Go.IntKind.u64.wrap x0).tmod 1000000000))
  [[0, Go.IntKind.i64.wrap ((Go.IntKind.u64.wrap x1).tmod 1000000001)]] (Go.IntKind.i64.wrap (x2.tmod 4))
  (Go.IntKind.i64.wrap (x3.tmod 7)) (Go.IntKind.i64.wrap (1 + Go.IntKind.i64.wrap x4))
  (Go.IntKind.i64.wrap (Go.IntKind.i64.wrap (1 + Go.IntKind.i64.wrap x4) + Go.IntKind.i64.wrap x5))).bind fun r2 => ((accrue_Daily K (Go.IntKind.i64.wrap ((Go.IntKind.u64.wrap x0).tmod 1000000000))
  [[0, Go.IntKind.i64.wrap ((Go.IntKind.u64.wrap x1).tmod 1000000001)]] (Go.IntKind.i64.wrap (x2.tmod 4))
  (Go.IntKind.i64.wrap (x3.tmod 7)) (Go.IntKind.i64.wrap (1 + Go.IntKind.i64.wrap x4))
  (Go.IntKind.i64.wrap
    (Go.IntKind.i64.wrap (Go.IntKind.i64.wrap (1 + Go.IntKind.i64.wrap x4) + Go.IntKind.i64.wrap x5) +
      Go.IntKind.i64.wrap x6))).bind fun r3 => (bi (r1.snd == 0)
    (bi (r2.snd == 0)
    (bi (r3.snd == 0)
    (bi (r1.fst == 0)
    (bi (Decidable.decide (r2.fst ≥ 0))
    (some (Decidable.decide (r3.fst ≥ r2.fst)))
    (some Bool.false))
    (some Bool.false))
    (some Bool.false))
    (some Bool.false))
    (some Bool.false)))))))
theorem law14_AccrueSpans_eq (K : Nat) (x0 : Int) (x1 : Int) (x2 : Int) (x3 : Int) (x4 : Int) (x5 : Int) (x6 : Int) : (runF Go.Proofs.Try.prog (env_law14_AccrueModes K) (lenv0) Go.Proofs.Try.f7 [.one (.int .i64), .one (.int .i64), .one (.int .u8), .one (.int .u8), .one (.int .u16), .one (.int .u8), .one (.int .u8)] [.one (.bool)] law14_AccrueSpans_dec [.i x0, .i x1, .i x2, .i x3, .i x4, .i x5, .i x6]).den2 = law14_AccrueSpans K x0 x1 x2 x3 x4 x5 x6 := by kernel_rfl
def law14_AccrueSpans_w (K : Nat) : List U → Option (Bool) := fun us => match us with | [.i x0, .i x1, .i x2, .i x3, .i x4, .i x5, .i x6] => law14_AccrueSpans K x0 x1 x2 x3 x4 x5 x6 | _ => none
def law14_AccrueSpans_enc : (Bool) → List U := fun r => [.b r]
def law14_AccrueSpans_spec (K : Nat) : Vm.Spec := ⟨[.one (.int .i64), .one (.int .i64), .one (.int .u8), .one (.int .u8), .one (.int .u16), .one (.int .u8), .one (.int .u8)], [.one (.bool)], Bool, law14_AccrueSpans_w K, law14_AccrueSpans_enc⟩
theorem law14_AccrueSpans_ok (K : Nat) : FnOk Go.Proofs.Try.prog 7 (law14_AccrueSpans_spec K) := fn_ok' hmix (env_law14_AccrueModes_ok K) (lenv := lenv0) (args := [.one (.int .i64), .one (.int .i64), .one (.int .u8), .one (.int .u8), .one (.int .u16), .one (.int .u8), .one (.int .u8)]) (res := [.one (.bool)]) (G := law14_AccrueSpans_w K) (enc := law14_AccrueSpans_enc) Go.Proofs.Try.func7 (lps_fn (l := []) (by kernel_rfl) trivial) (dec := law14_AccrueSpans_dec) (fun u r h => by unfold law14_AccrueSpans_dec at h; split at h; (obtain rfl := Option.some.inj h; rfl); cases h) (fun us r h => by unfold law14_AccrueSpans_w at h; split at h; exact ((den2_eq _).symm.trans (law14_AccrueSpans_eq K _ _ _ _ _ _ _)).trans h; cases h)
def env_law14_AccrueSpans (K : Nat) : FuncId → Option Vm.Spec := addS (env_law14_AccrueModes K) 7 (law14_AccrueSpans_spec K)
theorem env_law14_AccrueSpans_ok (K : Nat) : EnvOk Go.Proofs.Try.prog (env_law14_AccrueSpans K) := addS_ok (env_law14_AccrueModes_ok K) (.inl ⟨callable Go.Proofs.Try.func7 (by kernel_rfl) (by kernel_rfl), law14_AccrueSpans_ok K⟩)
-- passbook/passbooklaw14.AccrueDays
def law14_AccrueDays_l11_pre : Vm.Pat := ⟨112, [(1, .pv (.one (.recs [.i64, .i64] false))), (13, .pv (.one (.recs [.i64, .i64] false))), (98, .pv (.one (.int .i64))), (99, .pv (.one (.int .i64)))], []⟩
def law14_AccrueDays_l11_post0 : Vm.Pat := ⟨112, [], []⟩
def law14_AccrueDays_l11_enc0 : Unit → List U := fun _ => []
def law14_AccrueDays_l11_dec0 : List U → Option (Unit) := fun u => match u with | [] => some () | _ => none
def law14_AccrueDays_l11_post1 : Vm.Pat := ⟨112, [(12, .pv (.one (.bool)))], []⟩
def law14_AccrueDays_l11_enc1 : Bool → List U := fun r => [.b r]
def law14_AccrueDays_l11_dec1 : List U → Option (Bool) := fun u => match u with | [.b c12] => some (c12) | _ => none
def law14_AccrueDays_l11 (K : Nat) : Nat → List (List Int) → List (List Int) → Int → Int → Option ((Unit) ⊕ (Bool))
  | 0, _, _, _, _ => none
  | k + 1, q1, q13, x98, x99 => (bi (Decidable.decide (x99 < x98))
    (bi (Decidable.decide (0 ≤ x99) && Decidable.decide (x99 < (↑q13.length : Int)))
    (bi (Decidable.decide (0 ≤ x99) && Decidable.decide (x99 < (↑q1.length : Int)))
    (bi (!(nth 0 (nth [] q13 x99.toNat) 0 ==
      nth 0 (nth [] q1 x99.toNat) 0 &&
    (nth 0 (nth [] q13 x99.toNat) 1 ==
        nth 0 (nth [] q1 x99.toNat) 1 &&
      Bool.true)))
    (some (Sum.inr Bool.false))
    (law14_AccrueDays_l11 K k (q1) (q13) (x98) (Go.IntKind.i64.wrap (x99 + 1))))
    none)
    none)
    (some (Sum.inl ())))
def law14_AccrueDays_l11_w (K k : Nat) : List U → Option ((Unit) ⊕ (Bool)) := fun us => match us with | [.rr q1, .rr q13, .i x98, .i x99] => law14_AccrueDays_l11 K k q1 q13 x98 x99 | _ => none
theorem law14_AccrueDays_l11_eq (K k : Nat) (q1 : List (List Int)) (q13 : List (List Int)) (x98 : Int) (x99 : Int) : (round2 Go.Proofs.Try.prog (env_law14_AccrueSpans K) (lenv0) (lp (bodyOf Go.Proofs.Try.f3) 0) law14_AccrueDays_l11_pre (.exit 0) law14_AccrueDays_l11_post0 .ret law14_AccrueDays_l11_post1 law14_AccrueDays_l11_dec0 law14_AccrueDays_l11_dec1 (law14_AccrueDays_l11_w K k) [.rr q1, .rr q13, .i x98, .i x99]).den2 = law14_AccrueDays_l11 K (k + 1) q1 q13 x98 x99 := by kernel_rfl
def law14_AccrueDays_l11_s (K : Nat) : Vm.LS := .two law14_AccrueDays_l11_pre _ _ (.exit 0) law14_AccrueDays_l11_post0 .ret law14_AccrueDays_l11_post1 (law14_AccrueDays_l11_w K K) law14_AccrueDays_l11_enc0 law14_AccrueDays_l11_enc1
theorem law14_AccrueDays_l11_ok (K : Nat) : LoopOk Go.Proofs.Try.prog (lp (bodyOf Go.Proofs.Try.f3) 0) (law14_AccrueDays_l11_s K) := loop_two hmix (env_law14_AccrueSpans_ok K) (lenv := lenv0) (L := law14_AccrueDays_l11_w K) (enc := law14_AccrueDays_l11_enc0) (dec := law14_AccrueDays_l11_dec0) (enc' := law14_AccrueDays_l11_enc1) (dec' := law14_AccrueDays_l11_dec1) (lps_ok (l := []) (by kernel_rfl) trivial) (fun u r h => by unfold law14_AccrueDays_l11_dec0 at h; split at h; (obtain rfl := Option.some.inj h; rfl); cases h) (fun u r h => by unfold law14_AccrueDays_l11_dec1 at h; split at h; (obtain rfl := Option.some.inj h; rfl); cases h) (fun us => by unfold law14_AccrueDays_l11_w; split <;> first | rfl | (simp only [law14_AccrueDays_l11])) (fun k us r h => by unfold law14_AccrueDays_l11_w at h; split at h; exact ((den2_eq _).symm.trans (law14_AccrueDays_l11_eq K k _ _ _ _)).trans h; cases h) K
def law14_AccrueDays_v11 (K : Nat) : Nat → Option Vm.LS := addL (lenv0) 11 (law14_AccrueDays_l11_s K)
def law14_AccrueDays_dec : List U → Option (Bool) := fun u => match u with | [.b c0] => some (c0) | _ => none
def law14_AccrueDays (K : Nat) (x0 : Int) (q1 : List (List Int)) (x2 : Int) (x3 : Int) (x4 : Int) (x5 : Int) : Option (Bool) := ((law14_awake K).bind fun r0 => (bi (!r0)
    (some Bool.false)
    (bi (Decidable.decide (0 + q1.length ≤ 8796093022208))
    (bi (Decidable.decide (([] ++ q1).length + 1 ≤ 8796093022208))
    (bi (Bool.true && Decidable.decide (0 ≤ (↑q1.length : Int)) &&
  Decidable.decide ((↑q1.length : Int) ≤ (↑([] ++ q1 ++ [[77, 0]]).length : Int)))
    ((accrue_Daily K x0
  (List.take ((↑q1.length : Int).toNat - 0) (List.drop 0 ([] ++ q1 ++ [[77, 0]]))) x2 x3 x4 x5).bind fun r1 => ((ref14_DocDaily K x0 q1 x2 x3 x4 x5).bind fun r2 => (bi (Bool.true && Decidable.decide (0 ≤ (↑q1.length : Int)) &&
  Decidable.decide ((↑q1.length : Int) ≤ (↑([] ++ q1 ++ [[77, 0]]).length : Int)))
    ((accrue_Parts K x0
  (List.take ((↑q1.length : Int).toNat - 0) (List.drop 0 ([] ++ q1 ++ [[77, 0]])))).bind fun r3 => ((ref14_DocParts K x0 q1).bind fun r4 => (bi (r1.fst != r2.fst)
    (some Bool.false)
    (bi (r1.snd != r2.snd)
    (some Bool.false)
    ((ref01_SameInts K r3.fst r4.fst).bind fun r5 => (bi (!r5)
    (some Bool.false)
    (bi (r3.snd != r4.snd)
    (some Bool.false)
    (bi (Decidable.decide (0 ≤ (↑q1.length : Int)) &&
  Decidable.decide ((↑q1.length : Int) < (↑([] ++ q1 ++ [[77, 0]]).length : Int)))
    (bi (nth 0
    (nth [] ([] ++ q1 ++ [[77, 0]]) (↑q1.length : Int).toNat) 0 !=
  77)
    (some Bool.false)
    (casO (law14_AccrueDays_l11 K K q1 ([] ++ q1 ++ [[77, 0]]) (↑q1.length : Int) 0) (fun r6 => (some Bool.true)) (fun r7 => (some r7))))
    none))))))))
    none)))
    none)
    none)
    none)))
theorem law14_AccrueDays_eq (K : Nat) (x0 : Int) (q1 : List (List Int)) (x2 : Int) (x3 : Int) (x4 : Int) (x5 : Int) : (runF Go.Proofs.Try.prog (env_law14_AccrueSpans K) (law14_AccrueDays_v11 K) Go.Proofs.Try.f3 [.one (.int .i64), .one (.recs [.i64, .i64] false), .one (.int .i64), .one (.int .i64), .one (.int .i64), .one (.int .i64)] [.one (.bool)] law14_AccrueDays_dec [.i x0, .rr q1, .i x2, .i x3, .i x4, .i x5]).den2 = law14_AccrueDays K x0 q1 x2 x3 x4 x5 := by kernel_rfl
def law14_AccrueDays_w (K : Nat) : List U → Option (Bool) := fun us => match us with | [.i x0, .rr q1, .i x2, .i x3, .i x4, .i x5] => law14_AccrueDays K x0 q1 x2 x3 x4 x5 | _ => none
def law14_AccrueDays_enc : (Bool) → List U := fun r => [.b r]
def law14_AccrueDays_spec (K : Nat) : Vm.Spec := ⟨[.one (.int .i64), .one (.recs [.i64, .i64] false), .one (.int .i64), .one (.int .i64), .one (.int .i64), .one (.int .i64)], [.one (.bool)], Bool, law14_AccrueDays_w K, law14_AccrueDays_enc⟩
theorem law14_AccrueDays_ok (K : Nat) : FnOk Go.Proofs.Try.prog 3 (law14_AccrueDays_spec K) := fn_ok' hmix (env_law14_AccrueSpans_ok K) (lenv := law14_AccrueDays_v11 K) (args := [.one (.int .i64), .one (.recs [.i64, .i64] false), .one (.int .i64), .one (.int .i64), .one (.int .i64), .one (.int .i64)]) (res := [.one (.bool)]) (G := law14_AccrueDays_w K) (enc := law14_AccrueDays_enc) Go.Proofs.Try.func3 (lps_fn (l := [lp (bodyOf Go.Proofs.Try.f3) 0]) (by kernel_rfl) ⟨⟨11, law14_AccrueDays_l11_s K, by kernel_rfl, by kernel_rfl, law14_AccrueDays_l11_ok K⟩, trivial⟩) (dec := law14_AccrueDays_dec) (fun u r h => by unfold law14_AccrueDays_dec at h; split at h; (obtain rfl := Option.some.inj h; rfl); cases h) (fun us r h => by unfold law14_AccrueDays_w at h; split at h; exact ((den2_eq _).symm.trans (law14_AccrueDays_eq K _ _ _ _ _ _)).trans h; cases h)
def env_law14_AccrueDays (K : Nat) : FuncId → Option Vm.Spec := addS (env_law14_AccrueSpans K) 3 (law14_AccrueDays_spec K)
theorem env_law14_AccrueDays_ok (K : Nat) : EnvOk Go.Proofs.Try.prog (env_law14_AccrueDays K) := addS_ok (env_law14_AccrueSpans_ok K) (.inl ⟨callable Go.Proofs.Try.func3 (by kernel_rfl) (by kernel_rfl), law14_AccrueDays_ok K⟩)
end Go.Proofs.Ytppdgohcgklinaa.F
