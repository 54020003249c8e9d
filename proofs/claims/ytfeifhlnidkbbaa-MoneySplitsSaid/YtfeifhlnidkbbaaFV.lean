import Derived.Test.YtfeifhlnidkbbaaVmY
import Derived.Test.YtfeifhlnidkbbaaVmRc
import Derived.Test.YtfeifhlnidkbbaaProg
import Derived.Test.YtfeifhlnidkbbaaFE
namespace Go.Proofs.Ytfeifhlnidkbbaa.F
open Go Go.Proofs.Ytfeifhlnidkbbaa.Vm
set_option maxRecDepth 1000000
set_option linter.unusedVariables false
-- passbook/passbookref01.Compare
def ref01_Compare_ro_l6_pre : Vm.Pat := ⟨41, [(0, .pv (.one (.ro [.int .u64]))), (1, .pv (.one (.ro [.int .u64]))), (5, .pv (.one (.int .i64)))], [], []⟩
def ref01_Compare_ro_l6_post0 : Vm.Pat := ⟨41, [], [], []⟩
def ref01_Compare_ro_l6_enc0 : Unit → List U := fun _ => []
def ref01_Compare_ro_l6_dec0 : List U → Option (Unit) := fun u => match u with | [] => some () | _ => none
def ref01_Compare_ro_l6_post1 : Vm.Pat := ⟨41, [(4, .pv (.one (.int .i64)))], [], []⟩
def ref01_Compare_ro_l6_enc1 : Int → List U := fun r => [.i r]
def ref01_Compare_ro_l6_dec1 : List U → Option (Int) := fun u => match u with | [.i x4] => some (x4) | _ => none
def ref01_Compare_ro_l6 (K : Nat) : Nat → List (List D) → List (List D) → Int → Option ((Unit) ⊕ (Int))
  | 0, _, _, _ => none
  | k + 1, dd0, dd1, x5 => (bi (Decidable.decide (x5 ≥ 0))
    (bi (Decidable.decide (0 ≤ x5) && Decidable.decide (x5 < (↑dd0.length : Int)))
    (bi (Decidable.decide (0 ≤ x5) && Decidable.decide (x5 < (↑dd1.length : Int)))
    (bi (Decidable.decide
  ((nth d0
        (nth [] dd0 x5.toNat) 0).toI <
    (nth d0
        (nth [] dd1 x5.toNat) 0).toI))
    (some (Sum.inr (-1)))
    (bi (Decidable.decide (0 ≤ x5) && Decidable.decide (x5 < (↑dd0.length : Int)))
    (bi (Decidable.decide (0 ≤ x5) && Decidable.decide (x5 < (↑dd1.length : Int)))
    (bi (Decidable.decide
  ((nth d0
        (nth [] dd0 x5.toNat) 0).toI >
    (nth d0
        (nth [] dd1 x5.toNat) 0).toI))
    (some (Sum.inr 1))
    (ref01_Compare_ro_l6 K k ((D.l dd0).toL) ((D.l dd1).toL) (Go.IntKind.i64.wrap (x5 - 1))))
    none)
    none))
    none)
    none)
    (some (Sum.inl ())))
def ref01_Compare_ro_l6_w (K k : Nat) : List U → Option ((Unit) ⊕ (Int)) := fun us => match us with | [.d dd0, .d dd1, .i x5] => ref01_Compare_ro_l6 K k dd0 dd1 x5 | _ => none
theorem ref01_Compare_ro_l6_eq (K k : Nat) (dd0 : List (List D)) (dd1 : List (List D)) (x5 : Int) : (round2 Go.Proofs.Try.prog (env_law05_awake K) (lenv0) (lp (bodyOf Go.Proofs.Try.f39) 0) ref01_Compare_ro_l6_pre (.exit 0) ref01_Compare_ro_l6_post0 .ret ref01_Compare_ro_l6_post1 ref01_Compare_ro_l6_dec0 ref01_Compare_ro_l6_dec1 (ref01_Compare_ro_l6_w K k) [.d dd0, .d dd1, .i x5]).den2 = ref01_Compare_ro_l6 K (k + 1) dd0 dd1 x5 := by kernel_rfl
def ref01_Compare_ro_l6_s (K : Nat) : Vm.LS := .two ref01_Compare_ro_l6_pre _ _ (.exit 0) ref01_Compare_ro_l6_post0 .ret ref01_Compare_ro_l6_post1 (ref01_Compare_ro_l6_w K K) ref01_Compare_ro_l6_enc0 ref01_Compare_ro_l6_enc1
theorem ref01_Compare_ro_l6_ok (K : Nat) : LoopOk Go.Proofs.Try.prog (lp (bodyOf Go.Proofs.Try.f39) 0) (ref01_Compare_ro_l6_s K) := loop_two hmix (env_law05_awake_ok K) (lenv := lenv0) (L := ref01_Compare_ro_l6_w K) (enc := ref01_Compare_ro_l6_enc0) (dec := ref01_Compare_ro_l6_dec0) (enc' := ref01_Compare_ro_l6_enc1) (dec' := ref01_Compare_ro_l6_dec1) (lps_ok (l := []) (by kernel_rfl) trivial) (fun u r h => by unfold ref01_Compare_ro_l6_dec0 at h; split at h; (obtain rfl := Option.some.inj h; rfl); cases h) (fun u r h => by unfold ref01_Compare_ro_l6_dec1 at h; split at h; (obtain rfl := Option.some.inj h; rfl); cases h) (fun us => by unfold ref01_Compare_ro_l6_w; split <;> first | rfl | (simp only [ref01_Compare_ro_l6])) (fun k us r h => by unfold ref01_Compare_ro_l6_w at h; split at h; exact ((den2_eq _).symm.trans (ref01_Compare_ro_l6_eq K k _ _ _)).trans h; cases h) K
def ref01_Compare_ro_v6 (K : Nat) : Nat → Option Vm.LS := addL (lenv0) 6 (ref01_Compare_ro_l6_s K)
def ref01_Compare_ro_dec : List U → Option (Int) := fun u => match u with | [.i x0] => some (x0) | _ => none
def ref01_Compare_ro_enc : (Int) → List U := fun r => [.i r]
def ref01_Compare_ro (K : Nat) (dd0 : List (List D)) (dd1 : List (List D)) : Option (Int) := (bi ((↑dd0.length : Int) != (↑dd1.length : Int))
    (bi (Decidable.decide ((↑dd0.length : Int) < (↑dd1.length : Int)))
    (some (-1))
    (some (1)))
    (casO (ref01_Compare_ro_l6 K K (D.l dd0).toL
  (D.l dd1).toL (Go.IntKind.i64.wrap ((↑dd0.length : Int) - 1))) (fun r0 => (some (0))) (fun r1 => (some r1))))
theorem ref01_Compare_ro_eq (K : Nat) (dd0 : List (List D)) (dd1 : List (List D)) : (runF Go.Proofs.Try.prog (env_law05_awake K) (ref01_Compare_ro_v6 K) Go.Proofs.Try.f39 [.one (.ro [.int .u64]), .one (.ro [.int .u64])] [.one (.int .i64)] ref01_Compare_ro_dec [.d dd0, .d dd1]).den2 = ref01_Compare_ro K dd0 dd1 := by kernel_rfl
def ref01_Compare_ro_w (K : Nat) : List U → Option (Int) := fun us => match us with | [.d dd0, .d dd1] => ref01_Compare_ro K dd0 dd1 | _ => none
def ref01_Compare_ro_spec (K : Nat) : Vm.Spec := ⟨[.one (.ro [.int .u64]), .one (.ro [.int .u64])], [.one (.int .i64)], Int, ref01_Compare_ro_w K, ref01_Compare_ro_enc⟩
theorem ref01_Compare_ro_ok (K : Nat) : FnOk Go.Proofs.Try.prog 39 (ref01_Compare_ro_spec K) := fn_ok' hmix (env_law05_awake_ok K) (lenv := ref01_Compare_ro_v6 K) (args := [.one (.ro [.int .u64]), .one (.ro [.int .u64])]) (res := [.one (.int .i64)]) (G := ref01_Compare_ro_w K) (enc := ref01_Compare_ro_enc) Go.Proofs.Try.func39 (lps_fn (l := [lp (bodyOf Go.Proofs.Try.f39) 0]) (by kernel_rfl) ⟨⟨6, ref01_Compare_ro_l6_s K, by kernel_rfl, by kernel_rfl, ref01_Compare_ro_l6_ok K⟩, trivial⟩) (dec := ref01_Compare_ro_dec) (fun u r h => by unfold ref01_Compare_ro_dec at h; split at h; (obtain rfl := Option.some.inj h; rfl); cases h) (fun us r h => by unfold ref01_Compare_ro_w at h; split at h; exact ((den2_eq _).symm.trans (ref01_Compare_ro_eq K _ _)).trans h; cases h)
def env_ref01_Compare_ro (K : Nat) : FuncId → Option Vm.Spec := addS (env_law05_awake K) 1000039 (ref01_Compare_ro_spec K)
theorem env_ref01_Compare_ro_ok (K : Nat) : EnvOk Go.Proofs.Try.prog (env_ref01_Compare_ro K) := addS_ok (env_law05_awake_ok K) (.inl ⟨callable Go.Proofs.Try.func39 (by kernel_rfl) (by kernel_rfl), ref01_Compare_ro_ok K⟩)
end Go.Proofs.Ytfeifhlnidkbbaa.F
