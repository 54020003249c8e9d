import Derived.Test.YtimhhefngigfeaaVmY
import Derived.Test.YtimhhefngigfeaaVmRc
import Derived.Test.YtimhhefngigfeaaVmMq
import Derived.Test.YtimhhefngigfeaaProg
import Derived.Test.YtimhhefngigfeaaGI
namespace Go.Proofs.Ytimhhefngigfeaa.F
open Go Go.Proofs.Ytimhhefngigfeaa.Vm
set_option maxRecDepth 1000000
set_option linter.unusedVariables false
set_option linter.unusedSimpArgs false
noncomputable section
def r1_Compare_ro_l6_pre : Vm.Pat := ⟨41, [(0, .pv (.one (.ro [.int .u64]))), (1, .pv (.one (.ro [.int .u64]))), (5, .pv (.one (.int .i64)))], [], []⟩
def r1_Compare_ro_l6_post0 : Vm.Pat := ⟨41, [], [], []⟩
def r1_Compare_ro_l6_enc0 : Unit → List U := fun _ => []
def r1_Compare_ro_l6_dec0 : List U → Option (Unit) := fun | [] => some () | _ => none
def r1_Compare_ro_l6_post1 : Vm.Pat := ⟨41, [(4, .pv (.one (.int .i64)))], [], []⟩
def r1_Compare_ro_l6_enc1 : Int → List U := fun r => [.i r]
def r1_Compare_ro_l6_dec1 : List U → Option (Int) := fun | [.i x4] => some (x4) | _ => none
def r1_Compare_ro_l6 (K : Nat) : Nat → List (List D) → List (List D) → Int → Option ((Unit) ⊕ (Int))
 | 0, _, _, _ => none
 | k + 1, dd0, dd1, x5 => (bi (decide (x5 ≥ 0))
 (bi (decide (0 ≤ x5) && decide (x5 < (↑dd0.length : Int)))
 (bi (decide (0 ≤ x5) && decide (x5 < (↑dd1.length : Int)))
 (bi (decide
 ((nth d0
 (nth [] dd0 x5.toNat) 0).toI <
 (nth d0
 (nth [] dd1 x5.toNat) 0).toI))
 (some (Sum.inr (-1)))
 (bi (decide (0 ≤ x5) && decide (x5 < (↑dd0.length : Int)))
 (bi (decide (0 ≤ x5) && decide (x5 < (↑dd1.length : Int)))
 (bi (decide
 ((nth d0
 (nth [] dd0 x5.toNat) 0).toI >
 (nth d0
 (nth [] dd1 x5.toNat) 0).toI))
 (some (Sum.inr 1))
 (r1_Compare_ro_l6 K k ((D.l dd0).toL) ((D.l dd1).toL) (IntKind.i64.wrap (x5 - 1))))
 none)
 none))
 none)
 none)
 (some (Sum.inl ())))
def r1_Compare_ro_l6_w (K k : Nat) : List U → Option ((Unit) ⊕ (Int)) := fun | [.d dd0, .d dd1, .i x5] => r1_Compare_ro_l6 K k dd0 dd1 x5 | _ => none
theorem r1_Compare_ro_l6_eq (K k : Nat) (dd0 : List (List D)) (dd1 : List (List D)) (x5 : Int) : (round2K Try.prog (env_cL_Trial K) (lenv0) (lp (bodyOf Try.f30) 0) r1_Compare_ro_l6_pre (.exit 0) r1_Compare_ro_l6_post0 .ret r1_Compare_ro_l6_post1 r1_Compare_ro_l6_dec0 r1_Compare_ro_l6_dec1 (r1_Compare_ro_l6_w K k) [.d dd0, .d dd1, .i x5]).den2 = r1_Compare_ro_l6 K (k + 1) dd0 dd1 x5 := by kernel_rfl
def r1_Compare_ro_l6_s (K : Nat) : Vm.LS := .two r1_Compare_ro_l6_pre _ _ (.exit 0) r1_Compare_ro_l6_post0 .ret r1_Compare_ro_l6_post1 (r1_Compare_ro_l6_w K K) r1_Compare_ro_l6_enc0 r1_Compare_ro_l6_enc1
theorem r1_Compare_ro_l6_ok (K : Nat) : LoopOk Try.prog (lp (bodyOf Try.f30) 0) (r1_Compare_ro_l6_s K) := loop_twoK hmix (env_cL_Trial_ok K) (lenv := lenv0) (L := r1_Compare_ro_l6_w K) (enc := r1_Compare_ro_l6_enc0) (dec := r1_Compare_ro_l6_dec0) (enc' := r1_Compare_ro_l6_enc1) (dec' := r1_Compare_ro_l6_dec1) (lps_ok (l := []) (by kernel_rfl) trivial) (fun u r h => by unfold r1_Compare_ro_l6_dec0 at h; split at h; (cases h; rfl); cases h) (fun u r h => by unfold r1_Compare_ro_l6_dec1 at h; split at h; (cases h; rfl); cases h) (fun us => by unfold r1_Compare_ro_l6_w; split <;> first | rfl | (simp only [r1_Compare_ro_l6])) (fun k us r h => by unfold r1_Compare_ro_l6_w at h; split at h; exact ((den2_eq _).symm.trans (r1_Compare_ro_l6_eq K k _ _ _)).trans h; cases h) K
def r1_Compare_ro_v6 (K : Nat) : Nat → Option Vm.LS := addL (lenv0) 6 (r1_Compare_ro_l6_s K)
def r1_Compare_ro_dec : List U → Option (Int) := fun | [.i x0] => some (x0) | _ => none
def r1_Compare_ro_enc : (Int) → List U := fun r => [.i r]
def r1_Compare_ro (K : Nat) (dd0 : List (List D)) (dd1 : List (List D)) : Option (Int) := (bi ((↑dd0.length : Int) != (↑dd1.length : Int))
 (bi (decide ((↑dd0.length : Int) < (↑dd1.length : Int)))
 (some (-1))
 (some (1)))
 (casO (r1_Compare_ro_l6 K K (D.l dd0).toL
 (D.l dd1).toL (IntKind.i64.wrap ((↑dd0.length : Int) - 1))) (fun r0 => (some (0))) (fun r1 => (some r1))))
theorem r1_Compare_ro_eq (K : Nat) (dd0 : List (List D)) (dd1 : List (List D)) : (runFK Try.prog (env_cL_Trial K) (r1_Compare_ro_v6 K) Try.f30 [.one (.ro [.int .u64]), .one (.ro [.int .u64])] [.one (.int .i64)] r1_Compare_ro_dec [.d dd0, .d dd1]).den2 = r1_Compare_ro K dd0 dd1 := by kernel_rfl
def r1_Compare_ro_w (K : Nat) : List U → Option (Int) := fun | [.d dd0, .d dd1] => r1_Compare_ro K dd0 dd1 | _ => none
def r1_Compare_ro_spec (K : Nat) : Vm.Spec := ⟨[.one (.ro [.int .u64]), .one (.ro [.int .u64])], [.one (.int .i64)], Int, r1_Compare_ro_w K, r1_Compare_ro_enc⟩
theorem r1_Compare_ro_ok (K : Nat) : FnOk Try.prog 30 (r1_Compare_ro_spec K) := fn_okK' hmix (env_cL_Trial_ok K) (lenv := r1_Compare_ro_v6 K) (args := [.one (.ro [.int .u64]), .one (.ro [.int .u64])]) (res := [.one (.int .i64)]) (G := r1_Compare_ro_w K) (enc := r1_Compare_ro_enc) Try.func30 (lps_fn (l := [lp (bodyOf Try.f30) 0]) (by kernel_rfl) ⟨⟨6, r1_Compare_ro_l6_s K, by kernel_rfl, by kernel_rfl, r1_Compare_ro_l6_ok K⟩, trivial⟩) (dec := r1_Compare_ro_dec) (fun u r h => by unfold r1_Compare_ro_dec at h; split at h; (cases h; rfl); cases h) (fun us r h => by unfold r1_Compare_ro_w at h; split at h; exact ((den2_eq _).symm.trans (r1_Compare_ro_eq K _ _)).trans h; cases h)
def env_r1_Compare_ro (K : Nat) : FuncId → Option Vm.Spec := addS (env_cL_Trial K) 1000030 (r1_Compare_ro_spec K)
theorem env_r1_Compare_ro_ok (K : Nat) : EnvOk Try.prog (env_r1_Compare_ro K) := addS_ok (env_cL_Trial_ok K) (.inl ⟨callable Try.func30 (by kernel_rfl) (by kernel_rfl), r1_Compare_ro_ok K⟩)
def r1_Plus_ro_l4_pre : Vm.Pat := ⟨53, [(0, .pv (.one (.ro [.int .u64]))), (1, .pv (.one (.ro [.int .u64]))), (5, .pv (.one (.row .u64 true))), (6, .pv (.one (.int .u64))), (7, .pv (.one (.int .i64)))], [], []⟩
def r1_Plus_ro_l4_post0 : Vm.Pat := ⟨53, [(5, .pv (.one (.row .u64 true)))], [], []⟩
def r1_Plus_ro_l4_enc0 : List Int → List U := fun r => [.r r]
def r1_Plus_ro_l4_dec0 : List U → Option (List Int) := fun | [.r l5] => some (l5) | _ => none
def r1_Plus_ro_l4 (K : Nat) : Nat → List (List D) → List (List D) → List Int → Int → Int → Option (List Int)
 | 0, _, _, _, _, _ => none
 | k + 1, dd0, dd1, l5, x6, x7 => (bi (decide (x7 < (↑dd0.length : Int)))
 (bi (decide (x7 < (↑dd0.length : Int)))
 (bi (decide (0 ≤ x7) && decide (x7 < (↑dd0.length : Int)))
 (bi (decide (x7 < (↑dd1.length : Int)))
 (bi (decide (0 ≤ x7) && decide (x7 < (↑dd1.length : Int)))
 (bi (decide (l5.length + 1 ≤ 17592186044416))
 (r1_Plus_ro_l4 K k ((D.l dd0).toL) ((D.l dd1).toL) (l5 ++
 [(IntKind.u64.wrap
 (IntKind.u64.wrap
 (x6 +
 (nth d0
 (nth [] dd0 x7.toNat) 0).toI) +
 (nth d0
 (nth [] dd1 x7.toNat) 0).toI)).tmod
 4294967296]) (IntKind.u64.wrap
 ((IntKind.u64.wrap
 (IntKind.u64.wrap
 (x6 +
 (nth d0
 (nth [] dd0 x7.toNat) 0).toI) +
 (nth d0
 (nth [] dd1 x7.toNat) 0).toI)).tdiv
 4294967296)) (IntKind.i64.wrap (x7 + 1)))
 none)
 none)
 (bi (decide (l5.length + 1 ≤ 17592186044416))
 (r1_Plus_ro_l4 K k ((D.l dd0).toL) ((D.l dd1).toL) (l5 ++
 [(IntKind.u64.wrap
 (x6 +
 (nth d0
 (nth [] dd0 x7.toNat) 0).toI)).tmod
 4294967296]) (IntKind.u64.wrap
 ((IntKind.u64.wrap
 (x6 +
 (nth d0
 (nth [] dd0 x7.toNat) 0).toI)).tdiv
 4294967296)) (IntKind.i64.wrap (x7 + 1)))
 none))
 none)
 (bi (decide (x7 < (↑dd1.length : Int)))
 (bi (decide (0 ≤ x7) && decide (x7 < (↑dd1.length : Int)))
 (bi (decide (l5.length + 1 ≤ 17592186044416))
 (r1_Plus_ro_l4 K k ((D.l dd0).toL) ((D.l dd1).toL) (l5 ++
 [(IntKind.u64.wrap
 (x6 +
 (nth d0
 (nth [] dd1 x7.toNat) 0).toI)).tmod
 4294967296]) (IntKind.u64.wrap
 ((IntKind.u64.wrap
 (x6 +
 (nth d0
 (nth [] dd1 x7.toNat) 0).toI)).tdiv
 4294967296)) (IntKind.i64.wrap (x7 + 1)))
 none)
 none)
 (bi (decide (l5.length + 1 ≤ 17592186044416))
 (r1_Plus_ro_l4 K k ((D.l dd0).toL) ((D.l dd1).toL) (l5 ++ [x6.tmod 4294967296]) (IntKind.u64.wrap (x6.tdiv 4294967296)) (IntKind.i64.wrap (x7 + 1)))
 none)))
 (bi (decide (x7 < (↑dd1.length : Int)))
 (bi (decide (x7 < (↑dd0.length : Int)))
 (bi (decide (0 ≤ x7) && decide (x7 < (↑dd0.length : Int)))
 (bi (decide (x7 < (↑dd1.length : Int)))
 (bi (decide (0 ≤ x7) && decide (x7 < (↑dd1.length : Int)))
 (bi (decide (l5.length + 1 ≤ 17592186044416))
 (r1_Plus_ro_l4 K k ((D.l dd0).toL) ((D.l dd1).toL) (l5 ++
 [(IntKind.u64.wrap
 (IntKind.u64.wrap
 (x6 +
 (nth d0
 (nth [] dd0 x7.toNat) 0).toI) +
 (nth d0
 (nth [] dd1 x7.toNat) 0).toI)).tmod
 4294967296]) (IntKind.u64.wrap
 ((IntKind.u64.wrap
 (IntKind.u64.wrap
 (x6 +
 (nth d0
 (nth [] dd0 x7.toNat) 0).toI) +
 (nth d0
 (nth [] dd1 x7.toNat) 0).toI)).tdiv
 4294967296)) (IntKind.i64.wrap (x7 + 1)))
 none)
 none)
 (bi (decide (l5.length + 1 ≤ 17592186044416))
 (r1_Plus_ro_l4 K k ((D.l dd0).toL) ((D.l dd1).toL) (l5 ++
 [(IntKind.u64.wrap
 (x6 +
 (nth d0
 (nth [] dd0 x7.toNat) 0).toI)).tmod
 4294967296]) (IntKind.u64.wrap
 ((IntKind.u64.wrap
 (x6 +
 (nth d0
 (nth [] dd0 x7.toNat) 0).toI)).tdiv
 4294967296)) (IntKind.i64.wrap (x7 + 1)))
 none))
 none)
 (bi (decide (x7 < (↑dd1.length : Int)))
 (bi (decide (0 ≤ x7) && decide (x7 < (↑dd1.length : Int)))
 (bi (decide (l5.length + 1 ≤ 17592186044416))
 (r1_Plus_ro_l4 K k ((D.l dd0).toL) ((D.l dd1).toL) (l5 ++
 [(IntKind.u64.wrap
 (x6 +
 (nth d0
 (nth [] dd1 x7.toNat) 0).toI)).tmod
 4294967296]) (IntKind.u64.wrap
 ((IntKind.u64.wrap
 (x6 +
 (nth d0
 (nth [] dd1 x7.toNat) 0).toI)).tdiv
 4294967296)) (IntKind.i64.wrap (x7 + 1)))
 none)
 none)
 (bi (decide (l5.length + 1 ≤ 17592186044416))
 (r1_Plus_ro_l4 K k ((D.l dd0).toL) ((D.l dd1).toL) (l5 ++ [x6.tmod 4294967296]) (IntKind.u64.wrap (x6.tdiv 4294967296)) (IntKind.i64.wrap (x7 + 1)))
 none)))
 (bi (decide (x6 > 0))
 (bi (decide (x7 < (↑dd0.length : Int)))
 (bi (decide (0 ≤ x7) && decide (x7 < (↑dd0.length : Int)))
 (bi (decide (x7 < (↑dd1.length : Int)))
 (bi (decide (0 ≤ x7) && decide (x7 < (↑dd1.length : Int)))
 (bi (decide (l5.length + 1 ≤ 17592186044416))
 (r1_Plus_ro_l4 K k ((D.l dd0).toL) ((D.l dd1).toL) (l5 ++
 [(IntKind.u64.wrap
 (IntKind.u64.wrap
 (x6 +
 (nth d0
 (nth [] dd0 x7.toNat) 0).toI) +
 (nth d0
 (nth [] dd1 x7.toNat) 0).toI)).tmod
 4294967296]) (IntKind.u64.wrap
 ((IntKind.u64.wrap
 (IntKind.u64.wrap
 (x6 +
 (nth d0
 (nth [] dd0 x7.toNat) 0).toI) +
 (nth d0
 (nth [] dd1 x7.toNat) 0).toI)).tdiv
 4294967296)) (IntKind.i64.wrap (x7 + 1)))
 none)
 none)
 (bi (decide (l5.length + 1 ≤ 17592186044416))
 (r1_Plus_ro_l4 K k ((D.l dd0).toL) ((D.l dd1).toL) (l5 ++
 [(IntKind.u64.wrap
 (x6 +
 (nth d0
 (nth [] dd0 x7.toNat) 0).toI)).tmod
 4294967296]) (IntKind.u64.wrap
 ((IntKind.u64.wrap
 (x6 +
 (nth d0
 (nth [] dd0 x7.toNat) 0).toI)).tdiv
 4294967296)) (IntKind.i64.wrap (x7 + 1)))
 none))
 none)
 (bi (decide (x7 < (↑dd1.length : Int)))
 (bi (decide (0 ≤ x7) && decide (x7 < (↑dd1.length : Int)))
 (bi (decide (l5.length + 1 ≤ 17592186044416))
 (r1_Plus_ro_l4 K k ((D.l dd0).toL) ((D.l dd1).toL) (l5 ++
 [(IntKind.u64.wrap
 (x6 +
 (nth d0
 (nth [] dd1 x7.toNat) 0).toI)).tmod
 4294967296]) (IntKind.u64.wrap
 ((IntKind.u64.wrap
 (x6 +
 (nth d0
 (nth [] dd1 x7.toNat) 0).toI)).tdiv
 4294967296)) (IntKind.i64.wrap (x7 + 1)))
 none)
 none)
 (bi (decide (l5.length + 1 ≤ 17592186044416))
 (r1_Plus_ro_l4 K k ((D.l dd0).toL) ((D.l dd1).toL) (l5 ++ [x6.tmod 4294967296]) (IntKind.u64.wrap (x6.tdiv 4294967296)) (IntKind.i64.wrap (x7 + 1)))
 none)))
 (some l5))))
def r1_Plus_ro_l4_w (K k : Nat) : List U → Option (List Int) := fun | [.d dd0, .d dd1, .r l5, .i x6, .i x7] => r1_Plus_ro_l4 K k dd0 dd1 l5 x6 x7 | _ => none
theorem r1_Plus_ro_l4_eq (K k : Nat) (dd0 : List (List D)) (dd1 : List (List D)) (l5 : List Int) (x6 : Int) (x7 : Int) : (round1K Try.prog (env_r1_Compare_ro K) (lenv0) (lp (bodyOf Try.f50) 0) r1_Plus_ro_l4_pre (.exit 0) r1_Plus_ro_l4_post0 r1_Plus_ro_l4_dec0 (r1_Plus_ro_l4_w K k) [.d dd0, .d dd1, .r l5, .i x6, .i x7]).den2 = r1_Plus_ro_l4 K (k + 1) dd0 dd1 l5 x6 x7 := by kernel_rfl
def r1_Plus_ro_l4_s (K : Nat) : Vm.LS := .one r1_Plus_ro_l4_pre _ (.exit 0) r1_Plus_ro_l4_post0 (r1_Plus_ro_l4_w K K) r1_Plus_ro_l4_enc0
theorem r1_Plus_ro_l4_ok (K : Nat) : LoopOk Try.prog (lp (bodyOf Try.f50) 0) (r1_Plus_ro_l4_s K) := loop_oneK hmix (env_r1_Compare_ro_ok K) (lenv := lenv0) (L := r1_Plus_ro_l4_w K) (enc := r1_Plus_ro_l4_enc0) (dec := r1_Plus_ro_l4_dec0) (lps_ok (l := []) (by kernel_rfl) trivial) (fun u r h => by unfold r1_Plus_ro_l4_dec0 at h; split at h; (cases h; rfl); cases h) (fun us => by unfold r1_Plus_ro_l4_w; split <;> first | rfl | (simp only [r1_Plus_ro_l4])) (fun k us r h => by unfold r1_Plus_ro_l4_w at h; split at h; exact ((den2_eq _).symm.trans (r1_Plus_ro_l4_eq K k _ _ _ _ _)).trans h; cases h) K
def r1_Plus_ro_v4 (K : Nat) : Nat → Option Vm.LS := addL (lenv0) 4 (r1_Plus_ro_l4_s K)
def r1_Plus_ro_dec : List U → Option (List Int) := fun | [.r l0] => some (l0) | _ => none
def r1_Plus_ro_enc : (List Int) → List U := fun r => [.r r]
def r1_Plus_ro (K : Nat) (dd0 : List (List D)) (dd1 : List (List D)) : Option (List Int) := ((r1_Plus_ro_l4 K K (D.l dd0).toL
 (D.l dd1).toL [] 0 0).bind fun r0 => ((r1_Norm K r0).bind fun r1 => (some r1)))
theorem r1_Plus_ro_eq (K : Nat) (dd0 : List (List D)) (dd1 : List (List D)) : (runFK Try.prog (env_r1_Compare_ro K) (r1_Plus_ro_v4 K) Try.f50 [.one (.ro [.int .u64]), .one (.ro [.int .u64])] [.one (.row .u64 false)] r1_Plus_ro_dec [.d dd0, .d dd1]).den2 = r1_Plus_ro K dd0 dd1 := by kernel_rfl
def r1_Plus_ro_w (K : Nat) : List U → Option (List Int) := fun | [.d dd0, .d dd1] => r1_Plus_ro K dd0 dd1 | _ => none
def r1_Plus_ro_spec (K : Nat) : Vm.Spec := ⟨[.one (.ro [.int .u64]), .one (.ro [.int .u64])], [.one (.row .u64 false)], List Int, r1_Plus_ro_w K, r1_Plus_ro_enc⟩
theorem r1_Plus_ro_ok (K : Nat) : FnOk Try.prog 50 (r1_Plus_ro_spec K) := fn_okK' hmix (env_r1_Compare_ro_ok K) (lenv := r1_Plus_ro_v4 K) (args := [.one (.ro [.int .u64]), .one (.ro [.int .u64])]) (res := [.one (.row .u64 false)]) (G := r1_Plus_ro_w K) (enc := r1_Plus_ro_enc) Try.func50 (lps_fn (l := [lp (bodyOf Try.f50) 0]) (by kernel_rfl) ⟨⟨4, r1_Plus_ro_l4_s K, by kernel_rfl, by kernel_rfl, r1_Plus_ro_l4_ok K⟩, trivial⟩) (dec := r1_Plus_ro_dec) (fun u r h => by unfold r1_Plus_ro_dec at h; split at h; (cases h; rfl); cases h) (fun us r h => by unfold r1_Plus_ro_w at h; split at h; exact ((den2_eq _).symm.trans (r1_Plus_ro_eq K _ _)).trans h; cases h)
def env_r1_Plus_ro (K : Nat) : FuncId → Option Vm.Spec := addS (env_r1_Compare_ro K) 1000050 (r1_Plus_ro_spec K)
theorem env_r1_Plus_ro_ok (K : Nat) : EnvOk Try.prog (env_r1_Plus_ro K) := addS_ok (env_r1_Compare_ro_ok K) (.inl ⟨callable Try.func50 (by kernel_rfl) (by kernel_rfl), r1_Plus_ro_ok K⟩)
def r1_Minus_ro_l4_pre : Vm.Pat := ⟨45, [(0, .pv (.one (.ro [.int .u64]))), (1, .pv (.one (.ro [.int .u64]))), (5, .pv (.one (.row .u64 true))), (6, .pv (.one (.int .u64))), (13, .pv (.one (.int .i64))), (14, .pv (.one (.int .i64)))], [], []⟩
def r1_Minus_ro_l4_post0 : Vm.Pat := ⟨45, [(5, .pv (.one (.row .u64 true)))], [], []⟩
def r1_Minus_ro_l4_enc0 : List Int → List U := fun r => [.r r]
def r1_Minus_ro_l4_dec0 : List U → Option (List Int) := fun | [.r l5] => some (l5) | _ => none
def r1_Minus_ro_l4 (K : Nat) : Nat → List (List D) → List (List D) → List Int → Int → Int → Int → Option (List Int)
 | 0, _, _, _, _, _, _ => none
 | k + 1, dd0, dd1, l5, x6, x13, x14 => (bi (decide (x14 < x13))
 (bi (decide (0 ≤ x14) && decide (x14 < (↑dd0.length : Int)))
 (bi (decide (x14 < (↑dd1.length : Int)))
 (bi (decide (0 ≤ x14) && decide (x14 < (↑dd1.length : Int)))
 (bi (decide (0 ≤ x14) && decide (x14 < (↑l5.length : Int)))
 (r1_Minus_ro_l4 K k ((D.l dd0).toL) ((D.l dd1).toL) (l5.set x14.toNat
 ((IntKind.u64.wrap
 (IntKind.u64.wrap
 (IntKind.u64.wrap
 ((nth d0
 (nth [] dd0 x14.toNat) 0).toI +
 4294967296) -
 x6) -
 (nth d0
 (nth [] dd1 x14.toNat) 0).toI)).tmod
 4294967296)) (IntKind.u64.wrap
 (1 -
 IntKind.u64.wrap
 ((IntKind.u64.wrap
 (IntKind.u64.wrap
 (IntKind.u64.wrap
 ((nth d0
 (nth [] dd0 x14.toNat) 0).toI +
 4294967296) -
 x6) -
 (nth d0
 (nth [] dd1 x14.toNat) 0).toI)).tdiv
 4294967296))) (x13) (IntKind.i64.wrap (x14 + 1)))
 none)
 none)
 (bi (decide (0 ≤ x14) && decide (x14 < (↑l5.length : Int)))
 (r1_Minus_ro_l4 K k ((D.l dd0).toL) ((D.l dd1).toL) (l5.set x14.toNat
 ((IntKind.u64.wrap
 (IntKind.u64.wrap
 ((nth d0
 (nth [] dd0 x14.toNat) 0).toI +
 4294967296) -
 x6)).tmod
 4294967296)) (IntKind.u64.wrap
 (1 -
 IntKind.u64.wrap
 ((IntKind.u64.wrap
 (IntKind.u64.wrap
 ((nth d0
 (nth [] dd0 x14.toNat) 0).toI +
 4294967296) -
 x6)).tdiv
 4294967296))) (x13) (IntKind.i64.wrap (x14 + 1)))
 none))
 none)
 (some l5))
def r1_Minus_ro_l4_w (K k : Nat) : List U → Option (List Int) := fun | [.d dd0, .d dd1, .r l5, .i x6, .i x13, .i x14] => r1_Minus_ro_l4 K k dd0 dd1 l5 x6 x13 x14 | _ => none
theorem r1_Minus_ro_l4_eq (K k : Nat) (dd0 : List (List D)) (dd1 : List (List D)) (l5 : List Int) (x6 : Int) (x13 : Int) (x14 : Int) : (round1K Try.prog (env_r1_Plus_ro K) (lenv0) (lp (bodyOf Try.f51) 0) r1_Minus_ro_l4_pre (.exit 0) r1_Minus_ro_l4_post0 r1_Minus_ro_l4_dec0 (r1_Minus_ro_l4_w K k) [.d dd0, .d dd1, .r l5, .i x6, .i x13, .i x14]).den2 = r1_Minus_ro_l4 K (k + 1) dd0 dd1 l5 x6 x13 x14 := by kernel_rfl
def r1_Minus_ro_l4_s (K : Nat) : Vm.LS := .one r1_Minus_ro_l4_pre _ (.exit 0) r1_Minus_ro_l4_post0 (r1_Minus_ro_l4_w K K) r1_Minus_ro_l4_enc0
theorem r1_Minus_ro_l4_ok (K : Nat) : LoopOk Try.prog (lp (bodyOf Try.f51) 0) (r1_Minus_ro_l4_s K) := loop_oneK hmix (env_r1_Plus_ro_ok K) (lenv := lenv0) (L := r1_Minus_ro_l4_w K) (enc := r1_Minus_ro_l4_enc0) (dec := r1_Minus_ro_l4_dec0) (lps_ok (l := []) (by kernel_rfl) trivial) (fun u r h => by unfold r1_Minus_ro_l4_dec0 at h; split at h; (cases h; rfl); cases h) (fun us => by unfold r1_Minus_ro_l4_w; split <;> first | rfl | (simp only [r1_Minus_ro_l4])) (fun k us r h => by unfold r1_Minus_ro_l4_w at h; split at h; exact ((den2_eq _).symm.trans (r1_Minus_ro_l4_eq K k _ _ _ _ _ _)).trans h; cases h) K
def r1_Minus_ro_v4 (K : Nat) : Nat → Option Vm.LS := addL (lenv0) 4 (r1_Minus_ro_l4_s K)
def r1_Minus_ro_dec : List U → Option (List Int) := fun | [.r l0] => some (l0) | _ => none
def r1_Minus_ro_enc : (List Int) → List U := fun r => [.r r]
def r1_Minus_ro (K : Nat) (dd0 : List (List D)) (dd1 : List (List D)) : Option (List Int) := (bi (decide (0 ≤ (↑dd0.length : Int)) && decide ((↑dd0.length : Int) ≤ (↑dd0.length : Int)) &&
 decide ((↑dd0.length : Int) ≤ 17592186044416))
 ((r1_Minus_ro_l4 K K (D.l dd0).toL
 (D.l dd1).toL (List.replicate (↑dd0.length : Int).toNat 0) 0 (↑dd0.length : Int) 0).bind fun r0 => ((r1_Norm K r0).bind fun r1 => (some r1)))
 none)
theorem r1_Minus_ro_eq (K : Nat) (dd0 : List (List D)) (dd1 : List (List D)) : (runFK Try.prog (env_r1_Plus_ro K) (r1_Minus_ro_v4 K) Try.f51 [.one (.ro [.int .u64]), .one (.ro [.int .u64])] [.one (.row .u64 false)] r1_Minus_ro_dec [.d dd0, .d dd1]).den2 = r1_Minus_ro K dd0 dd1 := by kernel_rfl
def r1_Minus_ro_w (K : Nat) : List U → Option (List Int) := fun | [.d dd0, .d dd1] => r1_Minus_ro K dd0 dd1 | _ => none
def r1_Minus_ro_spec (K : Nat) : Vm.Spec := ⟨[.one (.ro [.int .u64]), .one (.ro [.int .u64])], [.one (.row .u64 false)], List Int, r1_Minus_ro_w K, r1_Minus_ro_enc⟩
theorem r1_Minus_ro_ok (K : Nat) : FnOk Try.prog 51 (r1_Minus_ro_spec K) := fn_okK' hmix (env_r1_Plus_ro_ok K) (lenv := r1_Minus_ro_v4 K) (args := [.one (.ro [.int .u64]), .one (.ro [.int .u64])]) (res := [.one (.row .u64 false)]) (G := r1_Minus_ro_w K) (enc := r1_Minus_ro_enc) Try.func51 (lps_fn (l := [lp (bodyOf Try.f51) 0]) (by kernel_rfl) ⟨⟨4, r1_Minus_ro_l4_s K, by kernel_rfl, by kernel_rfl, r1_Minus_ro_l4_ok K⟩, trivial⟩) (dec := r1_Minus_ro_dec) (fun u r h => by unfold r1_Minus_ro_dec at h; split at h; (cases h; rfl); cases h) (fun us r h => by unfold r1_Minus_ro_w at h; split at h; exact ((den2_eq _).symm.trans (r1_Minus_ro_eq K _ _)).trans h; cases h)
def env_r1_Minus_ro (K : Nat) : FuncId → Option Vm.Spec := addS (env_r1_Plus_ro K) 1000051 (r1_Minus_ro_spec K)
theorem env_r1_Minus_ro_ok (K : Nat) : EnvOk Try.prog (env_r1_Minus_ro K) := addS_ok (env_r1_Plus_ro_ok K) (.inl ⟨callable Try.func51 (by kernel_rfl) (by kernel_rfl), r1_Minus_ro_ok K⟩)
def r1_Size_ro_l5_pre : Vm.Pat := ⟨25, [(3, .pv (.one (.int .i64))), (4, .pv (.one (.int .u64)))], [], []⟩
def r1_Size_ro_l5_post0 : Vm.Pat := ⟨25, [(3, .pv (.one (.int .i64)))], [], []⟩
def r1_Size_ro_l5_enc0 : Int → List U := fun r => [.i r]
def r1_Size_ro_l5_dec0 : List U → Option (Int) := fun | [.i x3] => some (x3) | _ => none
def r1_Size_ro_l5 (K : Nat) : Nat → Int → Int → Option (Int)
 | 0, _, _ => none
 | k + 1, x3, x4 => (bi (decide (x4 > 0))
 (r1_Size_ro_l5 K k (IntKind.i64.wrap (x3 + 1)) (IntKind.u64.wrap (x4.tdiv 2)))
 (some x3))
def r1_Size_ro_l5_w (K k : Nat) : List U → Option (Int) := fun | [.i x3, .i x4] => r1_Size_ro_l5 K k x3 x4 | _ => none
theorem r1_Size_ro_l5_eq (K k : Nat) (x3 : Int) (x4 : Int) : (round1K Try.prog (env_r1_Minus_ro K) (lenv0) (lp (bodyOf Try.f71) 0) r1_Size_ro_l5_pre (.exit 0) r1_Size_ro_l5_post0 r1_Size_ro_l5_dec0 (r1_Size_ro_l5_w K k) [.i x3, .i x4]).den2 = r1_Size_ro_l5 K (k + 1) x3 x4 := by kernel_rfl
def r1_Size_ro_l5_s (K : Nat) : Vm.LS := .one r1_Size_ro_l5_pre _ (.exit 0) r1_Size_ro_l5_post0 (r1_Size_ro_l5_w K K) r1_Size_ro_l5_enc0
theorem r1_Size_ro_l5_ok (K : Nat) : LoopOk Try.prog (lp (bodyOf Try.f71) 0) (r1_Size_ro_l5_s K) := loop_oneK hmix (env_r1_Minus_ro_ok K) (lenv := lenv0) (L := r1_Size_ro_l5_w K) (enc := r1_Size_ro_l5_enc0) (dec := r1_Size_ro_l5_dec0) (lps_ok (l := []) (by kernel_rfl) trivial) (fun u r h => by unfold r1_Size_ro_l5_dec0 at h; split at h; (cases h; rfl); cases h) (fun us => by unfold r1_Size_ro_l5_w; split <;> first | rfl | (simp only [r1_Size_ro_l5])) (fun k us r h => by unfold r1_Size_ro_l5_w at h; split at h; exact ((den2_eq _).symm.trans (r1_Size_ro_l5_eq K k _ _)).trans h; cases h) K
def r1_Size_ro_v5 (K : Nat) : Nat → Option Vm.LS := addL (lenv0) 5 (r1_Size_ro_l5_s K)
def r1_Size_ro_dec : List U → Option (Int) := fun | [.i x0] => some (x0) | _ => none
def r1_Size_ro_enc : (Int) → List U := fun r => [.i r]
def r1_Size_ro (K : Nat) (dd0 : List (List D)) : Option (Int) := (bi ((↑dd0.length : Int) == 0)
 (some (0))
 (bi (decide (0 ≤ IntKind.i64.wrap ((↑dd0.length : Int) - 1)) &&
 decide (IntKind.i64.wrap ((↑dd0.length : Int) - 1) < (↑dd0.length : Int)))
 ((r1_Size_ro_l5 K K
 (IntKind.i64.wrap (32 * IntKind.i64.wrap ((↑dd0.length : Int) - 1)))
 (nth d0
 (nth [] dd0 (IntKind.i64.wrap ((↑dd0.length : Int) - 1)).toNat) 0).toI).bind fun r0 => (some r0))
 none))
theorem r1_Size_ro_eq (K : Nat) (dd0 : List (List D)) : (runFK Try.prog (env_r1_Minus_ro K) (r1_Size_ro_v5 K) Try.f71 [.one (.ro [.int .u64])] [.one (.int .i64)] r1_Size_ro_dec [.d dd0]).den2 = r1_Size_ro K dd0 := by kernel_rfl
def r1_Size_ro_w (K : Nat) : List U → Option (Int) := fun | [.d dd0] => r1_Size_ro K dd0 | _ => none
def r1_Size_ro_spec (K : Nat) : Vm.Spec := ⟨[.one (.ro [.int .u64])], [.one (.int .i64)], Int, r1_Size_ro_w K, r1_Size_ro_enc⟩
theorem r1_Size_ro_ok (K : Nat) : FnOk Try.prog 71 (r1_Size_ro_spec K) := fn_okK' hmix (env_r1_Minus_ro_ok K) (lenv := r1_Size_ro_v5 K) (args := [.one (.ro [.int .u64])]) (res := [.one (.int .i64)]) (G := r1_Size_ro_w K) (enc := r1_Size_ro_enc) Try.func71 (lps_fn (l := [lp (bodyOf Try.f71) 0]) (by kernel_rfl) ⟨⟨5, r1_Size_ro_l5_s K, by kernel_rfl, by kernel_rfl, r1_Size_ro_l5_ok K⟩, trivial⟩) (dec := r1_Size_ro_dec) (fun u r h => by unfold r1_Size_ro_dec at h; split at h; (cases h; rfl); cases h) (fun us r h => by unfold r1_Size_ro_w at h; split at h; exact ((den2_eq _).symm.trans (r1_Size_ro_eq K _)).trans h; cases h)
def env_r1_Size_ro (K : Nat) : FuncId → Option Vm.Spec := addS (env_r1_Minus_ro K) 1000071 (r1_Size_ro_spec K)
theorem env_r1_Size_ro_ok (K : Nat) : EnvOk Try.prog (env_r1_Size_ro K) := addS_ok (env_r1_Minus_ro_ok K) (.inl ⟨callable Try.func71 (by kernel_rfl) (by kernel_rfl), r1_Size_ro_ok K⟩)
def r1_Sum_ro_dec : List U → Option (Bool × List Int) := fun | [.b c0_0, .r l0_1] => some (c0_0, l0_1) | _ => none
def r1_Sum_ro_enc : (Bool × List Int) → List U := fun r => [.b r.1, .r r.2]
def r1_Sum_ro (K : Nat) (c0_0 : Bool) (dd0_1 : List (List D)) (c1_0 : Bool) (dd1_1 : List (List D)) : Option (Bool × List Int) := (bi (c0_0 == c1_0)
 ((r1_Plus_ro K (D.l dd0_1).toL
 (D.l dd1_1).toL).bind fun r0 => (some ((c0_0, r0))))
 ((r1_Compare_ro K (D.l dd0_1).toL
 (D.l dd1_1).toL).bind fun r1 => (bi (decide (r1 ≥ 0))
 ((r1_Minus_ro K (D.l dd0_1).toL
 (D.l dd1_1).toL).bind fun r2 => (some ((c0_0, r2))))
 ((r1_Minus_ro K (D.l dd1_1).toL
 (D.l dd0_1).toL).bind fun r3 => (some ((c1_0, r3)))))))
theorem r1_Sum_ro_eq (K : Nat) (c0_0 : Bool) (dd0_1 : List (List D)) (c1_0 : Bool) (dd1_1 : List (List D)) : (runFK Try.prog (env_r1_Size_ro K) (lenv0) Try.f29 [.agg [.bool, .ro [.int .u64]], .agg [.bool, .ro [.int .u64]]] [.agg [.bool, .row .u64 false]] r1_Sum_ro_dec [.b c0_0, .d dd0_1, .b c1_0, .d dd1_1]).den2 = r1_Sum_ro K c0_0 dd0_1 c1_0 dd1_1 := by kernel_rfl
def r1_Sum_ro_w (K : Nat) : List U → Option (Bool × List Int) := fun | [.b c0_0, .d dd0_1, .b c1_0, .d dd1_1] => r1_Sum_ro K c0_0 dd0_1 c1_0 dd1_1 | _ => none
def r1_Sum_ro_spec (K : Nat) : Vm.Spec := ⟨[.agg [.bool, .ro [.int .u64]], .agg [.bool, .ro [.int .u64]]], [.agg [.bool, .row .u64 false]], Bool × List Int, r1_Sum_ro_w K, r1_Sum_ro_enc⟩
theorem r1_Sum_ro_ok (K : Nat) : FnOk Try.prog 29 (r1_Sum_ro_spec K) := fn_okK' hmix (env_r1_Size_ro_ok K) (lenv := lenv0) (args := [.agg [.bool, .ro [.int .u64]], .agg [.bool, .ro [.int .u64]]]) (res := [.agg [.bool, .row .u64 false]]) (G := r1_Sum_ro_w K) (enc := r1_Sum_ro_enc) Try.func29 (lps_fn (l := []) (by kernel_rfl) trivial) (dec := r1_Sum_ro_dec) (fun u r h => by unfold r1_Sum_ro_dec at h; split at h; (cases h; rfl); cases h) (fun us r h => by unfold r1_Sum_ro_w at h; split at h; exact ((den2_eq _).symm.trans (r1_Sum_ro_eq K _ _ _ _)).trans h; cases h)
def env_r1_Sum_ro (K : Nat) : FuncId → Option Vm.Spec := addS (env_r1_Size_ro K) 1000029 (r1_Sum_ro_spec K)
theorem env_r1_Sum_ro_ok (K : Nat) : EnvOk Try.prog (env_r1_Sum_ro K) := addS_ok (env_r1_Size_ro_ok K) (.inl ⟨callable Try.func29 (by kernel_rfl) (by kernel_rfl), r1_Sum_ro_ok K⟩)
def r1_Sign_ro_dec : List U → Option (Int) := fun | [.i x0] => some (x0) | _ => none
def r1_Sign_ro_enc : (Int) → List U := fun r => [.i r]
def r1_Sign_ro (K : Nat) (c0_0 : Bool) (dd0_1 : List (List D)) : Option (Int) := (bi ((↑dd0_1.length : Int) == 0)
 (some (0))
 (bi (c0_0)
 (some (-1))
 (some (1))))
theorem r1_Sign_ro_eq (K : Nat) (c0_0 : Bool) (dd0_1 : List (List D)) : (runFK Try.prog (env_r1_Sum_ro K) (lenv0) Try.f32 [.agg [.bool, .ro [.int .u64]]] [.one (.int .i64)] r1_Sign_ro_dec [.b c0_0, .d dd0_1]).den2 = r1_Sign_ro K c0_0 dd0_1 := by kernel_rfl
def r1_Sign_ro_w (K : Nat) : List U → Option (Int) := fun | [.b c0_0, .d dd0_1] => r1_Sign_ro K c0_0 dd0_1 | _ => none
def r1_Sign_ro_spec (K : Nat) : Vm.Spec := ⟨[.agg [.bool, .ro [.int .u64]]], [.one (.int .i64)], Int, r1_Sign_ro_w K, r1_Sign_ro_enc⟩
theorem r1_Sign_ro_ok (K : Nat) : FnOk Try.prog 32 (r1_Sign_ro_spec K) := fn_okK' hmix (env_r1_Sum_ro_ok K) (lenv := lenv0) (args := [.agg [.bool, .ro [.int .u64]]]) (res := [.one (.int .i64)]) (G := r1_Sign_ro_w K) (enc := r1_Sign_ro_enc) Try.func32 (lps_fn (l := []) (by kernel_rfl) trivial) (dec := r1_Sign_ro_dec) (fun u r h => by unfold r1_Sign_ro_dec at h; split at h; (cases h; rfl); cases h) (fun us r h => by unfold r1_Sign_ro_w at h; split at h; exact ((den2_eq _).symm.trans (r1_Sign_ro_eq K _ _)).trans h; cases h)
def env_r1_Sign_ro (K : Nat) : FuncId → Option Vm.Spec := addS (env_r1_Sum_ro K) 1000032 (r1_Sign_ro_spec K)
theorem env_r1_Sign_ro_ok (K : Nat) : EnvOk Try.prog (env_r1_Sign_ro K) := addS_ok (env_r1_Sum_ro_ok K) (.inl ⟨callable Try.func32 (by kernel_rfl) (by kernel_rfl), r1_Sign_ro_ok K⟩)
def r1_Dec_ro_l9_pre : Vm.Pat := ⟨54, [(1, .pv (.one (.int .i64))), (7, .pv (.one (.int .u64))), (8, .pv (.one (.int .u64))), (26, .pv (.one (.ro [.int .u64]))), (27, .pv (.one (.int .i64))), (28, .pv (.one (.int .i64))), (4, .box 0 0)], [.cells [.int .i64, .int .u64, .int .i64]], []⟩
def r1_Dec_ro_l9_post0 : Vm.Pat := ⟨54, [(1, .pv (.one (.int .i64))), (7, .pv (.one (.int .u64))), (8, .pv (.one (.int .u64))), (4, .box 0 0)], [.cells [.int .i64, .int .u64, .int .i64]], []⟩
def r1_Dec_ro_l9_enc0 : Int × Int × Int × Int × Int × Int → List U := fun r => [.i r.1, .i r.2.1, .i r.2.2.1, .i r.2.2.2.1, .i r.2.2.2.2.1, .i r.2.2.2.2.2]
def r1_Dec_ro_l9_dec0 : List U → Option (Int × Int × Int × Int × Int × Int) := fun | [.i x1, .i x7, .i x8, .i x4_0, .i x4_1, .i x4_2] => some (x1, x7, x8, x4_0, x4_1, x4_2) | _ => none
def r1_Dec_ro_l9 (K : Nat) : Nat → Int → Int → Int → List (List D) → Int → Int → Int → Int → Int → Option (Int × Int × Int × Int × Int × Int)
 | 0, _, _, _, _, _, _, _, _, _ => none
 | k + 1, x1, x7, x8, dd26, x27, x28, x4_0, x4_1, x4_2 => (bi (decide (x28 < x27))
 (bi (decide (0 ≤ x28) && decide (x28 < (↑dd26.length : Int)))
 (bi (decide (x28 < 2))
 (bi (decide (IntKind.i64.wrap (32 * x28) < 0))
 none
 (r1_Dec_ro_l9 K k (x1) (IntKind.u64.wrap
 (x7 +
 IntKind.u64.wrap
 ((nth d0
 (nth [] dd26 x28.toNat) 0).toI *
 2 ^ Min.min (IntKind.i64.wrap (32 * x28)).toNat 64))) (x8) ((D.l dd26).toL) (x27) (IntKind.i64.wrap (x28 + 1)) (x4_0) (x4_1) (x4_2)))
 (bi (decide (IntKind.i64.wrap (32 * IntKind.i64.wrap (x28 - 2)) < 0))
 none
 (r1_Dec_ro_l9 K k (x1) (x7) (IntKind.u64.wrap
 (x8 +
 IntKind.u64.wrap
 ((nth d0
 (nth [] dd26 x28.toNat) 0).toI *
 2 ^ Min.min (IntKind.i64.wrap (32 * IntKind.i64.wrap (x28 - 2))).toNat 64))) ((D.l dd26).toL) (x27) (IntKind.i64.wrap (x28 + 1)) (x4_0) (x4_1) (x4_2))))
 none)
 (some ((x1, x7, x8, x4_0, x4_1, x4_2))))
def r1_Dec_ro_l9_w (K k : Nat) : List U → Option (Int × Int × Int × Int × Int × Int) := fun | [.i x1, .i x7, .i x8, .d dd26, .i x27, .i x28, .i x4_0, .i x4_1, .i x4_2] => r1_Dec_ro_l9 K k x1 x7 x8 dd26 x27 x28 x4_0 x4_1 x4_2 | _ => none
theorem r1_Dec_ro_l9_eq (K k : Nat) (x1 : Int) (x7 : Int) (x8 : Int) (dd26 : List (List D)) (x27 : Int) (x28 : Int) (x4_0 : Int) (x4_1 : Int) (x4_2 : Int) : (round1K Try.prog (env_r1_Sign_ro K) (lenv0) (lp (bodyOf Try.f57) 0) r1_Dec_ro_l9_pre (.exit 0) r1_Dec_ro_l9_post0 r1_Dec_ro_l9_dec0 (r1_Dec_ro_l9_w K k) [.i x1, .i x7, .i x8, .d dd26, .i x27, .i x28, .i x4_0, .i x4_1, .i x4_2]).den2 = r1_Dec_ro_l9 K (k + 1) x1 x7 x8 dd26 x27 x28 x4_0 x4_1 x4_2 := by kernel_rfl
def r1_Dec_ro_l9_s (K : Nat) : Vm.LS := .one r1_Dec_ro_l9_pre _ (.exit 0) r1_Dec_ro_l9_post0 (r1_Dec_ro_l9_w K K) r1_Dec_ro_l9_enc0
theorem r1_Dec_ro_l9_ok (K : Nat) : LoopOk Try.prog (lp (bodyOf Try.f57) 0) (r1_Dec_ro_l9_s K) := loop_oneK hmix (env_r1_Sign_ro_ok K) (lenv := lenv0) (L := r1_Dec_ro_l9_w K) (enc := r1_Dec_ro_l9_enc0) (dec := r1_Dec_ro_l9_dec0) (lps_ok (l := []) (by kernel_rfl) trivial) (fun u r h => by unfold r1_Dec_ro_l9_dec0 at h; split at h; (cases h; rfl); cases h) (fun us => by unfold r1_Dec_ro_l9_w; split <;> first | rfl | (simp only [r1_Dec_ro_l9])) (fun k us r h => by unfold r1_Dec_ro_l9_w at h; split at h; exact ((den2_eq _).symm.trans (r1_Dec_ro_l9_eq K k _ _ _ _ _ _ _ _ _)).trans h; cases h) K
def r1_Dec_ro_v9 (K : Nat) : Nat → Option Vm.LS := addL (lenv0) 9 (r1_Dec_ro_l9_s K)
def r1_Dec_ro_dec : List U → Option (Int × Int × Int × Int) := fun | [.i x0_0, .i x0_1, .i x0_2, .i x1] => some (x0_0, x0_1, x0_2, x1) | _ => none
def r1_Dec_ro_enc : (Int × Int × Int × Int) → List U := fun r => [.i r.1, .i r.2.1, .i r.2.2.1, .i r.2.2.2]
def r1_Dec_ro (K : Nat) (c0_0 : Bool) (dd0_1 : List (List D)) (x1 : Int) : Option (Int × Int × Int × Int) := ((r1_Size_ro K (D.l dd0_1).toL).bind fun r0 => (bi (decide (r0 > 127))
 (some ((0, 0, 0, 4)))
 ((r1_Sign_ro K c0_0 (D.l dd0_1).toL).bind fun r1 => (bi (decide (r1 < 0))
 ((r1_Word K 1).bind fun r2 => ((r1_Left K r2 128).bind fun r3 => ((r1_Sum_ro K c0_0 (D.l dd0_1).toL false
 (D.l (List.map (fun x => [D.i x]) r3)).toL).bind fun r4 => ((r1_Dec_ro_l9 K K x1 0 0
 (D.l (List.map (fun x => [D.i x]) r4.snd)).toL
 (↑r4.snd.length : Int) 0 0 0 0).bind fun r5 => (some ((IntKind.i64.wrap r5.snd.snd.fst, r5.snd.fst, r5.fst, 0)))))))
 ((r1_Dec_ro_l9 K K x1 0 0 (D.l dd0_1).toL
 (↑dd0_1.length : Int) 0 0 0 0).bind fun r6 => (some ((IntKind.i64.wrap r6.snd.snd.fst, r6.snd.fst, r6.fst, 0))))))))
theorem r1_Dec_ro_eq (K : Nat) (c0_0 : Bool) (dd0_1 : List (List D)) (x1 : Int) : (runFK Try.prog (env_r1_Sign_ro K) (r1_Dec_ro_v9 K) Try.f57 [.agg [.bool, .ro [.int .u64]], .one (.int .i64)] [.agg [.int .i64, .int .u64, .int .i64], .one (.int .i64)] r1_Dec_ro_dec [.b c0_0, .d dd0_1, .i x1]).den2 = r1_Dec_ro K c0_0 dd0_1 x1 := by kernel_rfl
def r1_Dec_ro_w (K : Nat) : List U → Option (Int × Int × Int × Int) := fun | [.b c0_0, .d dd0_1, .i x1] => r1_Dec_ro K c0_0 dd0_1 x1 | _ => none
def r1_Dec_ro_spec (K : Nat) : Vm.Spec := ⟨[.agg [.bool, .ro [.int .u64]], .one (.int .i64)], [.agg [.int .i64, .int .u64, .int .i64], .one (.int .i64)], Int × Int × Int × Int, r1_Dec_ro_w K, r1_Dec_ro_enc⟩
theorem r1_Dec_ro_ok (K : Nat) : FnOk Try.prog 57 (r1_Dec_ro_spec K) := fn_okK' hmix (env_r1_Sign_ro_ok K) (lenv := r1_Dec_ro_v9 K) (args := [.agg [.bool, .ro [.int .u64]], .one (.int .i64)]) (res := [.agg [.int .i64, .int .u64, .int .i64], .one (.int .i64)]) (G := r1_Dec_ro_w K) (enc := r1_Dec_ro_enc) Try.func57 (lps_fn (l := [lp (bodyOf Try.f57) 0]) (by kernel_rfl) ⟨⟨9, r1_Dec_ro_l9_s K, by kernel_rfl, by kernel_rfl, r1_Dec_ro_l9_ok K⟩, trivial⟩) (dec := r1_Dec_ro_dec) (fun u r h => by unfold r1_Dec_ro_dec at h; split at h; (cases h; rfl); cases h) (fun us r h => by unfold r1_Dec_ro_w at h; split at h; exact ((den2_eq _).symm.trans (r1_Dec_ro_eq K _ _ _)).trans h; cases h)
def env_r1_Dec_ro (K : Nat) : FuncId → Option Vm.Spec := addS (env_r1_Sign_ro K) 1000057 (r1_Dec_ro_spec K)
theorem env_r1_Dec_ro_ok (K : Nat) : EnvOk Try.prog (env_r1_Dec_ro K) := addS_ok (env_r1_Sign_ro_ok K) (.inl ⟨callable Try.func57 (by kernel_rfl) (by kernel_rfl), r1_Dec_ro_ok K⟩)
def RLs : List Sh := (.bool :: .sl [.int .u64] :: .bool :: .sl [.int .u64] :: .bool :: .sl [.int .u64] :: .bool :: .sl [.int .u64] :: .bool :: .sl [.int .u64] :: .bool :: .sl [.int .u64] :: .bool :: .sl [.int .u64] :: .bool :: .sl [.int .u64] :: .bool :: .sl [.int .u64] :: .bool :: .sl [.int .u64] :: .bool :: .sl [.int .u64] :: .bool :: .sl [.int .u64] :: .bool :: .sl [.int .u64] :: .bool :: .sl [.int .u64] :: .bool :: .sl [.int .u64] :: .bool :: .sl [.int .u64] :: .bool :: .sl [.int .u64] :: .bool :: .sl [.int .u64] :: .bool :: .sl [.int .u64] :: .bool :: .sl [.int .u64] :: .bool :: .sl [.int .u64] :: .bool :: .sl [.int .u64] :: .bool :: .sl [.int .u64] :: .bool :: .sl [.int .u64] :: .bool :: .sl [.int .u64] :: .bool :: .sl [.int .u64] :: .bool :: .sl [.int .u64] :: .bool :: .sl [.int .u64] :: .bool :: .sl [.int .u64] :: .bool :: .sl [.int .u64] :: .bool :: .sl [.int .u64] :: .bool :: .sl [.int .u64] :: .bool :: .sl [.int .u64] :: .bool :: .sl [.int .u64] :: .bool :: .sl [.int .u64] :: .bool :: .sl [.int .u64] :: .int .i64 :: [])
def r13_Is_dec : List U → Option (Bool) := fun | [.b c0] => some (c0) | _ => none
def r13_Is_enc : (Bool) → List U := fun r => [.b r]
def r13_Is (K : Nat) (x0 : Int) (x1 : Int) : Option (Bool) := (bi (decide (x0 ≥ 1))
 (bi (decide (x0 ≤ 8))
 ((ref05_Cur K x1).bind fun r0 => (some r0))
 (some false))
 (some false))
theorem r13_Is_eq (K : Nat) (x0 : Int) (x1 : Int) : (runFK Try.prog (env_r1_Dec_ro K) (lenv0) Try.f27 [.one (.int .i64), .one (.int .i64)] [.one (.bool)] r13_Is_dec [.i x0, .i x1]).den2 = r13_Is K x0 x1 := by kernel_rfl
def r13_Is_w (K : Nat) : List U → Option (Bool) := fun | [.i x0, .i x1] => r13_Is K x0 x1 | _ => none
def r13_Is_spec (K : Nat) : Vm.Spec := ⟨[.one (.int .i64), .one (.int .i64)], [.one (.bool)], Bool, r13_Is_w K, r13_Is_enc⟩
theorem r13_Is_ok (K : Nat) : FnOk Try.prog 27 (r13_Is_spec K) := fn_okK' hmix (env_r1_Dec_ro_ok K) (lenv := lenv0) (args := [.one (.int .i64), .one (.int .i64)]) (res := [.one (.bool)]) (G := r13_Is_w K) (enc := r13_Is_enc) Try.func27 (lps_fn (l := []) (by kernel_rfl) trivial) (dec := r13_Is_dec) (fun u r h => by unfold r13_Is_dec at h; split at h; (cases h; rfl); cases h) (fun us r h => by unfold r13_Is_w at h; split at h; exact ((den2_eq _).symm.trans (r13_Is_eq K _ _)).trans h; cases h)
def env_r13_Is (K : Nat) : FuncId → Option Vm.Spec := addS (env_r1_Dec_ro K) 27 (r13_Is_spec K)
theorem env_r13_Is_ok (K : Nat) : EnvOk Try.prog (env_r13_Is K) := addS_ok (env_r1_Dec_ro_ok K) (.inl ⟨callable Try.func27 (by kernel_rfl) (by kernel_rfl), r13_Is_ok K⟩)
def r13_Units_dec : List U → Option (Bool × List Int × Bool) := fun | [.b c0_0, .r l0_1, .b c1] => some (c0_0, l0_1, c1) | _ => none
def r13_Units_enc : (Bool × List Int × Bool) → List U := fun r => [.b r.1, .r r.2.1, .b r.2.2]
def r13_Units (K : Nat) (x0_0 : Int) (x0_1 : Int) (x0_2 : Int) : Option (Bool × List Int × Bool) := ((r1_Form K x0_0 x0_1 x0_2).bind fun r0 => (bi (!r0)
 (some ((false, [], false)))
 (bi (decide (x0_2 > 12))
 (some ((false, [], false)))
 ((r1_At K x0_0 x0_1 x0_2 12).bind fun r1 => ((r1_Ten K 32).bind fun r2 => ((r1_Compare K r1.snd r2).bind fun r3 => (some ((r1.fst, r1.snd, decide (r3 ≤ 0))))))))))
theorem r13_Units_eq (K : Nat) (x0_0 : Int) (x0_1 : Int) (x0_2 : Int) : (runFK Try.prog (env_r13_Is K) (lenv0) Try.f28 [.agg [.int .i64, .int .u64, .int .i64]] [.agg [.bool, .row .u64 false], .one (.bool)] r13_Units_dec [.i x0_0, .i x0_1, .i x0_2]).den2 = r13_Units K x0_0 x0_1 x0_2 := by kernel_rfl
def r13_Units_w (K : Nat) : List U → Option (Bool × List Int × Bool) := fun | [.i x0_0, .i x0_1, .i x0_2] => r13_Units K x0_0 x0_1 x0_2 | _ => none
def r13_Units_spec (K : Nat) : Vm.Spec := ⟨[.agg [.int .i64, .int .u64, .int .i64]], [.agg [.bool, .row .u64 false], .one (.bool)], Bool × List Int × Bool, r13_Units_w K, r13_Units_enc⟩
theorem r13_Units_ok (K : Nat) : FnOk Try.prog 28 (r13_Units_spec K) := fn_okK' hmix (env_r13_Is_ok K) (lenv := lenv0) (args := [.agg [.int .i64, .int .u64, .int .i64]]) (res := [.agg [.bool, .row .u64 false], .one (.bool)]) (G := r13_Units_w K) (enc := r13_Units_enc) Try.func28 (lps_fn (l := []) (by kernel_rfl) trivial) (dec := r13_Units_dec) (fun u r h => by unfold r13_Units_dec at h; split at h; (cases h; rfl); cases h) (fun us r h => by unfold r13_Units_w at h; split at h; exact ((den2_eq _).symm.trans (r13_Units_eq K _ _ _)).trans h; cases h)
def env_r13_Units (K : Nat) : FuncId → Option Vm.Spec := addS (env_r13_Is K) 28 (r13_Units_spec K)
theorem env_r13_Units_ok (K : Nat) : EnvOk Try.prog (env_r13_Units K) := addS_ok (env_r13_Is_ok K) (.inl ⟨callable Try.func28 (by kernel_rfl) (by kernel_rfl), r13_Units_ok K⟩)
def r13_Balance_dec : List U → Option (Int × Int × Int × List D) := fun | [.i x0_0, .i x0_1, .i x0_2, .ds e1] => some (x0_0, x0_1, x0_2, e1) | _ => none
def r13_Balance_enc : (Int × Int × Int × List D) → List U := fun r => [.i r.1, .i r.2.1, .i r.2.2.1, .ds r.2.2.2]
def r13_Balance (K : Nat) (e0 : List D) (x1 : Int) (x2 : Int) : Option (Int × Int × Int × List D) := (bi (decide (0 ≤ x1) && decide (x1 < 9))
 (bi (decide (0 ≤ x2) && decide (x2 < 4))
 ((r1_Dec_ro K
 (nth d0 e0 (0 + x1.toNat * 8 + x2.toNat * 2)).toB
 (D.l
 (nth d0 e0
 (0 + x1.toNat * 8 + x2.toNat * 2 + 1)).toL).toL
 12).bind fun r0 => (some ((r0.fst, r0.snd.fst, r0.snd.snd.fst, e0))))
 none)
 none)
theorem r13_Balance_eq (K : Nat) (e0 : List D) (x1 : Int) (x2 : Int) : (runFK Try.prog (env_r13_Units K) (lenv0) Try.f40 [.mptr RLs, .one (.int .i64), .one (.int .i64)] [.agg [.int .i64, .int .u64, .int .i64]] r13_Balance_dec [.ds e0, .i x1, .i x2]).den2 = r13_Balance K e0 x1 x2 := by kernel_rfl
def r13_Balance_w (K : Nat) : List U → Option (Int × Int × Int × List D) := fun | [.ds e0, .i x1, .i x2] => r13_Balance K e0 x1 x2 | _ => none
def r13_Balance_spec (K : Nat) : Vm.Spec := ⟨[.mptr RLs, .one (.int .i64), .one (.int .i64)], [.agg [.int .i64, .int .u64, .int .i64]], Int × Int × Int × List D, r13_Balance_w K, r13_Balance_enc⟩
theorem r13_Balance_ok (K : Nat) : FnOk Try.prog 40 (r13_Balance_spec K) := fn_okK' hmix (env_r13_Units_ok K) (lenv := lenv0) (args := [.mptr RLs, .one (.int .i64), .one (.int .i64)]) (res := [.agg [.int .i64, .int .u64, .int .i64]]) (G := r13_Balance_w K) (enc := r13_Balance_enc) Try.func40 (lps_fn (l := []) (by kernel_rfl) trivial) (dec := r13_Balance_dec) (fun u r h => by unfold r13_Balance_dec at h; split at h; (cases h; rfl); cases h) (fun us r h => by unfold r13_Balance_w at h; split at h; exact ((den2_eq _).symm.trans (r13_Balance_eq K _ _ _)).trans h; cases h)
def env_r13_Balance (K : Nat) : FuncId → Option Vm.Spec := addS (env_r13_Units K) 40 (r13_Balance_spec K)
theorem env_r13_Balance_ok (K : Nat) : EnvOk Try.prog (env_r13_Balance K) := addS_ok (env_r13_Units_ok K) (.inl ⟨callable Try.func40 (by kernel_rfl) (by kernel_rfl), r13_Balance_ok K⟩)
def r13_DocBalance_dec : List U → Option (Int × Int × Int × Int × List D) := fun | [.i x0_0, .i x0_1, .i x0_2, .i x1, .ds e2] => some (x0_0, x0_1, x0_2, x1, e2) | _ => none
def r13_DocBalance_enc : (Int × Int × Int × Int × List D) → List U := fun r => [.i r.1, .i r.2.1, .i r.2.2.1, .i r.2.2.2.1, .ds r.2.2.2.2]
def r13_DocBalance (K : Nat) (e0 : List D) (x1 : Int) (x2 : Int) : Option (Int × Int × Int × Int × List D) := ((r13_Is K x1 x2).bind fun r0 => (bi (!r0)
 (some ((0, 0, 0, 1, e0)))
 ((r13_Balance K e0 x1 x2).bind fun r1 => (some ((r1.fst, r1.snd.fst, r1.snd.snd.fst, 0, r1.snd.snd.snd))))))
theorem r13_DocBalance_eq (K : Nat) (e0 : List D) (x1 : Int) (x2 : Int) : (runFK Try.prog (env_r13_Balance K) (lenv0) Try.f19 [.mptr RLs, .one (.int .i64), .one (.int .i64)] [.agg [.int .i64, .int .u64, .int .i64], .one (.int .i64)] r13_DocBalance_dec [.ds e0, .i x1, .i x2]).den2 = r13_DocBalance K e0 x1 x2 := by kernel_rfl
def r13_DocBalance_w (K : Nat) : List U → Option (Int × Int × Int × Int × List D) := fun | [.ds e0, .i x1, .i x2] => r13_DocBalance K e0 x1 x2 | _ => none
def r13_DocBalance_spec (K : Nat) : Vm.Spec := ⟨[.mptr RLs, .one (.int .i64), .one (.int .i64)], [.agg [.int .i64, .int .u64, .int .i64], .one (.int .i64)], Int × Int × Int × Int × List D, r13_DocBalance_w K, r13_DocBalance_enc⟩
theorem r13_DocBalance_ok (K : Nat) : FnOk Try.prog 19 (r13_DocBalance_spec K) := fn_okK' hmix (env_r13_Balance_ok K) (lenv := lenv0) (args := [.mptr RLs, .one (.int .i64), .one (.int .i64)]) (res := [.agg [.int .i64, .int .u64, .int .i64], .one (.int .i64)]) (G := r13_DocBalance_w K) (enc := r13_DocBalance_enc) Try.func19 (lps_fn (l := []) (by kernel_rfl) trivial) (dec := r13_DocBalance_dec) (fun u r h => by unfold r13_DocBalance_dec at h; split at h; (cases h; rfl); cases h) (fun us r h => by unfold r13_DocBalance_w at h; split at h; exact ((den2_eq _).symm.trans (r13_DocBalance_eq K _ _ _)).trans h; cases h)
def env_r13_DocBalance (K : Nat) : FuncId → Option Vm.Spec := addS (env_r13_Balance K) 19 (r13_DocBalance_spec K)
theorem env_r13_DocBalance_ok (K : Nat) : EnvOk Try.prog (env_r13_DocBalance K) := addS_ok (env_r13_Balance_ok K) (.inl ⟨callable Try.func19 (by kernel_rfl) (by kernel_rfl), r13_DocBalance_ok K⟩)
def r13_Trial_l6_pre : Vm.Pat := ⟨39, [(3, .pv (.one (.recs [.i64, .i64, .i64, .u64, .i64] true))), (4, .pv (.one (.int .i64))), (14, .pv (.one (.int .i64))), (0, .mem 0 0 RLs)], [.mem RLs], [0]⟩
def r13_Trial_l6_post0 : Vm.Pat := ⟨39, [(3, .pv (.one (.recs [.i64, .i64, .i64, .u64, .i64] true))), (4, .pv (.one (.int .i64))), (0, .mem 0 0 RLs)], [.mem RLs], [0]⟩
def r13_Trial_l6_enc0 : List (List Int) × Int × List D → List U := fun r => [.rr r.1, .i r.2.1, .ds r.2.2]
def r13_Trial_l6_dec0 : List U → Option (List (List Int) × Int × List D) := fun | [.rr q3, .i x4, .ds e0] => some (q3, x4, e0) | _ => none
def r13_Trial_l6 (K : Nat) : Nat → List (List Int) → Int → Int → List D → Option (List (List Int) × Int × List D)
 | 0, _, _, _, _ => none
 | k + 1, q3, x4, x14, e0 => (bi (decide (x14 < 4))
 (bi (decide (0 ≤ x4) && decide (x4 < 9))
 (bi (decide (0 ≤ x14) && decide (x14 < 4))
 ((r1_Sign_ro K
 (nth d0 e0 (0 + x4.toNat * 8 + x14.toNat * 2)).toB
 (D.l
 (nth d0 e0
 (0 + x4.toNat * 8 + x14.toNat * 2 + 1)).toL).toL).bind fun r0 => (bi (r0 != 0)
 ((r13_Balance K e0 x4 x14).bind fun r1 => (bi (decide (q3.length + 1 ≤ 3518437208883))
 (r13_Trial_l6 K k (q3 ++ [[x4, x14, r1.fst, r1.snd.fst, r1.snd.snd.fst]]) (x4) (IntKind.i64.wrap (x14 + 1)) (r1.snd.snd.snd))
 none))
 (r13_Trial_l6 K k (q3) (x4) (IntKind.i64.wrap (x14 + 1)) (e0))))
 none)
 none)
 (some ((q3, x4, e0))))
def r13_Trial_l6_w (K k : Nat) : List U → Option (List (List Int) × Int × List D) := fun | [.rr q3, .i x4, .i x14, .ds e0] => r13_Trial_l6 K k q3 x4 x14 e0 | _ => none
theorem r13_Trial_l6_eq (K k : Nat) (q3 : List (List Int)) (x4 : Int) (x14 : Int) (e0 : List D) : (round1K Try.prog (env_r13_DocBalance K) (lenv0) (lp (lp (bodyOf Try.f33) 0) 0) r13_Trial_l6_pre (.exit 2) r13_Trial_l6_post0 r13_Trial_l6_dec0 (r13_Trial_l6_w K k) [.rr q3, .i x4, .i x14, .ds e0]).den2 = r13_Trial_l6 K (k + 1) q3 x4 x14 e0 := by kernel_rfl
def r13_Trial_l6_s (K : Nat) : Vm.LS := .one r13_Trial_l6_pre _ (.exit 2) r13_Trial_l6_post0 (r13_Trial_l6_w K K) r13_Trial_l6_enc0
theorem r13_Trial_l6_ok (K : Nat) : LoopOk Try.prog (lp (lp (bodyOf Try.f33) 0) 0) (r13_Trial_l6_s K) := loop_oneK hmix (env_r13_DocBalance_ok K) (lenv := lenv0) (L := r13_Trial_l6_w K) (enc := r13_Trial_l6_enc0) (dec := r13_Trial_l6_dec0) (lps_ok (l := []) (by kernel_rfl) trivial) (fun u r h => by unfold r13_Trial_l6_dec0 at h; split at h; (cases h; rfl); cases h) (fun us => by unfold r13_Trial_l6_w; split <;> first | rfl | (simp only [r13_Trial_l6])) (fun k us r h => by unfold r13_Trial_l6_w at h; split at h; exact ((den2_eq _).symm.trans (r13_Trial_l6_eq K k _ _ _ _)).trans h; cases h) K
def r13_Trial_v6 (K : Nat) : Nat → Option Vm.LS := addL (lenv0) 6 (r13_Trial_l6_s K)
def r13_Trial_l3_pre : Vm.Pat := ⟨39, [(3, .pv (.one (.recs [.i64, .i64, .i64, .u64, .i64] true))), (4, .pv (.one (.int .i64))), (0, .mem 0 0 RLs)], [.mem RLs], [0]⟩
def r13_Trial_l3_post0 : Vm.Pat := ⟨39, [(3, .pv (.one (.recs [.i64, .i64, .i64, .u64, .i64] true))), (0, .mem 0 0 RLs)], [.mem RLs], [0]⟩
def r13_Trial_l3_enc0 : List (List Int) × List D → List U := fun r => [.rr r.1, .ds r.2]
def r13_Trial_l3_dec0 : List U → Option (List (List Int) × List D) := fun | [.rr q3, .ds e0] => some (q3, e0) | _ => none
def r13_Trial_l3 (K : Nat) : Nat → List (List Int) → Int → List D → Option (List (List Int) × List D)
 | 0, _, _, _ => none
 | k + 1, q3, x4, e0 => (bi (decide (x4 ≤ 8))
 ((r13_Trial_l6 K K q3 x4 0 e0).bind fun r0 => (r13_Trial_l3 K k (r0.fst) (IntKind.i64.wrap (r0.snd.fst + 1)) (r0.snd.snd)))
 (some ((q3, e0))))
def r13_Trial_l3_w (K k : Nat) : List U → Option (List (List Int) × List D) := fun | [.rr q3, .i x4, .ds e0] => r13_Trial_l3 K k q3 x4 e0 | _ => none
theorem r13_Trial_l3_eq (K k : Nat) (q3 : List (List Int)) (x4 : Int) (e0 : List D) : (round1K Try.prog (env_r13_DocBalance K) (r13_Trial_v6 K) (lp (bodyOf Try.f33) 0) r13_Trial_l3_pre (.exit 0) r13_Trial_l3_post0 r13_Trial_l3_dec0 (r13_Trial_l3_w K k) [.rr q3, .i x4, .ds e0]).den2 = r13_Trial_l3 K (k + 1) q3 x4 e0 := by kernel_rfl
def r13_Trial_l3_s (K : Nat) : Vm.LS := .one r13_Trial_l3_pre _ (.exit 0) r13_Trial_l3_post0 (r13_Trial_l3_w K K) r13_Trial_l3_enc0
theorem r13_Trial_l3_ok (K : Nat) : LoopOk Try.prog (lp (bodyOf Try.f33) 0) (r13_Trial_l3_s K) := loop_oneK hmix (env_r13_DocBalance_ok K) (lenv := r13_Trial_v6 K) (L := r13_Trial_l3_w K) (enc := r13_Trial_l3_enc0) (dec := r13_Trial_l3_dec0) (lps_ok (l := [lp (lp (bodyOf Try.f33) 0) 0]) (by kernel_rfl) ⟨⟨6, r13_Trial_l6_s K, by kernel_rfl, by kernel_rfl, r13_Trial_l6_ok K⟩, trivial⟩) (fun u r h => by unfold r13_Trial_l3_dec0 at h; split at h; (cases h; rfl); cases h) (fun us => by unfold r13_Trial_l3_w; split <;> first | rfl | (simp only [r13_Trial_l3])) (fun k us r h => by unfold r13_Trial_l3_w at h; split at h; exact ((den2_eq _).symm.trans (r13_Trial_l3_eq K k _ _ _)).trans h; cases h) K
def r13_Trial_v3 (K : Nat) : Nat → Option Vm.LS := addL (r13_Trial_v6 K) 3 (r13_Trial_l3_s K)
def r13_Trial_dec : List U → Option (List (List Int) × List D) := fun | [.rr q0, .ds e1] => some (q0, e1) | _ => none
def r13_Trial_enc : (List (List Int) × List D) → List U := fun r => [.rr r.1, .ds r.2]
def r13_Trial (K : Nat) (e0 : List D) : Option (List (List Int) × List D) := ((r13_Trial_l3 K K [] 1 e0).bind fun r0 => (some ((r0.fst, r0.snd))))
theorem r13_Trial_eq (K : Nat) (e0 : List D) : (runFK Try.prog (env_r13_DocBalance K) (r13_Trial_v3 K) Try.f33 [.mptr RLs] [.one (.recs [.i64, .i64, .i64, .u64, .i64] false)] r13_Trial_dec [.ds e0]).den2 = r13_Trial K e0 := by kernel_rfl
def r13_Trial_w (K : Nat) : List U → Option (List (List Int) × List D) := fun | [.ds e0] => r13_Trial K e0 | _ => none
def r13_Trial_spec (K : Nat) : Vm.Spec := ⟨[.mptr RLs], [.one (.recs [.i64, .i64, .i64, .u64, .i64] false)], List (List Int) × List D, r13_Trial_w K, r13_Trial_enc⟩
theorem r13_Trial_ok (K : Nat) : FnOk Try.prog 33 (r13_Trial_spec K) := fn_okK' hmix (env_r13_DocBalance_ok K) (lenv := r13_Trial_v3 K) (args := [.mptr RLs]) (res := [.one (.recs [.i64, .i64, .i64, .u64, .i64] false)]) (G := r13_Trial_w K) (enc := r13_Trial_enc) Try.func33 (lps_fn (l := [lp (bodyOf Try.f33) 0]) (by kernel_rfl) ⟨⟨3, r13_Trial_l3_s K, by kernel_rfl, by kernel_rfl, r13_Trial_l3_ok K⟩, trivial⟩) (dec := r13_Trial_dec) (fun u r h => by unfold r13_Trial_dec at h; split at h; (cases h; rfl); cases h) (fun us r h => by unfold r13_Trial_w at h; split at h; exact ((den2_eq _).symm.trans (r13_Trial_eq K _)).trans h; cases h)
def env_r13_Trial (K : Nat) : FuncId → Option Vm.Spec := addS (env_r13_DocBalance K) 33 (r13_Trial_spec K)
theorem env_r13_Trial_ok (K : Nat) : EnvOk Try.prog (env_r13_Trial K) := addS_ok (env_r13_DocBalance_ok K) (.inl ⟨callable Try.func33 (by kernel_rfl) (by kernel_rfl), r13_Trial_ok K⟩)
def r13_Same_l4_pre : Vm.Pat := ⟨26, [(0, .pv (.one (.recs [.i64, .i64, .i64, .u64, .i64] false))), (1, .pv (.one (.ro [.int .i64, .int .i64, .int .i64, .int .u64, .int .i64]))), (12, .pv (.one (.int .i64))), (13, .pv (.one (.int .i64)))], [], []⟩
def r13_Same_l4_post0 : Vm.Pat := ⟨26, [], [], []⟩
def r13_Same_l4_enc0 : Unit → List U := fun _ => []
def r13_Same_l4_dec0 : List U → Option (Unit) := fun | [] => some () | _ => none
def r13_Same_l4_post1 : Vm.Pat := ⟨26, [(4, .pv (.one (.bool)))], [], []⟩
def r13_Same_l4_enc1 : Bool → List U := fun r => [.b r]
def r13_Same_l4_dec1 : List U → Option (Bool) := fun | [.b c4] => some (c4) | _ => none
def r13_Same_l4 (K : Nat) : Nat → List (List Int) → List (List D) → Int → Int → Option ((Unit) ⊕ (Bool))
 | 0, _, _, _, _ => none
 | k + 1, q0, dd1, x12, x13 => (bi (decide (x13 < x12))
 (bi (decide (0 ≤ x13) && decide (x13 < (↑q0.length : Int)))
 (bi (decide (0 ≤ x13) && decide (x13 < (↑dd1.length : Int)))
 (bi (!(nth 0 (nth [] q0 x13.toNat) 0 ==
 (nth d0
 (nth [] dd1 x13.toNat) 0).toI &&
 (nth 0 (nth [] q0 x13.toNat) 1 ==
 (nth d0
 (nth [] dd1 x13.toNat) 1).toI &&
 (nth 0 (nth [] q0 x13.toNat) 2 ==
 (nth d0
 (nth [] dd1 x13.toNat) 2).toI &&
 (nth 0 (nth [] q0 x13.toNat) 3 ==
 (nth d0
 (nth [] dd1 x13.toNat) 3).toI &&
 (nth 0 (nth [] q0 x13.toNat) 4 ==
 (nth d0
 (nth [] dd1 x13.toNat) 4).toI &&
 true)) &&
 true))))
 (some (Sum.inr false))
 (r13_Same_l4 K k (q0) ((D.l dd1).toL) (x12) (IntKind.i64.wrap (x13 + 1))))
 none)
 none)
 (some (Sum.inl ())))
def r13_Same_l4_w (K k : Nat) : List U → Option ((Unit) ⊕ (Bool)) := fun | [.rr q0, .d dd1, .i x12, .i x13] => r13_Same_l4 K k q0 dd1 x12 x13 | _ => none
theorem r13_Same_l4_eq (K k : Nat) (q0 : List (List Int)) (dd1 : List (List D)) (x12 : Int) (x13 : Int) : (round2K Try.prog (env_r13_Trial K) (lenv0) (lp (bodyOf Try.f13) 0) r13_Same_l4_pre (.exit 0) r13_Same_l4_post0 .ret r13_Same_l4_post1 r13_Same_l4_dec0 r13_Same_l4_dec1 (r13_Same_l4_w K k) [.rr q0, .d dd1, .i x12, .i x13]).den2 = r13_Same_l4 K (k + 1) q0 dd1 x12 x13 := by kernel_rfl
def r13_Same_l4_s (K : Nat) : Vm.LS := .two r13_Same_l4_pre _ _ (.exit 0) r13_Same_l4_post0 .ret r13_Same_l4_post1 (r13_Same_l4_w K K) r13_Same_l4_enc0 r13_Same_l4_enc1
theorem r13_Same_l4_ok (K : Nat) : LoopOk Try.prog (lp (bodyOf Try.f13) 0) (r13_Same_l4_s K) := loop_twoK hmix (env_r13_Trial_ok K) (lenv := lenv0) (L := r13_Same_l4_w K) (enc := r13_Same_l4_enc0) (dec := r13_Same_l4_dec0) (enc' := r13_Same_l4_enc1) (dec' := r13_Same_l4_dec1) (lps_ok (l := []) (by kernel_rfl) trivial) (fun u r h => by unfold r13_Same_l4_dec0 at h; split at h; (cases h; rfl); cases h) (fun u r h => by unfold r13_Same_l4_dec1 at h; split at h; (cases h; rfl); cases h) (fun us => by unfold r13_Same_l4_w; split <;> first | rfl | (simp only [r13_Same_l4])) (fun k us r h => by unfold r13_Same_l4_w at h; split at h; exact ((den2_eq _).symm.trans (r13_Same_l4_eq K k _ _ _ _)).trans h; cases h) K
def r13_Same_v4 (K : Nat) : Nat → Option Vm.LS := addL (lenv0) 4 (r13_Same_l4_s K)
def r13_Same_dec : List U → Option (Bool) := fun | [.b c0] => some (c0) | _ => none
def r13_Same_enc : (Bool) → List U := fun r => [.b r]
def r13_Same (K : Nat) (q0 : List (List Int)) (dd1 : List (List D)) : Option (Bool) := (bi ((↑q0.length : Int) != (↑dd1.length : Int))
 (some false)
 (casO (r13_Same_l4 K K q0 (D.l dd1).toL (↑q0.length : Int) 0) (fun r0 => (some true)) (fun r1 => (some r1))))
theorem r13_Same_eq (K : Nat) (q0 : List (List Int)) (dd1 : List (List D)) : (runFK Try.prog (env_r13_Trial K) (r13_Same_v4 K) Try.f13 [.one (.recs [.i64, .i64, .i64, .u64, .i64] false), .one (.ro [.int .i64, .int .i64, .int .i64, .int .u64, .int .i64])] [.one (.bool)] r13_Same_dec [.rr q0, .d dd1]).den2 = r13_Same K q0 dd1 := by kernel_rfl
def r13_Same_w (K : Nat) : List U → Option (Bool) := fun | [.rr q0, .d dd1] => r13_Same K q0 dd1 | _ => none
def r13_Same_spec (K : Nat) : Vm.Spec := ⟨[.one (.recs [.i64, .i64, .i64, .u64, .i64] false), .one (.ro [.int .i64, .int .i64, .int .i64, .int .u64, .int .i64])], [.one (.bool)], Bool, r13_Same_w K, r13_Same_enc⟩
theorem r13_Same_ok (K : Nat) : FnOk Try.prog 13 (r13_Same_spec K) := fn_okK' hmix (env_r13_Trial_ok K) (lenv := r13_Same_v4 K) (args := [.one (.recs [.i64, .i64, .i64, .u64, .i64] false), .one (.ro [.int .i64, .int .i64, .int .i64, .int .u64, .int .i64])]) (res := [.one (.bool)]) (G := r13_Same_w K) (enc := r13_Same_enc) Try.func13 (lps_fn (l := [lp (bodyOf Try.f13) 0]) (by kernel_rfl) ⟨⟨4, r13_Same_l4_s K, by kernel_rfl, by kernel_rfl, r13_Same_l4_ok K⟩, trivial⟩) (dec := r13_Same_dec) (fun u r h => by unfold r13_Same_dec at h; split at h; (cases h; rfl); cases h) (fun us r h => by unfold r13_Same_w at h; split at h; exact ((den2_eq _).symm.trans (r13_Same_eq K _ _)).trans h; cases h)
def env_r13_Same (K : Nat) : FuncId → Option Vm.Spec := addS (env_r13_Trial K) 13 (r13_Same_spec K)
theorem env_r13_Same_ok (K : Nat) : EnvOk Try.prog (env_r13_Same K) := addS_ok (env_r13_Trial_ok K) (.inl ⟨callable Try.func13 (by kernel_rfl) (by kernel_rfl), r13_Same_ok K⟩)
def law13_line_dec : List U → Option (Int × Int × Int × Int × Int) := fun | [.i x0_0, .i x0_1, .i x0_2, .i x0_3, .i x0_4] => some (x0_0, x0_1, x0_2, x0_3, x0_4) | _ => none
def law13_line_enc : (Int × Int × Int × Int × Int) → List U := fun r => [.i r.1, .i r.2.1, .i r.2.2.1, .i r.2.2.2.1, .i r.2.2.2.2]
def law13_line (K : Nat) (x0 : Int) (x1 : Int) (x2 : Int) : Option (Int × Int × Int × Int × Int) := (some ((x0, x1, x2.fdiv 9223372036854775808, IntKind.u64.wrap x2, 0)))
theorem law13_line_eq (K : Nat) (x0 : Int) (x1 : Int) (x2 : Int) : (runFK Try.prog (env_r13_Same K) (lenv0) Try.f22 [.one (.int .i64), .one (.int .i64), .one (.int .i64)] [.agg [.int .i64, .int .i64, .int .i64, .int .u64, .int .i64]] law13_line_dec [.i x0, .i x1, .i x2]).den2 = law13_line K x0 x1 x2 := by kernel_rfl
def law13_line_w (K : Nat) : List U → Option (Int × Int × Int × Int × Int) := fun | [.i x0, .i x1, .i x2] => law13_line K x0 x1 x2 | _ => none
def law13_line_spec (K : Nat) : Vm.Spec := ⟨[.one (.int .i64), .one (.int .i64), .one (.int .i64)], [.agg [.int .i64, .int .i64, .int .i64, .int .u64, .int .i64]], Int × Int × Int × Int × Int, law13_line_w K, law13_line_enc⟩
theorem law13_line_ok (K : Nat) : FnOk Try.prog 22 (law13_line_spec K) := fn_okK' hmix (env_r13_Same_ok K) (lenv := lenv0) (args := [.one (.int .i64), .one (.int .i64), .one (.int .i64)]) (res := [.agg [.int .i64, .int .i64, .int .i64, .int .u64, .int .i64]]) (G := law13_line_w K) (enc := law13_line_enc) Try.func22 (lps_fn (l := []) (by kernel_rfl) trivial) (dec := law13_line_dec) (fun u r h => by unfold law13_line_dec at h; split at h; (cases h; rfl); cases h) (fun us r h => by unfold law13_line_w at h; split at h; exact ((den2_eq _).symm.trans (law13_line_eq K _ _ _)).trans h; cases h)
def env_law13_line (K : Nat) : FuncId → Option Vm.Spec := addS (env_r13_Same K) 22 (law13_line_spec K)
theorem env_law13_line_ok (K : Nat) : EnvOk Try.prog (env_law13_line K) := addS_ok (env_r13_Same_ok K) (.inl ⟨callable Try.func22 (by kernel_rfl) (by kernel_rfl), law13_line_ok K⟩)
def law13_awake_dec : List U → Option (Bool) := fun | [.b c0] => some (c0) | _ => none
def law13_awake_enc : (Bool) → List U := fun r => [.b r]
def law13_awake (K : Nat)  : Option (Bool) := ((ct_New K).bind fun r0 => ((law13_line K 1 0 5).bind fun r1 => ((law13_line K 2 0 (-5)).bind fun r2 => ((cL_Post K r0.fst r0.snd
 [[r1.fst, r1.snd.fst, r1.snd.snd.fst, r1.snd.snd.snd.fst, r1.snd.snd.snd.snd],
 [r2.fst, r2.snd.fst, r2.snd.snd.fst, r2.snd.snd.snd.fst, r2.snd.snd.snd.snd]]).bind fun r3 => (bi (r3.fst != 0)
 (some false)
 ((law13_line K 1 0 5).bind fun r4 => ((law13_line K 2 1 (-5)).bind fun r5 => ((cL_Post K r3.snd.fst r3.snd.snd
 [[r4.fst, r4.snd.fst, r4.snd.snd.fst, r4.snd.snd.snd.fst, r4.snd.snd.snd.snd],
 [r5.fst, r5.snd.fst, r5.snd.snd.fst, r5.snd.snd.snd.fst, r5.snd.snd.snd.snd]]).bind fun r6 => (bi (r6.fst != 15)
 (some false)
 ((cL_Balance K r6.snd.fst r6.snd.snd 1 0).bind fun r7 => (bi (r7.snd.snd.snd.fst == 0)
 (bi (r7.fst == 0 && (r7.snd.fst == 5000000000000 && (r7.snd.snd.fst == 12 && true)))
 ((cL_Entries K r7.snd.snd.snd.snd.fst r7.snd.snd.snd.snd.snd).bind fun r8 => (bi (r8.fst == 1)
 ((cL_Trial K r8.snd.fst r8.snd.snd).bind fun r9 => (some ((↑r9.fst.length : Int) == 2)))
 (some false)))
 (some false))
 (some false))))))))))))
theorem law13_awake_eq (K : Nat)  : (runFK Try.prog (env_law13_line K) (lenv0) Try.f9 [] [.one (.bool)] law13_awake_dec []).den2 = law13_awake K  := by kernel_rfl
def law13_awake_w (K : Nat) : List U → Option (Bool) := fun | [] => law13_awake K  | _ => none
def law13_awake_spec (K : Nat) : Vm.Spec := ⟨[], [.one (.bool)], Bool, law13_awake_w K, law13_awake_enc⟩
theorem law13_awake_ok (K : Nat) : FnOk Try.prog 9 (law13_awake_spec K) := fn_okK' hmix (env_law13_line_ok K) (lenv := lenv0) (args := []) (res := [.one (.bool)]) (G := law13_awake_w K) (enc := law13_awake_enc) Try.func9 (lps_fn (l := []) (by kernel_rfl) trivial) (dec := law13_awake_dec) (fun u r h => by unfold law13_awake_dec at h; split at h; (cases h; rfl); cases h) (fun us r h => by unfold law13_awake_w at h; split at h; exact ((den2_eq _).symm.trans (law13_awake_eq K)).trans h; cases h)
def env_law13_awake (K : Nat) : FuncId → Option Vm.Spec := addS (env_law13_line K) 9 (law13_awake_spec K)
theorem env_law13_awake_ok (K : Nat) : EnvOk Try.prog (env_law13_awake K) := addS_ok (env_law13_line_ok K) (.inl ⟨callable Try.func9 (by kernel_rfl) (by kernel_rfl), law13_awake_ok K⟩)
end
end Go.Proofs.Ytimhhefngigfeaa.F
