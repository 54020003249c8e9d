import Derived.Test.YtimhhefngigfeaaVmY
import Derived.Test.YtimhhefngigfeaaVmRc
import Derived.Test.YtimhhefngigfeaaProg
import Derived.Test.YtimhhefngigfeaaFA
namespace Go.Proofs.Ytimhhefngigfeaa.F
open Go Go.Proofs.Ytimhhefngigfeaa.Vm
set_option maxRecDepth 1000000
set_option linter.unusedVariables false
set_option linter.unusedSimpArgs false
def r1_Norm_l2_pre : Vm.Pat := ⟨21, [(0, .pv (.one (.row .u64 false))), (3, .pv (.one (.int .i64)))], [], []⟩
def r1_Norm_l2_post0 : Vm.Pat := ⟨21, [(0, .pv (.one (.row .u64 false))), (3, .pv (.one (.int .i64)))], [], []⟩
def r1_Norm_l2_enc0 : List Int × Int → List U := fun r => [.r r.1, .i r.2]
def r1_Norm_l2_dec0 : List U → Option (List Int × Int) := fun | [.r l0, .i x3] => some (l0, x3) | _ => none
def r1_Norm_l2 (K : Nat) : Nat → List Int → Int → Option (List Int × Int)
 | 0, _, _ => none
 | k + 1, l0, x3 => (if (decide (x3 > 0)) = true then
 (if (decide (0 ≤ IntKind.i64.wrap (x3 - 1)) &&
 decide (IntKind.i64.wrap (x3 - 1) < (↑l0.length : Int))) = true then
 (if (nth 0 l0 (IntKind.i64.wrap (x3 - 1)).toNat == 0) = true then
 (r1_Norm_l2 K k (l0) (IntKind.i64.wrap (x3 - 1)))
 else (some ((l0, x3))))
 else none)
 else (some ((l0, x3))))
def r1_Norm_l2_w (K k : Nat) : List U → Option (List Int × Int) := fun | [.r l0, .i x3] => r1_Norm_l2 K k l0 x3 | _ => none
theorem r1_Norm_l2_eq (K k : Nat) (l0 : List Int) (x3 : Int) : (round1 Try.prog (env_dec_Mul K) (lenv0) (lp (bodyOf Try.f67) 0) r1_Norm_l2_pre (.exit 0) r1_Norm_l2_post0 r1_Norm_l2_dec0 (r1_Norm_l2_w K k) [.r l0, .i x3]).den = r1_Norm_l2 K (k + 1) l0 x3 := by kernel_rfl
def r1_Norm_l2_s (K : Nat) : Vm.LS := .one r1_Norm_l2_pre _ (.exit 0) r1_Norm_l2_post0 (r1_Norm_l2_w K K) r1_Norm_l2_enc0
theorem r1_Norm_l2_ok (K : Nat) : LoopOk Try.prog (lp (bodyOf Try.f67) 0) (r1_Norm_l2_s K) := loop_one hmix (env_dec_Mul_ok K) (lenv := lenv0) (L := r1_Norm_l2_w K) (enc := r1_Norm_l2_enc0) (dec := r1_Norm_l2_dec0) (lps_ok (l := []) (by kernel_rfl) trivial) (fun u r h => by unfold r1_Norm_l2_dec0 at h; split at h; (cases h; rfl); cases h) (fun us => by unfold r1_Norm_l2_w; split <;> first | rfl | (simp only [r1_Norm_l2])) (fun k us r h => by unfold r1_Norm_l2_w at h; split at h; exact (r1_Norm_l2_eq K k _ _).trans h; cases h) K
def r1_Norm_v2 (K : Nat) : Nat → Option Vm.LS := addL (lenv0) 2 (r1_Norm_l2_s K)
def r1_Norm_dec : List U → Option (List Int) := fun | [.r l0] => some (l0) | _ => none
def r1_Norm_enc : (List Int) → List U := fun r => [.r r]
def r1_Norm (K : Nat) (l0 : List Int) : Option (List Int) := ((r1_Norm_l2 K K l0 (↑l0.length : Int)).bind fun r0 => (if (true && decide (0 ≤ r0.snd) && decide (r0.snd ≤ (↑r0.fst.length : Int))) = true then
 (some (List.take (r0.snd.toNat - 0) (List.drop 0 r0.fst)))
 else none))
theorem r1_Norm_eq (K : Nat) (l0 : List Int) : (runF Try.prog (env_dec_Mul K) (r1_Norm_v2 K) Try.f67 [.one (.row .u64 false)] [.one (.row .u64 false)] r1_Norm_dec [.r l0]).den = r1_Norm K l0 := by kernel_rfl
def r1_Norm_w (K : Nat) : List U → Option (List Int) := fun | [.r l0] => r1_Norm K l0 | _ => none
def r1_Norm_spec (K : Nat) : Vm.Spec := ⟨[.one (.row .u64 false)], [.one (.row .u64 false)], List Int, r1_Norm_w K, r1_Norm_enc⟩
theorem r1_Norm_ok (K : Nat) : FnOk Try.prog 67 (r1_Norm_spec K) := fn_ok' hmix (env_dec_Mul_ok K) (lenv := r1_Norm_v2 K) (args := [.one (.row .u64 false)]) (res := [.one (.row .u64 false)]) (G := r1_Norm_w K) (enc := r1_Norm_enc) Try.func67 (lps_fn (l := [lp (bodyOf Try.f67) 0]) (by kernel_rfl) ⟨⟨2, r1_Norm_l2_s K, by kernel_rfl, by kernel_rfl, r1_Norm_l2_ok K⟩, trivial⟩) (dec := r1_Norm_dec) (fun u r h => by unfold r1_Norm_dec at h; split at h; (cases h; rfl); cases h) (fun us r h => by unfold r1_Norm_w at h; split at h; exact (r1_Norm_eq K _).trans h; cases h)
def env_r1_Norm (K : Nat) : FuncId → Option Vm.Spec := addS (env_dec_Mul K) 67 (r1_Norm_spec K)
theorem env_r1_Norm_ok (K : Nat) : EnvOk Try.prog (env_r1_Norm K) := addS_ok (env_dec_Mul_ok K) (.inl ⟨callable Try.func67 (by kernel_rfl) (by kernel_rfl), r1_Norm_ok K⟩)
def r1_Word_dec : List U → Option (List Int) := fun | [.r l0] => some (l0) | _ => none
def r1_Word_enc : (List Int) → List U := fun r => [.r r]
def r1_Word (K : Nat) (x0 : Int) : Option (List Int) := ((r1_Norm K [x0.tmod 4294967296, IntKind.u64.wrap (x0.tdiv 4294967296)]).bind fun r0 => (some r0))
theorem r1_Word_eq (K : Nat) (x0 : Int) : (runF Try.prog (env_r1_Norm K) (lenv0) Try.f52 [.one (.int .u64)] [.one (.row .u64 false)] r1_Word_dec [.i x0]).den = r1_Word K x0 := by kernel_rfl
def r1_Word_w (K : Nat) : List U → Option (List Int) := fun | [.i x0] => r1_Word K x0 | _ => none
def r1_Word_spec (K : Nat) : Vm.Spec := ⟨[.one (.int .u64)], [.one (.row .u64 false)], List Int, r1_Word_w K, r1_Word_enc⟩
theorem r1_Word_ok (K : Nat) : FnOk Try.prog 52 (r1_Word_spec K) := fn_ok' hmix (env_r1_Norm_ok K) (lenv := lenv0) (args := [.one (.int .u64)]) (res := [.one (.row .u64 false)]) (G := r1_Word_w K) (enc := r1_Word_enc) Try.func52 (lps_fn (l := []) (by kernel_rfl) trivial) (dec := r1_Word_dec) (fun u r h => by unfold r1_Word_dec at h; split at h; (cases h; rfl); cases h) (fun us r h => by unfold r1_Word_w at h; split at h; exact (r1_Word_eq K _).trans h; cases h)
def env_r1_Word (K : Nat) : FuncId → Option Vm.Spec := addS (env_r1_Norm K) 52 (r1_Word_spec K)
theorem env_r1_Word_ok (K : Nat) : EnvOk Try.prog (env_r1_Word K) := addS_ok (env_r1_Norm_ok K) (.inl ⟨callable Try.func52 (by kernel_rfl) (by kernel_rfl), r1_Word_ok K⟩)
def r1_Compare_l6_pre : Vm.Pat := ⟨41, [(0, .pv (.one (.row .u64 false))), (1, .pv (.one (.row .u64 false))), (5, .pv (.one (.int .i64)))], [], []⟩
def r1_Compare_l6_post0 : Vm.Pat := ⟨41, [], [], []⟩
def r1_Compare_l6_enc0 : Unit → List U := fun _ => []
def r1_Compare_l6_dec0 : List U → Option (Unit) := fun | [] => some () | _ => none
def r1_Compare_l6_post1 : Vm.Pat := ⟨41, [(4, .pv (.one (.int .i64)))], [], []⟩
def r1_Compare_l6_enc1 : Int → List U := fun r => [.i r]
def r1_Compare_l6_dec1 : List U → Option (Int) := fun | [.i x4] => some (x4) | _ => none
def r1_Compare_l6 (K : Nat) : Nat → List Int → List Int → Int → Option ((Unit) ⊕ (Int))
 | 0, _, _, _ => none
 | k + 1, l0, l1, x5 => (if (decide (x5 ≥ 0)) = true then
 (if (decide (0 ≤ x5) && decide (x5 < (↑l0.length : Int))) = true then
 (if (decide (0 ≤ x5) && decide (x5 < (↑l1.length : Int))) = true then
 (if (decide (nth 0 l0 x5.toNat < nth 0 l1 x5.toNat)) = true then
 (some (Sum.inr (-1)))
 else (if (decide (0 ≤ x5) && decide (x5 < (↑l0.length : Int))) = true then
 (if (decide (0 ≤ x5) && decide (x5 < (↑l1.length : Int))) = true then
 (if (decide (nth 0 l0 x5.toNat > nth 0 l1 x5.toNat)) = true then
 (some (Sum.inr 1))
 else (r1_Compare_l6 K k (l0) (l1) (IntKind.i64.wrap (x5 - 1))))
 else none)
 else none))
 else none)
 else none)
 else (some (Sum.inl ())))
def r1_Compare_l6_w (K k : Nat) : List U → Option ((Unit) ⊕ (Int)) := fun | [.r l0, .r l1, .i x5] => r1_Compare_l6 K k l0 l1 x5 | _ => none
theorem r1_Compare_l6_eq (K k : Nat) (l0 : List Int) (l1 : List Int) (x5 : Int) : (round2 Try.prog (env_r1_Word K) (lenv0) (lp (bodyOf Try.f30) 0) r1_Compare_l6_pre (.exit 0) r1_Compare_l6_post0 .ret r1_Compare_l6_post1 r1_Compare_l6_dec0 r1_Compare_l6_dec1 (r1_Compare_l6_w K k) [.r l0, .r l1, .i x5]).den = r1_Compare_l6 K (k + 1) l0 l1 x5 := by kernel_rfl
def r1_Compare_l6_s (K : Nat) : Vm.LS := .two r1_Compare_l6_pre _ _ (.exit 0) r1_Compare_l6_post0 .ret r1_Compare_l6_post1 (r1_Compare_l6_w K K) r1_Compare_l6_enc0 r1_Compare_l6_enc1
theorem r1_Compare_l6_ok (K : Nat) : LoopOk Try.prog (lp (bodyOf Try.f30) 0) (r1_Compare_l6_s K) := loop_two hmix (env_r1_Word_ok K) (lenv := lenv0) (L := r1_Compare_l6_w K) (enc := r1_Compare_l6_enc0) (dec := r1_Compare_l6_dec0) (enc' := r1_Compare_l6_enc1) (dec' := r1_Compare_l6_dec1) (lps_ok (l := []) (by kernel_rfl) trivial) (fun u r h => by unfold r1_Compare_l6_dec0 at h; split at h; (cases h; rfl); cases h) (fun u r h => by unfold r1_Compare_l6_dec1 at h; split at h; (cases h; rfl); cases h) (fun us => by unfold r1_Compare_l6_w; split <;> first | rfl | (simp only [r1_Compare_l6])) (fun k us r h => by unfold r1_Compare_l6_w at h; split at h; exact (r1_Compare_l6_eq K k _ _ _).trans h; cases h) K
def r1_Compare_v6 (K : Nat) : Nat → Option Vm.LS := addL (lenv0) 6 (r1_Compare_l6_s K)
def r1_Compare_dec : List U → Option (Int) := fun | [.i x0] => some (x0) | _ => none
def r1_Compare_enc : (Int) → List U := fun r => [.i r]
def r1_Compare (K : Nat) (l0 : List Int) (l1 : List Int) : Option (Int) := (if ((↑l0.length : Int) != (↑l1.length : Int)) = true then
 (if (decide ((↑l0.length : Int) < (↑l1.length : Int))) = true then
 (some (-1))
 else (some (1)))
 else (casO (r1_Compare_l6 K K l0 l1 (IntKind.i64.wrap ((↑l0.length : Int) - 1))) (fun r0 => (some (0))) (fun r1 => (some r1))))
theorem r1_Compare_eq (K : Nat) (l0 : List Int) (l1 : List Int) : (runF Try.prog (env_r1_Word K) (r1_Compare_v6 K) Try.f30 [.one (.row .u64 false), .one (.row .u64 false)] [.one (.int .i64)] r1_Compare_dec [.r l0, .r l1]).den = r1_Compare K l0 l1 := by kernel_rfl
def r1_Compare_w (K : Nat) : List U → Option (Int) := fun | [.r l0, .r l1] => r1_Compare K l0 l1 | _ => none
def r1_Compare_spec (K : Nat) : Vm.Spec := ⟨[.one (.row .u64 false), .one (.row .u64 false)], [.one (.int .i64)], Int, r1_Compare_w K, r1_Compare_enc⟩
theorem r1_Compare_ok (K : Nat) : FnOk Try.prog 30 (r1_Compare_spec K) := fn_ok' hmix (env_r1_Word_ok K) (lenv := r1_Compare_v6 K) (args := [.one (.row .u64 false), .one (.row .u64 false)]) (res := [.one (.int .i64)]) (G := r1_Compare_w K) (enc := r1_Compare_enc) Try.func30 (lps_fn (l := [lp (bodyOf Try.f30) 0]) (by kernel_rfl) ⟨⟨6, r1_Compare_l6_s K, by kernel_rfl, by kernel_rfl, r1_Compare_l6_ok K⟩, trivial⟩) (dec := r1_Compare_dec) (fun u r h => by unfold r1_Compare_dec at h; split at h; (cases h; rfl); cases h) (fun us r h => by unfold r1_Compare_w at h; split at h; exact (r1_Compare_eq K _ _).trans h; cases h)
def env_r1_Compare (K : Nat) : FuncId → Option Vm.Spec := addS (env_r1_Word K) 30 (r1_Compare_spec K)
theorem env_r1_Compare_ok (K : Nat) : EnvOk Try.prog (env_r1_Compare K) := addS_ok (env_r1_Word_ok K) (.inl ⟨callable Try.func30 (by kernel_rfl) (by kernel_rfl), r1_Compare_ok K⟩)
def r1_Plus_l4_pre : Vm.Pat := ⟨53, [(0, .pv (.one (.row .u64 false))), (1, .pv (.one (.row .u64 false))), (5, .pv (.one (.row .u64 true))), (6, .pv (.one (.int .u64))), (7, .pv (.one (.int .i64)))], [], []⟩
def r1_Plus_l4_post0 : Vm.Pat := ⟨53, [(5, .pv (.one (.row .u64 true)))], [], []⟩
def r1_Plus_l4_enc0 : List Int → List U := fun r => [.r r]
def r1_Plus_l4_dec0 : List U → Option (List Int) := fun | [.r l5] => some (l5) | _ => none
def r1_Plus_l4 (K : Nat) : Nat → List Int → List Int → List Int → Int → Int → Option (List Int)
 | 0, _, _, _, _, _ => none
 | k + 1, l0, l1, l5, x6, x7 => (if (decide (x7 < (↑l0.length : Int))) = true then
 (if (decide (x7 < (↑l0.length : Int))) = true then
 (if (decide (0 ≤ x7) && decide (x7 < (↑l0.length : Int))) = true then
 (if (decide (x7 < (↑l1.length : Int))) = true then
 (if (decide (0 ≤ x7) && decide (x7 < (↑l1.length : Int))) = true then
 (if (decide (l5.length + 1 ≤ 17592186044416)) = true then
 (r1_Plus_l4 K k (l0) (l1) (l5 ++
 [(IntKind.u64.wrap
 (IntKind.u64.wrap (x6 + nth 0 l0 x7.toNat) +
 nth 0 l1 x7.toNat)).tmod
 4294967296]) (IntKind.u64.wrap
 ((IntKind.u64.wrap
 (IntKind.u64.wrap (x6 + nth 0 l0 x7.toNat) +
 nth 0 l1 x7.toNat)).tdiv
 4294967296)) (IntKind.i64.wrap (x7 + 1)))
 else none)
 else none)
 else (if (decide (l5.length + 1 ≤ 17592186044416)) = true then
 (r1_Plus_l4 K k (l0) (l1) (l5 ++ [(IntKind.u64.wrap (x6 + nth 0 l0 x7.toNat)).tmod 4294967296]) (IntKind.u64.wrap ((IntKind.u64.wrap (x6 + nth 0 l0 x7.toNat)).tdiv 4294967296)) (IntKind.i64.wrap (x7 + 1)))
 else none))
 else none)
 else (if (decide (x7 < (↑l1.length : Int))) = true then
 (if (decide (0 ≤ x7) && decide (x7 < (↑l1.length : Int))) = true then
 (if (decide (l5.length + 1 ≤ 17592186044416)) = true then
 (r1_Plus_l4 K k (l0) (l1) (l5 ++ [(IntKind.u64.wrap (x6 + nth 0 l1 x7.toNat)).tmod 4294967296]) (IntKind.u64.wrap ((IntKind.u64.wrap (x6 + nth 0 l1 x7.toNat)).tdiv 4294967296)) (IntKind.i64.wrap (x7 + 1)))
 else none)
 else none)
 else (if (decide (l5.length + 1 ≤ 17592186044416)) = true then
 (r1_Plus_l4 K k (l0) (l1) (l5 ++ [x6.tmod 4294967296]) (IntKind.u64.wrap (x6.tdiv 4294967296)) (IntKind.i64.wrap (x7 + 1)))
 else none)))
 else (if (decide (x7 < (↑l1.length : Int))) = true then
 (if (decide (x7 < (↑l0.length : Int))) = true then
 (if (decide (0 ≤ x7) && decide (x7 < (↑l0.length : Int))) = true then
 (if (decide (x7 < (↑l1.length : Int))) = true then
 (if (decide (0 ≤ x7) && decide (x7 < (↑l1.length : Int))) = true then
 (if (decide (l5.length + 1 ≤ 17592186044416)) = true then
 (r1_Plus_l4 K k (l0) (l1) (l5 ++
 [(IntKind.u64.wrap
 (IntKind.u64.wrap (x6 + nth 0 l0 x7.toNat) +
 nth 0 l1 x7.toNat)).tmod
 4294967296]) (IntKind.u64.wrap
 ((IntKind.u64.wrap
 (IntKind.u64.wrap (x6 + nth 0 l0 x7.toNat) +
 nth 0 l1 x7.toNat)).tdiv
 4294967296)) (IntKind.i64.wrap (x7 + 1)))
 else none)
 else none)
 else (if (decide (l5.length + 1 ≤ 17592186044416)) = true then
 (r1_Plus_l4 K k (l0) (l1) (l5 ++ [(IntKind.u64.wrap (x6 + nth 0 l0 x7.toNat)).tmod 4294967296]) (IntKind.u64.wrap ((IntKind.u64.wrap (x6 + nth 0 l0 x7.toNat)).tdiv 4294967296)) (IntKind.i64.wrap (x7 + 1)))
 else none))
 else none)
 else (if (decide (x7 < (↑l1.length : Int))) = true then
 (if (decide (0 ≤ x7) && decide (x7 < (↑l1.length : Int))) = true then
 (if (decide (l5.length + 1 ≤ 17592186044416)) = true then
 (r1_Plus_l4 K k (l0) (l1) (l5 ++ [(IntKind.u64.wrap (x6 + nth 0 l1 x7.toNat)).tmod 4294967296]) (IntKind.u64.wrap ((IntKind.u64.wrap (x6 + nth 0 l1 x7.toNat)).tdiv 4294967296)) (IntKind.i64.wrap (x7 + 1)))
 else none)
 else none)
 else (if (decide (l5.length + 1 ≤ 17592186044416)) = true then
 (r1_Plus_l4 K k (l0) (l1) (l5 ++ [x6.tmod 4294967296]) (IntKind.u64.wrap (x6.tdiv 4294967296)) (IntKind.i64.wrap (x7 + 1)))
 else none)))
 else (if (decide (x6 > 0)) = true then
 (if (decide (x7 < (↑l0.length : Int))) = true then
 (if (decide (0 ≤ x7) && decide (x7 < (↑l0.length : Int))) = true then
 (if (decide (x7 < (↑l1.length : Int))) = true then
 (if (decide (0 ≤ x7) && decide (x7 < (↑l1.length : Int))) = true then
 (if (decide (l5.length + 1 ≤ 17592186044416)) = true then
 (r1_Plus_l4 K k (l0) (l1) (l5 ++
 [(IntKind.u64.wrap
 (IntKind.u64.wrap (x6 + nth 0 l0 x7.toNat) +
 nth 0 l1 x7.toNat)).tmod
 4294967296]) (IntKind.u64.wrap
 ((IntKind.u64.wrap
 (IntKind.u64.wrap (x6 + nth 0 l0 x7.toNat) +
 nth 0 l1 x7.toNat)).tdiv
 4294967296)) (IntKind.i64.wrap (x7 + 1)))
 else none)
 else none)
 else (if (decide (l5.length + 1 ≤ 17592186044416)) = true then
 (r1_Plus_l4 K k (l0) (l1) (l5 ++ [(IntKind.u64.wrap (x6 + nth 0 l0 x7.toNat)).tmod 4294967296]) (IntKind.u64.wrap ((IntKind.u64.wrap (x6 + nth 0 l0 x7.toNat)).tdiv 4294967296)) (IntKind.i64.wrap (x7 + 1)))
 else none))
 else none)
 else (if (decide (x7 < (↑l1.length : Int))) = true then
 (if (decide (0 ≤ x7) && decide (x7 < (↑l1.length : Int))) = true then
 (if (decide (l5.length + 1 ≤ 17592186044416)) = true then
 (r1_Plus_l4 K k (l0) (l1) (l5 ++ [(IntKind.u64.wrap (x6 + nth 0 l1 x7.toNat)).tmod 4294967296]) (IntKind.u64.wrap ((IntKind.u64.wrap (x6 + nth 0 l1 x7.toNat)).tdiv 4294967296)) (IntKind.i64.wrap (x7 + 1)))
 else none)
 else none)
 else (if (decide (l5.length + 1 ≤ 17592186044416)) = true then
 (r1_Plus_l4 K k (l0) (l1) (l5 ++ [x6.tmod 4294967296]) (IntKind.u64.wrap (x6.tdiv 4294967296)) (IntKind.i64.wrap (x7 + 1)))
 else none)))
 else (some l5))))
def r1_Plus_l4_w (K k : Nat) : List U → Option (List Int) := fun | [.r l0, .r l1, .r l5, .i x6, .i x7] => r1_Plus_l4 K k l0 l1 l5 x6 x7 | _ => none
theorem r1_Plus_l4_eq (K k : Nat) (l0 : List Int) (l1 : List Int) (l5 : List Int) (x6 : Int) (x7 : Int) : (round1 Try.prog (env_r1_Compare K) (lenv0) (lp (bodyOf Try.f50) 0) r1_Plus_l4_pre (.exit 0) r1_Plus_l4_post0 r1_Plus_l4_dec0 (r1_Plus_l4_w K k) [.r l0, .r l1, .r l5, .i x6, .i x7]).den = r1_Plus_l4 K (k + 1) l0 l1 l5 x6 x7 := by kernel_rfl
def r1_Plus_l4_s (K : Nat) : Vm.LS := .one r1_Plus_l4_pre _ (.exit 0) r1_Plus_l4_post0 (r1_Plus_l4_w K K) r1_Plus_l4_enc0
theorem r1_Plus_l4_ok (K : Nat) : LoopOk Try.prog (lp (bodyOf Try.f50) 0) (r1_Plus_l4_s K) := loop_one hmix (env_r1_Compare_ok K) (lenv := lenv0) (L := r1_Plus_l4_w K) (enc := r1_Plus_l4_enc0) (dec := r1_Plus_l4_dec0) (lps_ok (l := []) (by kernel_rfl) trivial) (fun u r h => by unfold r1_Plus_l4_dec0 at h; split at h; (cases h; rfl); cases h) (fun us => by unfold r1_Plus_l4_w; split <;> first | rfl | (simp only [r1_Plus_l4])) (fun k us r h => by unfold r1_Plus_l4_w at h; split at h; exact (r1_Plus_l4_eq K k _ _ _ _ _).trans h; cases h) K
def r1_Plus_v4 (K : Nat) : Nat → Option Vm.LS := addL (lenv0) 4 (r1_Plus_l4_s K)
def r1_Plus_dec : List U → Option (List Int) := fun | [.r l0] => some (l0) | _ => none
def r1_Plus_enc : (List Int) → List U := fun r => [.r r]
def r1_Plus (K : Nat) (l0 : List Int) (l1 : List Int) : Option (List Int) := ((r1_Plus_l4 K K l0 l1 [] 0 0).bind fun r0 => ((r1_Norm K r0).bind fun r1 => (some r1)))
theorem r1_Plus_eq (K : Nat) (l0 : List Int) (l1 : List Int) : (runF Try.prog (env_r1_Compare K) (r1_Plus_v4 K) Try.f50 [.one (.row .u64 false), .one (.row .u64 false)] [.one (.row .u64 false)] r1_Plus_dec [.r l0, .r l1]).den = r1_Plus K l0 l1 := by kernel_rfl
def r1_Plus_w (K : Nat) : List U → Option (List Int) := fun | [.r l0, .r l1] => r1_Plus K l0 l1 | _ => none
def r1_Plus_spec (K : Nat) : Vm.Spec := ⟨[.one (.row .u64 false), .one (.row .u64 false)], [.one (.row .u64 false)], List Int, r1_Plus_w K, r1_Plus_enc⟩
theorem r1_Plus_ok (K : Nat) : FnOk Try.prog 50 (r1_Plus_spec K) := fn_ok' hmix (env_r1_Compare_ok K) (lenv := r1_Plus_v4 K) (args := [.one (.row .u64 false), .one (.row .u64 false)]) (res := [.one (.row .u64 false)]) (G := r1_Plus_w K) (enc := r1_Plus_enc) Try.func50 (lps_fn (l := [lp (bodyOf Try.f50) 0]) (by kernel_rfl) ⟨⟨4, r1_Plus_l4_s K, by kernel_rfl, by kernel_rfl, r1_Plus_l4_ok K⟩, trivial⟩) (dec := r1_Plus_dec) (fun u r h => by unfold r1_Plus_dec at h; split at h; (cases h; rfl); cases h) (fun us r h => by unfold r1_Plus_w at h; split at h; exact (r1_Plus_eq K _ _).trans h; cases h)
def env_r1_Plus (K : Nat) : FuncId → Option Vm.Spec := addS (env_r1_Compare K) 50 (r1_Plus_spec K)
theorem env_r1_Plus_ok (K : Nat) : EnvOk Try.prog (env_r1_Plus K) := addS_ok (env_r1_Compare_ok K) (.inl ⟨callable Try.func50 (by kernel_rfl) (by kernel_rfl), r1_Plus_ok K⟩)
def r1_Minus_l4_pre : Vm.Pat := ⟨45, [(0, .pv (.one (.row .u64 false))), (1, .pv (.one (.row .u64 false))), (5, .pv (.one (.row .u64 true))), (6, .pv (.one (.int .u64))), (13, .pv (.one (.int .i64))), (14, .pv (.one (.int .i64)))], [], []⟩
def r1_Minus_l4_post0 : Vm.Pat := ⟨45, [(5, .pv (.one (.row .u64 true)))], [], []⟩
def r1_Minus_l4_enc0 : List Int → List U := fun r => [.r r]
def r1_Minus_l4_dec0 : List U → Option (List Int) := fun | [.r l5] => some (l5) | _ => none
def r1_Minus_l4 (K : Nat) : Nat → List Int → List Int → List Int → Int → Int → Int → Option (List Int)
 | 0, _, _, _, _, _, _ => none
 | k + 1, l0, l1, l5, x6, x13, x14 => (if (decide (x14 < x13)) = true then
 (if (decide (0 ≤ x14) && decide (x14 < (↑l0.length : Int))) = true then
 (if (decide (x14 < (↑l1.length : Int))) = true then
 (if (decide (0 ≤ x14) && decide (x14 < (↑l1.length : Int))) = true then
 (if (decide (0 ≤ x14) && decide (x14 < (↑l5.length : Int))) = true then
 (r1_Minus_l4 K k (l0) (l1) (l5.set x14.toNat
 ((IntKind.u64.wrap
 (IntKind.u64.wrap
 (IntKind.u64.wrap (nth 0 l0 x14.toNat + 4294967296) - x6) -
 nth 0 l1 x14.toNat)).tmod
 4294967296)) (IntKind.u64.wrap
 (1 -
 IntKind.u64.wrap
 ((IntKind.u64.wrap
 (IntKind.u64.wrap
 (IntKind.u64.wrap (nth 0 l0 x14.toNat + 4294967296) - x6) -
 nth 0 l1 x14.toNat)).tdiv
 4294967296))) (x13) (IntKind.i64.wrap (x14 + 1)))
 else none)
 else none)
 else (if (decide (0 ≤ x14) && decide (x14 < (↑l5.length : Int))) = true then
 (r1_Minus_l4 K k (l0) (l1) (l5.set x14.toNat
 ((IntKind.u64.wrap (IntKind.u64.wrap (nth 0 l0 x14.toNat + 4294967296) - x6)).tmod
 4294967296)) (IntKind.u64.wrap
 (1 -
 IntKind.u64.wrap
 ((IntKind.u64.wrap
 (IntKind.u64.wrap (nth 0 l0 x14.toNat + 4294967296) - x6)).tdiv
 4294967296))) (x13) (IntKind.i64.wrap (x14 + 1)))
 else none))
 else none)
 else (some l5))
def r1_Minus_l4_w (K k : Nat) : List U → Option (List Int) := fun | [.r l0, .r l1, .r l5, .i x6, .i x13, .i x14] => r1_Minus_l4 K k l0 l1 l5 x6 x13 x14 | _ => none
theorem r1_Minus_l4_eq (K k : Nat) (l0 : List Int) (l1 : List Int) (l5 : List Int) (x6 : Int) (x13 : Int) (x14 : Int) : (round1 Try.prog (env_r1_Plus K) (lenv0) (lp (bodyOf Try.f51) 0) r1_Minus_l4_pre (.exit 0) r1_Minus_l4_post0 r1_Minus_l4_dec0 (r1_Minus_l4_w K k) [.r l0, .r l1, .r l5, .i x6, .i x13, .i x14]).den = r1_Minus_l4 K (k + 1) l0 l1 l5 x6 x13 x14 := by kernel_rfl
def r1_Minus_l4_s (K : Nat) : Vm.LS := .one r1_Minus_l4_pre _ (.exit 0) r1_Minus_l4_post0 (r1_Minus_l4_w K K) r1_Minus_l4_enc0
theorem r1_Minus_l4_ok (K : Nat) : LoopOk Try.prog (lp (bodyOf Try.f51) 0) (r1_Minus_l4_s K) := loop_one hmix (env_r1_Plus_ok K) (lenv := lenv0) (L := r1_Minus_l4_w K) (enc := r1_Minus_l4_enc0) (dec := r1_Minus_l4_dec0) (lps_ok (l := []) (by kernel_rfl) trivial) (fun u r h => by unfold r1_Minus_l4_dec0 at h; split at h; (cases h; rfl); cases h) (fun us => by unfold r1_Minus_l4_w; split <;> first | rfl | (simp only [r1_Minus_l4])) (fun k us r h => by unfold r1_Minus_l4_w at h; split at h; exact (r1_Minus_l4_eq K k _ _ _ _ _ _).trans h; cases h) K
def r1_Minus_v4 (K : Nat) : Nat → Option Vm.LS := addL (lenv0) 4 (r1_Minus_l4_s K)
def r1_Minus_dec : List U → Option (List Int) := fun | [.r l0] => some (l0) | _ => none
def r1_Minus_enc : (List Int) → List U := fun r => [.r r]
def r1_Minus (K : Nat) (l0 : List Int) (l1 : List Int) : Option (List Int) := (if (decide (0 ≤ (↑l0.length : Int)) && decide ((↑l0.length : Int) ≤ (↑l0.length : Int)) &&
 decide ((↑l0.length : Int) ≤ 17592186044416)) = true then
 ((r1_Minus_l4 K K l0 l1 (List.replicate (↑l0.length : Int).toNat 0) 0 (↑l0.length : Int) 0).bind fun r0 => ((r1_Norm K r0).bind fun r1 => (some r1)))
 else none)
theorem r1_Minus_eq (K : Nat) (l0 : List Int) (l1 : List Int) : (runF Try.prog (env_r1_Plus K) (r1_Minus_v4 K) Try.f51 [.one (.row .u64 false), .one (.row .u64 false)] [.one (.row .u64 false)] r1_Minus_dec [.r l0, .r l1]).den = r1_Minus K l0 l1 := by kernel_rfl
def r1_Minus_w (K : Nat) : List U → Option (List Int) := fun | [.r l0, .r l1] => r1_Minus K l0 l1 | _ => none
def r1_Minus_spec (K : Nat) : Vm.Spec := ⟨[.one (.row .u64 false), .one (.row .u64 false)], [.one (.row .u64 false)], List Int, r1_Minus_w K, r1_Minus_enc⟩
theorem r1_Minus_ok (K : Nat) : FnOk Try.prog 51 (r1_Minus_spec K) := fn_ok' hmix (env_r1_Plus_ok K) (lenv := r1_Minus_v4 K) (args := [.one (.row .u64 false), .one (.row .u64 false)]) (res := [.one (.row .u64 false)]) (G := r1_Minus_w K) (enc := r1_Minus_enc) Try.func51 (lps_fn (l := [lp (bodyOf Try.f51) 0]) (by kernel_rfl) ⟨⟨4, r1_Minus_l4_s K, by kernel_rfl, by kernel_rfl, r1_Minus_l4_ok K⟩, trivial⟩) (dec := r1_Minus_dec) (fun u r h => by unfold r1_Minus_dec at h; split at h; (cases h; rfl); cases h) (fun us r h => by unfold r1_Minus_w at h; split at h; exact (r1_Minus_eq K _ _).trans h; cases h)
def env_r1_Minus (K : Nat) : FuncId → Option Vm.Spec := addS (env_r1_Plus K) 51 (r1_Minus_spec K)
theorem env_r1_Minus_ok (K : Nat) : EnvOk Try.prog (env_r1_Minus K) := addS_ok (env_r1_Plus_ok K) (.inl ⟨callable Try.func51 (by kernel_rfl) (by kernel_rfl), r1_Minus_ok K⟩)
def r1_Times_l7_pre : Vm.Pat := ⟨66, [(0, .pv (.one (.row .u64 false))), (1, .pv (.one (.row .u64 false))), (5, .pv (.one (.row .u64 true))), (6, .pv (.one (.int .i64))), (7, .pv (.one (.int .u64))), (16, .pv (.one (.int .i64))), (17, .pv (.one (.int .i64))), (21, .pv (.one (.int .i64))), (22, .pv (.one (.int .i64)))], [], []⟩
def r1_Times_l7_post0 : Vm.Pat := ⟨66, [(0, .pv (.one (.row .u64 false))), (1, .pv (.one (.row .u64 false))), (5, .pv (.one (.row .u64 true))), (6, .pv (.one (.int .i64))), (7, .pv (.one (.int .u64))), (16, .pv (.one (.int .i64))), (17, .pv (.one (.int .i64)))], [], []⟩
def r1_Times_l7_enc0 : List Int × List Int × List Int × Int × Int × Int × Int → List U := fun r => [.r r.1, .r r.2.1, .r r.2.2.1, .i r.2.2.2.1, .i r.2.2.2.2.1, .i r.2.2.2.2.2.1, .i r.2.2.2.2.2.2]
def r1_Times_l7_dec0 : List U → Option (List Int × List Int × List Int × Int × Int × Int × Int) := fun | [.r l0, .r l1, .r l5, .i x6, .i x7, .i x16, .i x17] => some (l0, l1, l5, x6, x7, x16, x17) | _ => none
def r1_Times_l7 (K : Nat) : Nat → List Int → List Int → List Int → Int → Int → Int → Int → Int → Int → Option (List Int × List Int × List Int × Int × Int × Int × Int)
 | 0, _, _, _, _, _, _, _, _, _ => none
 | k + 1, l0, l1, l5, x6, x7, x16, x17, x21, x22 => (if (decide (x22 < x21)) = true then
 (if (decide (0 ≤ x6) && decide (x6 < (↑l0.length : Int))) = true then
 (if (decide (0 ≤ x22) && decide (x22 < (↑l1.length : Int))) = true then
 (if (decide (0 ≤ IntKind.i64.wrap (x6 + x22)) &&
 decide (IntKind.i64.wrap (x6 + x22) < (↑l5.length : Int))) = true then
 (if (decide (0 ≤ IntKind.i64.wrap (x6 + x22)) &&
 decide (IntKind.i64.wrap (x6 + x22) < (↑l5.length : Int))) = true then
 (r1_Times_l7 K k (l0) (l1) (l5.set (IntKind.i64.wrap (x6 + x22)).toNat
 ((IntKind.u64.wrap
 (x7 +
 IntKind.u64.wrap
 (IntKind.u64.wrap
 (nth 0 l0 x6.toNat * nth 0 l1 x22.toNat) +
 nth 0 l5 (IntKind.i64.wrap (x6 + x22)).toNat))).tmod
 4294967296)) (x6) (IntKind.u64.wrap
 ((IntKind.u64.wrap
 (x7 +
 IntKind.u64.wrap
 (IntKind.u64.wrap
 (nth 0 l0 x6.toNat * nth 0 l1 x22.toNat) +
 nth 0 l5 (IntKind.i64.wrap (x6 + x22)).toNat))).tdiv
 4294967296)) (x16) (x17) (x21) (IntKind.i64.wrap (x22 + 1)))
 else none)
 else none)
 else none)
 else none)
 else (some ((l0, l1, l5, x6, x7, x16, x17))))
def r1_Times_l7_w (K k : Nat) : List U → Option (List Int × List Int × List Int × Int × Int × Int × Int) := fun | [.r l0, .r l1, .r l5, .i x6, .i x7, .i x16, .i x17, .i x21, .i x22] => r1_Times_l7 K k l0 l1 l5 x6 x7 x16 x17 x21 x22 | _ => none
theorem r1_Times_l7_eq (K k : Nat) (l0 : List Int) (l1 : List Int) (l5 : List Int) (x6 : Int) (x7 : Int) (x16 : Int) (x17 : Int) (x21 : Int) (x22 : Int) : (round1 Try.prog (env_r1_Minus K) (lenv0) (lp (lp (bodyOf Try.f53) 0) 0) r1_Times_l7_pre (.exit 2) r1_Times_l7_post0 r1_Times_l7_dec0 (r1_Times_l7_w K k) [.r l0, .r l1, .r l5, .i x6, .i x7, .i x16, .i x17, .i x21, .i x22]).den = r1_Times_l7 K (k + 1) l0 l1 l5 x6 x7 x16 x17 x21 x22 := by kernel_rfl
def r1_Times_l7_s (K : Nat) : Vm.LS := .one r1_Times_l7_pre _ (.exit 2) r1_Times_l7_post0 (r1_Times_l7_w K K) r1_Times_l7_enc0
theorem r1_Times_l7_ok (K : Nat) : LoopOk Try.prog (lp (lp (bodyOf Try.f53) 0) 0) (r1_Times_l7_s K) := loop_one hmix (env_r1_Minus_ok K) (lenv := lenv0) (L := r1_Times_l7_w K) (enc := r1_Times_l7_enc0) (dec := r1_Times_l7_dec0) (lps_ok (l := []) (by kernel_rfl) trivial) (fun u r h => by unfold r1_Times_l7_dec0 at h; split at h; (cases h; rfl); cases h) (fun us => by unfold r1_Times_l7_w; split <;> first | rfl | (simp only [r1_Times_l7])) (fun k us r h => by unfold r1_Times_l7_w at h; split at h; exact (r1_Times_l7_eq K k _ _ _ _ _ _ _ _ _).trans h; cases h) K
def r1_Times_v7 (K : Nat) : Nat → Option Vm.LS := addL (lenv0) 7 (r1_Times_l7_s K)
def r1_Times_l3_pre : Vm.Pat := ⟨66, [(0, .pv (.one (.row .u64 false))), (1, .pv (.one (.row .u64 false))), (5, .pv (.one (.row .u64 true))), (16, .pv (.one (.int .i64))), (17, .pv (.one (.int .i64)))], [], []⟩
def r1_Times_l3_post0 : Vm.Pat := ⟨66, [(5, .pv (.one (.row .u64 true)))], [], []⟩
def r1_Times_l3_enc0 : List Int → List U := fun r => [.r r]
def r1_Times_l3_dec0 : List U → Option (List Int) := fun | [.r l5] => some (l5) | _ => none
def r1_Times_l3 (K : Nat) : Nat → List Int → List Int → List Int → Int → Int → Option (List Int)
 | 0, _, _, _, _, _ => none
 | k + 1, l0, l1, l5, x16, x17 => (if (decide (x17 < x16)) = true then
 ((r1_Times_l7 K K l0 l1 l5 x17 0 x16 x17 (↑l1.length : Int) 0).bind fun r0 => (if (decide (0 ≤ IntKind.i64.wrap (r0.snd.snd.snd.fst + (↑r0.snd.fst.length : Int))) &&
 decide
 (IntKind.i64.wrap (r0.snd.snd.snd.fst + (↑r0.snd.fst.length : Int)) < (↑r0.snd.snd.fst.length : Int))) = true then
 (if (decide (0 ≤ IntKind.i64.wrap (r0.snd.snd.snd.fst + (↑r0.snd.fst.length : Int))) &&
 decide
 (IntKind.i64.wrap (r0.snd.snd.snd.fst + (↑r0.snd.fst.length : Int)) < (↑r0.snd.snd.fst.length : Int))) = true then
 (r1_Times_l3 K k (r0.fst) (r0.snd.fst) (r0.snd.snd.fst.set (IntKind.i64.wrap (r0.snd.snd.snd.fst + (↑r0.snd.fst.length : Int))).toNat
 (IntKind.u64.wrap
 (nth 0 r0.snd.snd.fst
 (IntKind.i64.wrap (r0.snd.snd.snd.fst + (↑r0.snd.fst.length : Int))).toNat +
 r0.snd.snd.snd.snd.fst))) (r0.snd.snd.snd.snd.snd.fst) (IntKind.i64.wrap (r0.snd.snd.snd.snd.snd.snd + 1)))
 else none)
 else none))
 else (some l5))
def r1_Times_l3_w (K k : Nat) : List U → Option (List Int) := fun | [.r l0, .r l1, .r l5, .i x16, .i x17] => r1_Times_l3 K k l0 l1 l5 x16 x17 | _ => none
theorem r1_Times_l3_eq (K k : Nat) (l0 : List Int) (l1 : List Int) (l5 : List Int) (x16 : Int) (x17 : Int) : (round1 Try.prog (env_r1_Minus K) (r1_Times_v7 K) (lp (bodyOf Try.f53) 0) r1_Times_l3_pre (.exit 0) r1_Times_l3_post0 r1_Times_l3_dec0 (r1_Times_l3_w K k) [.r l0, .r l1, .r l5, .i x16, .i x17]).den = r1_Times_l3 K (k + 1) l0 l1 l5 x16 x17 := by kernel_rfl
def r1_Times_l3_s (K : Nat) : Vm.LS := .one r1_Times_l3_pre _ (.exit 0) r1_Times_l3_post0 (r1_Times_l3_w K K) r1_Times_l3_enc0
theorem r1_Times_l3_ok (K : Nat) : LoopOk Try.prog (lp (bodyOf Try.f53) 0) (r1_Times_l3_s K) := loop_one hmix (env_r1_Minus_ok K) (lenv := r1_Times_v7 K) (L := r1_Times_l3_w K) (enc := r1_Times_l3_enc0) (dec := r1_Times_l3_dec0) (lps_ok (l := [lp (lp (bodyOf Try.f53) 0) 0]) (by kernel_rfl) ⟨⟨7, r1_Times_l7_s K, by kernel_rfl, by kernel_rfl, r1_Times_l7_ok K⟩, trivial⟩) (fun u r h => by unfold r1_Times_l3_dec0 at h; split at h; (cases h; rfl); cases h) (fun us => by unfold r1_Times_l3_w; split <;> first | rfl | (simp only [r1_Times_l3])) (fun k us r h => by unfold r1_Times_l3_w at h; split at h; exact (r1_Times_l3_eq K k _ _ _ _ _).trans h; cases h) K
def r1_Times_v3 (K : Nat) : Nat → Option Vm.LS := addL (r1_Times_v7 K) 3 (r1_Times_l3_s K)
def r1_Times_dec : List U → Option (List Int) := fun | [.r l0] => some (l0) | _ => none
def r1_Times_enc : (List Int) → List U := fun r => [.r r]
def r1_Times (K : Nat) (l0 : List Int) (l1 : List Int) : Option (List Int) := (if (decide (0 ≤ IntKind.i64.wrap ((↑l0.length : Int) + (↑l1.length : Int))) &&
 decide
 (IntKind.i64.wrap ((↑l0.length : Int) + (↑l1.length : Int)) ≤
 IntKind.i64.wrap ((↑l0.length : Int) + (↑l1.length : Int))) &&
 decide (IntKind.i64.wrap ((↑l0.length : Int) + (↑l1.length : Int)) ≤ 17592186044416)) = true then
 ((r1_Times_l3 K K l0 l1
 (List.replicate (IntKind.i64.wrap ((↑l0.length : Int) + (↑l1.length : Int))).toNat 0) (↑l0.length : Int) 0).bind fun r0 => ((r1_Norm K r0).bind fun r1 => (some r1)))
 else none)
theorem r1_Times_eq (K : Nat) (l0 : List Int) (l1 : List Int) : (runF Try.prog (env_r1_Minus K) (r1_Times_v3 K) Try.f53 [.one (.row .u64 false), .one (.row .u64 false)] [.one (.row .u64 false)] r1_Times_dec [.r l0, .r l1]).den = r1_Times K l0 l1 := by kernel_rfl
def r1_Times_w (K : Nat) : List U → Option (List Int) := fun | [.r l0, .r l1] => r1_Times K l0 l1 | _ => none
def r1_Times_spec (K : Nat) : Vm.Spec := ⟨[.one (.row .u64 false), .one (.row .u64 false)], [.one (.row .u64 false)], List Int, r1_Times_w K, r1_Times_enc⟩
theorem r1_Times_ok (K : Nat) : FnOk Try.prog 53 (r1_Times_spec K) := fn_ok' hmix (env_r1_Minus_ok K) (lenv := r1_Times_v3 K) (args := [.one (.row .u64 false), .one (.row .u64 false)]) (res := [.one (.row .u64 false)]) (G := r1_Times_w K) (enc := r1_Times_enc) Try.func53 (lps_fn (l := [lp (bodyOf Try.f53) 0]) (by kernel_rfl) ⟨⟨3, r1_Times_l3_s K, by kernel_rfl, by kernel_rfl, r1_Times_l3_ok K⟩, trivial⟩) (dec := r1_Times_dec) (fun u r h => by unfold r1_Times_dec at h; split at h; (cases h; rfl); cases h) (fun us r h => by unfold r1_Times_w at h; split at h; exact (r1_Times_eq K _ _).trans h; cases h)
def env_r1_Times (K : Nat) : FuncId → Option Vm.Spec := addS (env_r1_Minus K) 53 (r1_Times_spec K)
theorem env_r1_Times_ok (K : Nat) : EnvOk Try.prog (env_r1_Times K) := addS_ok (env_r1_Minus_ok K) (.inl ⟨callable Try.func53 (by kernel_rfl) (by kernel_rfl), r1_Times_ok K⟩)
def r1_Left_l4_pre : Vm.Pat := ⟨37, [(1, .pv (.one (.int .i64))), (5, .pv (.one (.row .u64 true))), (6, .pv (.one (.int .u64))), (12, .pv (.one (.row .u64 false))), (13, .pv (.one (.int .i64))), (14, .pv (.one (.int .i64)))], [], []⟩
def r1_Left_l4_post0 : Vm.Pat := ⟨37, [(5, .pv (.one (.row .u64 true))), (6, .pv (.one (.int .u64)))], [], []⟩
def r1_Left_l4_enc0 : List Int × Int → List U := fun r => [.r r.1, .i r.2]
def r1_Left_l4_dec0 : List U → Option (List Int × Int) := fun | [.r l5, .i x6] => some (l5, x6) | _ => none
def r1_Left_l4 (K : Nat) : Nat → Int → List Int → Int → List Int → Int → Int → Option (List Int × Int)
 | 0, _, _, _, _, _, _ => none
 | k + 1, x1, l5, x6, l12, x13, x14 => (if (decide (x14 < x13)) = true then
 (if (decide (0 ≤ x14) && decide (x14 < (↑l12.length : Int))) = true then
 (if (decide (x1.tmod 32 < 0)) = true then
 none
 else (if (decide (l5.length + 1 ≤ 17592186044416)) = true then
 (r1_Left_l4 K k (x1) (l5 ++
 [(IntKind.u64.wrap
 (IntKind.u64.wrap (nth 0 l12 x14.toNat * 2 ^ Min.min (x1.tmod 32).toNat 64) +
 x6)).tmod
 4294967296]) (IntKind.u64.wrap
 ((IntKind.u64.wrap
 (IntKind.u64.wrap (nth 0 l12 x14.toNat * 2 ^ Min.min (x1.tmod 32).toNat 64) +
 x6)).tdiv
 4294967296)) (l12) (x13) (IntKind.i64.wrap (x14 + 1)))
 else none))
 else none)
 else (some ((l5, x6))))
def r1_Left_l4_w (K k : Nat) : List U → Option (List Int × Int) := fun | [.i x1, .r l5, .i x6, .r l12, .i x13, .i x14] => r1_Left_l4 K k x1 l5 x6 l12 x13 x14 | _ => none
theorem r1_Left_l4_eq (K k : Nat) (x1 : Int) (l5 : List Int) (x6 : Int) (l12 : List Int) (x13 : Int) (x14 : Int) : (round1 Try.prog (env_r1_Times K) (lenv0) (lp (bodyOf Try.f72) 0) r1_Left_l4_pre (.exit 0) r1_Left_l4_post0 r1_Left_l4_dec0 (r1_Left_l4_w K k) [.i x1, .r l5, .i x6, .r l12, .i x13, .i x14]).den = r1_Left_l4 K (k + 1) x1 l5 x6 l12 x13 x14 := by kernel_rfl
def r1_Left_l4_s (K : Nat) : Vm.LS := .one r1_Left_l4_pre _ (.exit 0) r1_Left_l4_post0 (r1_Left_l4_w K K) r1_Left_l4_enc0
theorem r1_Left_l4_ok (K : Nat) : LoopOk Try.prog (lp (bodyOf Try.f72) 0) (r1_Left_l4_s K) := loop_one hmix (env_r1_Times_ok K) (lenv := lenv0) (L := r1_Left_l4_w K) (enc := r1_Left_l4_enc0) (dec := r1_Left_l4_dec0) (lps_ok (l := []) (by kernel_rfl) trivial) (fun u r h => by unfold r1_Left_l4_dec0 at h; split at h; (cases h; rfl); cases h) (fun us => by unfold r1_Left_l4_w; split <;> first | rfl | (simp only [r1_Left_l4])) (fun k us r h => by unfold r1_Left_l4_w at h; split at h; exact (r1_Left_l4_eq K k _ _ _ _ _ _).trans h; cases h) K
def r1_Left_v4 (K : Nat) : Nat → Option Vm.LS := addL (lenv0) 4 (r1_Left_l4_s K)
def r1_Left_dec : List U → Option (List Int) := fun | [.r l0] => some (l0) | _ => none
def r1_Left_enc : (List Int) → List U := fun r => [.r r]
def r1_Left (K : Nat) (l0 : List Int) (x1 : Int) : Option (List Int) := (if (decide (0 ≤ IntKind.i64.wrap (x1.tdiv 32)) &&
 decide (IntKind.i64.wrap (x1.tdiv 32) ≤ IntKind.i64.wrap (x1.tdiv 32)) &&
 decide (IntKind.i64.wrap (x1.tdiv 32) ≤ 17592186044416)) = true then
 ((r1_Left_l4 K K x1 (List.replicate (IntKind.i64.wrap (x1.tdiv 32)).toNat 0) 0 l0
 (↑l0.length : Int) 0).bind fun r0 => (if (decide (r0.fst.length + 1 ≤ 17592186044416)) = true then
 ((r1_Norm K (r0.fst ++ [r0.snd])).bind fun r1 => (some r1))
 else none))
 else none)
theorem r1_Left_eq (K : Nat) (l0 : List Int) (x1 : Int) : (runF Try.prog (env_r1_Times K) (r1_Left_v4 K) Try.f72 [.one (.row .u64 false), .one (.int .i64)] [.one (.row .u64 false)] r1_Left_dec [.r l0, .i x1]).den = r1_Left K l0 x1 := by kernel_rfl
def r1_Left_w (K : Nat) : List U → Option (List Int) := fun | [.r l0, .i x1] => r1_Left K l0 x1 | _ => none
def r1_Left_spec (K : Nat) : Vm.Spec := ⟨[.one (.row .u64 false), .one (.int .i64)], [.one (.row .u64 false)], List Int, r1_Left_w K, r1_Left_enc⟩
theorem r1_Left_ok (K : Nat) : FnOk Try.prog 72 (r1_Left_spec K) := fn_ok' hmix (env_r1_Times_ok K) (lenv := r1_Left_v4 K) (args := [.one (.row .u64 false), .one (.int .i64)]) (res := [.one (.row .u64 false)]) (G := r1_Left_w K) (enc := r1_Left_enc) Try.func72 (lps_fn (l := [lp (bodyOf Try.f72) 0]) (by kernel_rfl) ⟨⟨4, r1_Left_l4_s K, by kernel_rfl, by kernel_rfl, r1_Left_l4_ok K⟩, trivial⟩) (dec := r1_Left_dec) (fun u r h => by unfold r1_Left_dec at h; split at h; (cases h; rfl); cases h) (fun us r h => by unfold r1_Left_w at h; split at h; exact (r1_Left_eq K _ _).trans h; cases h)
def env_r1_Left (K : Nat) : FuncId → Option Vm.Spec := addS (env_r1_Times K) 72 (r1_Left_spec K)
theorem env_r1_Left_ok (K : Nat) : EnvOk Try.prog (env_r1_Left K) := addS_ok (env_r1_Times_ok K) (.inl ⟨callable Try.func72 (by kernel_rfl) (by kernel_rfl), r1_Left_ok K⟩)
def r1_Size_l5_pre : Vm.Pat := ⟨25, [(3, .pv (.one (.int .i64))), (4, .pv (.one (.int .u64)))], [], []⟩
def r1_Size_l5_post0 : Vm.Pat := ⟨25, [(3, .pv (.one (.int .i64)))], [], []⟩
def r1_Size_l5_enc0 : Int → List U := fun r => [.i r]
def r1_Size_l5_dec0 : List U → Option (Int) := fun | [.i x3] => some (x3) | _ => none
def r1_Size_l5 (K : Nat) : Nat → Int → Int → Option (Int)
 | 0, _, _ => none
 | k + 1, x3, x4 => (if (decide (x4 > 0)) = true then
 (r1_Size_l5 K k (IntKind.i64.wrap (x3 + 1)) (IntKind.u64.wrap (x4.tdiv 2)))
 else (some x3))
def r1_Size_l5_w (K k : Nat) : List U → Option (Int) := fun | [.i x3, .i x4] => r1_Size_l5 K k x3 x4 | _ => none
theorem r1_Size_l5_eq (K k : Nat) (x3 : Int) (x4 : Int) : (round1 Try.prog (env_r1_Left K) (lenv0) (lp (bodyOf Try.f71) 0) r1_Size_l5_pre (.exit 0) r1_Size_l5_post0 r1_Size_l5_dec0 (r1_Size_l5_w K k) [.i x3, .i x4]).den = r1_Size_l5 K (k + 1) x3 x4 := by kernel_rfl
def r1_Size_l5_s (K : Nat) : Vm.LS := .one r1_Size_l5_pre _ (.exit 0) r1_Size_l5_post0 (r1_Size_l5_w K K) r1_Size_l5_enc0
theorem r1_Size_l5_ok (K : Nat) : LoopOk Try.prog (lp (bodyOf Try.f71) 0) (r1_Size_l5_s K) := loop_one hmix (env_r1_Left_ok K) (lenv := lenv0) (L := r1_Size_l5_w K) (enc := r1_Size_l5_enc0) (dec := r1_Size_l5_dec0) (lps_ok (l := []) (by kernel_rfl) trivial) (fun u r h => by unfold r1_Size_l5_dec0 at h; split at h; (cases h; rfl); cases h) (fun us => by unfold r1_Size_l5_w; split <;> first | rfl | (simp only [r1_Size_l5])) (fun k us r h => by unfold r1_Size_l5_w at h; split at h; exact (r1_Size_l5_eq K k _ _).trans h; cases h) K
def r1_Size_v5 (K : Nat) : Nat → Option Vm.LS := addL (lenv0) 5 (r1_Size_l5_s K)
def r1_Size_dec : List U → Option (Int) := fun | [.i x0] => some (x0) | _ => none
def r1_Size_enc : (Int) → List U := fun r => [.i r]
def r1_Size (K : Nat) (l0 : List Int) : Option (Int) := (if ((↑l0.length : Int) == 0) = true then
 (some (0))
 else (if (decide (0 ≤ IntKind.i64.wrap ((↑l0.length : Int) - 1)) &&
 decide (IntKind.i64.wrap ((↑l0.length : Int) - 1) < (↑l0.length : Int))) = true then
 ((r1_Size_l5 K K (IntKind.i64.wrap (32 * IntKind.i64.wrap ((↑l0.length : Int) - 1)))
 (nth 0 l0 (IntKind.i64.wrap ((↑l0.length : Int) - 1)).toNat)).bind fun r0 => (some r0))
 else none))
theorem r1_Size_eq (K : Nat) (l0 : List Int) : (runF Try.prog (env_r1_Left K) (r1_Size_v5 K) Try.f71 [.one (.row .u64 false)] [.one (.int .i64)] r1_Size_dec [.r l0]).den = r1_Size K l0 := by kernel_rfl
def r1_Size_w (K : Nat) : List U → Option (Int) := fun | [.r l0] => r1_Size K l0 | _ => none
def r1_Size_spec (K : Nat) : Vm.Spec := ⟨[.one (.row .u64 false)], [.one (.int .i64)], Int, r1_Size_w K, r1_Size_enc⟩
theorem r1_Size_ok (K : Nat) : FnOk Try.prog 71 (r1_Size_spec K) := fn_ok' hmix (env_r1_Left_ok K) (lenv := r1_Size_v5 K) (args := [.one (.row .u64 false)]) (res := [.one (.int .i64)]) (G := r1_Size_w K) (enc := r1_Size_enc) Try.func71 (lps_fn (l := [lp (bodyOf Try.f71) 0]) (by kernel_rfl) ⟨⟨5, r1_Size_l5_s K, by kernel_rfl, by kernel_rfl, r1_Size_l5_ok K⟩, trivial⟩) (dec := r1_Size_dec) (fun u r h => by unfold r1_Size_dec at h; split at h; (cases h; rfl); cases h) (fun us r h => by unfold r1_Size_w at h; split at h; exact (r1_Size_eq K _).trans h; cases h)
def env_r1_Size (K : Nat) : FuncId → Option Vm.Spec := addS (env_r1_Left K) 71 (r1_Size_spec K)
theorem env_r1_Size_ok (K : Nat) : EnvOk Try.prog (env_r1_Size K) := addS_ok (env_r1_Left_ok K) (.inl ⟨callable Try.func71 (by kernel_rfl) (by kernel_rfl), r1_Size_ok K⟩)
def r1_Ten_l3_pre : Vm.Pat := ⟨13, [(3, .pv (.one (.row .u64 false))), (5, .pv (.one (.int .i64))), (6, .pv (.one (.int .i64)))], [], []⟩
def r1_Ten_l3_post0 : Vm.Pat := ⟨13, [(3, .pv (.one (.row .u64 false)))], [], []⟩
def r1_Ten_l3_enc0 : List Int → List U := fun r => [.r r]
def r1_Ten_l3_dec0 : List U → Option (List Int) := fun | [.r l3] => some (l3) | _ => none
def r1_Ten_l3 (K : Nat) : Nat → List Int → Int → Int → Option (List Int)
 | 0, _, _, _ => none
 | k + 1, l3, x5, x6 => (if (decide (x6 < x5)) = true then
 ((r1_Word K 10).bind fun r0 => ((r1_Times K l3 r0).bind fun r1 => (r1_Ten_l3 K k (r1) (x5) (IntKind.i64.wrap (x6 + 1)))))
 else (some l3))
def r1_Ten_l3_w (K k : Nat) : List U → Option (List Int) := fun | [.r l3, .i x5, .i x6] => r1_Ten_l3 K k l3 x5 x6 | _ => none
theorem r1_Ten_l3_eq (K k : Nat) (l3 : List Int) (x5 : Int) (x6 : Int) : (round1 Try.prog (env_r1_Size K) (lenv0) (lp (bodyOf Try.f31) 0) r1_Ten_l3_pre (.exit 0) r1_Ten_l3_post0 r1_Ten_l3_dec0 (r1_Ten_l3_w K k) [.r l3, .i x5, .i x6]).den = r1_Ten_l3 K (k + 1) l3 x5 x6 := by kernel_rfl
def r1_Ten_l3_s (K : Nat) : Vm.LS := .one r1_Ten_l3_pre _ (.exit 0) r1_Ten_l3_post0 (r1_Ten_l3_w K K) r1_Ten_l3_enc0
theorem r1_Ten_l3_ok (K : Nat) : LoopOk Try.prog (lp (bodyOf Try.f31) 0) (r1_Ten_l3_s K) := loop_one hmix (env_r1_Size_ok K) (lenv := lenv0) (L := r1_Ten_l3_w K) (enc := r1_Ten_l3_enc0) (dec := r1_Ten_l3_dec0) (lps_ok (l := []) (by kernel_rfl) trivial) (fun u r h => by unfold r1_Ten_l3_dec0 at h; split at h; (cases h; rfl); cases h) (fun us => by unfold r1_Ten_l3_w; split <;> first | rfl | (simp only [r1_Ten_l3])) (fun k us r h => by unfold r1_Ten_l3_w at h; split at h; exact (r1_Ten_l3_eq K k _ _ _).trans h; cases h) K
def r1_Ten_v3 (K : Nat) : Nat → Option Vm.LS := addL (lenv0) 3 (r1_Ten_l3_s K)
def r1_Ten_dec : List U → Option (List Int) := fun | [.r l0] => some (l0) | _ => none
def r1_Ten_enc : (List Int) → List U := fun r => [.r r]
def r1_Ten (K : Nat) (x0 : Int) : Option (List Int) := ((r1_Word K 1).bind fun r0 => ((r1_Ten_l3 K K r0 x0 0).bind fun r1 => (some r1)))
theorem r1_Ten_eq (K : Nat) (x0 : Int) : (runF Try.prog (env_r1_Size K) (r1_Ten_v3 K) Try.f31 [.one (.int .i64)] [.one (.row .u64 false)] r1_Ten_dec [.i x0]).den = r1_Ten K x0 := by kernel_rfl
def r1_Ten_w (K : Nat) : List U → Option (List Int) := fun | [.i x0] => r1_Ten K x0 | _ => none
def r1_Ten_spec (K : Nat) : Vm.Spec := ⟨[.one (.int .i64)], [.one (.row .u64 false)], List Int, r1_Ten_w K, r1_Ten_enc⟩
theorem r1_Ten_ok (K : Nat) : FnOk Try.prog 31 (r1_Ten_spec K) := fn_ok' hmix (env_r1_Size_ok K) (lenv := r1_Ten_v3 K) (args := [.one (.int .i64)]) (res := [.one (.row .u64 false)]) (G := r1_Ten_w K) (enc := r1_Ten_enc) Try.func31 (lps_fn (l := [lp (bodyOf Try.f31) 0]) (by kernel_rfl) ⟨⟨3, r1_Ten_l3_s K, by kernel_rfl, by kernel_rfl, r1_Ten_l3_ok K⟩, trivial⟩) (dec := r1_Ten_dec) (fun u r h => by unfold r1_Ten_dec at h; split at h; (cases h; rfl); cases h) (fun us r h => by unfold r1_Ten_w at h; split at h; exact (r1_Ten_eq K _).trans h; cases h)
def env_r1_Ten (K : Nat) : FuncId → Option Vm.Spec := addS (env_r1_Size K) 31 (r1_Ten_spec K)
theorem env_r1_Ten_ok (K : Nat) : EnvOk Try.prog (env_r1_Ten K) := addS_ok (env_r1_Size_ok K) (.inl ⟨callable Try.func31 (by kernel_rfl) (by kernel_rfl), r1_Ten_ok K⟩)
def r1_Made_dec : List U → Option (Bool × List Int) := fun | [.b c0_0, .r l0_1] => some (c0_0, l0_1) | _ => none
def r1_Made_enc : (Bool × List Int) → List U := fun r => [.b r.1, .r r.2]
def r1_Made (K : Nat) (x0 : Int) : Option (Bool × List Int) := (if (decide (x0 < 0)) = true then
 ((r1_Word K (IntKind.u64.wrap (0 - IntKind.u64.wrap x0))).bind fun r0 => (some ((true, r0))))
 else ((r1_Word K (IntKind.u64.wrap x0)).bind fun r1 => (some ((false, r1)))))
theorem r1_Made_eq (K : Nat) (x0 : Int) : (runF Try.prog (env_r1_Ten K) (lenv0) Try.f78 [.one (.int .i64)] [.agg [.bool, .row .u64 false]] r1_Made_dec [.i x0]).den = r1_Made K x0 := by kernel_rfl
def r1_Made_w (K : Nat) : List U → Option (Bool × List Int) := fun | [.i x0] => r1_Made K x0 | _ => none
def r1_Made_spec (K : Nat) : Vm.Spec := ⟨[.one (.int .i64)], [.agg [.bool, .row .u64 false]], Bool × List Int, r1_Made_w K, r1_Made_enc⟩
theorem r1_Made_ok (K : Nat) : FnOk Try.prog 78 (r1_Made_spec K) := fn_ok' hmix (env_r1_Ten_ok K) (lenv := lenv0) (args := [.one (.int .i64)]) (res := [.agg [.bool, .row .u64 false]]) (G := r1_Made_w K) (enc := r1_Made_enc) Try.func78 (lps_fn (l := []) (by kernel_rfl) trivial) (dec := r1_Made_dec) (fun u r h => by unfold r1_Made_dec at h; split at h; (cases h; rfl); cases h) (fun us r h => by unfold r1_Made_w at h; split at h; exact (r1_Made_eq K _).trans h; cases h)
def env_r1_Made (K : Nat) : FuncId → Option Vm.Spec := addS (env_r1_Ten K) 78 (r1_Made_spec K)
theorem env_r1_Made_ok (K : Nat) : EnvOk Try.prog (env_r1_Made K) := addS_ok (env_r1_Ten_ok K) (.inl ⟨callable Try.func78 (by kernel_rfl) (by kernel_rfl), r1_Made_ok K⟩)
def r1_Sum_dec : List U → Option (Bool × List Int) := fun | [.b c0_0, .r l0_1] => some (c0_0, l0_1) | _ => none
def r1_Sum_enc : (Bool × List Int) → List U := fun r => [.b r.1, .r r.2]
def r1_Sum (K : Nat) (c0_0 : Bool) (l0_1 : List Int) (c1_0 : Bool) (l1_1 : List Int) : Option (Bool × List Int) := (if (c0_0 == c1_0) = true then
 ((r1_Plus K l0_1 l1_1).bind fun r0 => (some ((c0_0, r0))))
 else ((r1_Compare K l0_1 l1_1).bind fun r1 => (if (decide (r1 ≥ 0)) = true then
 ((r1_Minus K l0_1 l1_1).bind fun r2 => (some ((c0_0, r2))))
 else ((r1_Minus K l1_1 l0_1).bind fun r3 => (some ((c1_0, r3)))))))
theorem r1_Sum_eq (K : Nat) (c0_0 : Bool) (l0_1 : List Int) (c1_0 : Bool) (l1_1 : List Int) : (runF Try.prog (env_r1_Made K) (lenv0) Try.f29 [.agg [.bool, .row .u64 false], .agg [.bool, .row .u64 false]] [.agg [.bool, .row .u64 false]] r1_Sum_dec [.b c0_0, .r l0_1, .b c1_0, .r l1_1]).den = r1_Sum K c0_0 l0_1 c1_0 l1_1 := by kernel_rfl
def r1_Sum_w (K : Nat) : List U → Option (Bool × List Int) := fun | [.b c0_0, .r l0_1, .b c1_0, .r l1_1] => r1_Sum K c0_0 l0_1 c1_0 l1_1 | _ => none
def r1_Sum_spec (K : Nat) : Vm.Spec := ⟨[.agg [.bool, .row .u64 false], .agg [.bool, .row .u64 false]], [.agg [.bool, .row .u64 false]], Bool × List Int, r1_Sum_w K, r1_Sum_enc⟩
theorem r1_Sum_ok (K : Nat) : FnOk Try.prog 29 (r1_Sum_spec K) := fn_ok' hmix (env_r1_Made_ok K) (lenv := lenv0) (args := [.agg [.bool, .row .u64 false], .agg [.bool, .row .u64 false]]) (res := [.agg [.bool, .row .u64 false]]) (G := r1_Sum_w K) (enc := r1_Sum_enc) Try.func29 (lps_fn (l := []) (by kernel_rfl) trivial) (dec := r1_Sum_dec) (fun u r h => by unfold r1_Sum_dec at h; split at h; (cases h; rfl); cases h) (fun us r h => by unfold r1_Sum_w at h; split at h; exact (r1_Sum_eq K _ _ _ _).trans h; cases h)
def env_r1_Sum (K : Nat) : FuncId → Option Vm.Spec := addS (env_r1_Made K) 29 (r1_Sum_spec K)
theorem env_r1_Sum_ok (K : Nat) : EnvOk Try.prog (env_r1_Sum K) := addS_ok (env_r1_Made_ok K) (.inl ⟨callable Try.func29 (by kernel_rfl) (by kernel_rfl), r1_Sum_ok K⟩)
def r1_Product_dec : List U → Option (Bool × List Int) := fun | [.b c0_0, .r l0_1] => some (c0_0, l0_1) | _ => none
def r1_Product_enc : (Bool × List Int) → List U := fun r => [.b r.1, .r r.2]
def r1_Product (K : Nat) (c0_0 : Bool) (l0_1 : List Int) (c1_0 : Bool) (l1_1 : List Int) : Option (Bool × List Int) := ((r1_Times K l0_1 l1_1).bind fun r0 => (some ((!c0_0 == c1_0, r0))))
theorem r1_Product_eq (K : Nat) (c0_0 : Bool) (l0_1 : List Int) (c1_0 : Bool) (l1_1 : List Int) : (runF Try.prog (env_r1_Sum K) (lenv0) Try.f65 [.agg [.bool, .row .u64 false], .agg [.bool, .row .u64 false]] [.agg [.bool, .row .u64 false]] r1_Product_dec [.b c0_0, .r l0_1, .b c1_0, .r l1_1]).den = r1_Product K c0_0 l0_1 c1_0 l1_1 := by kernel_rfl
def r1_Product_w (K : Nat) : List U → Option (Bool × List Int) := fun | [.b c0_0, .r l0_1, .b c1_0, .r l1_1] => r1_Product K c0_0 l0_1 c1_0 l1_1 | _ => none
def r1_Product_spec (K : Nat) : Vm.Spec := ⟨[.agg [.bool, .row .u64 false], .agg [.bool, .row .u64 false]], [.agg [.bool, .row .u64 false]], Bool × List Int, r1_Product_w K, r1_Product_enc⟩
theorem r1_Product_ok (K : Nat) : FnOk Try.prog 65 (r1_Product_spec K) := fn_ok' hmix (env_r1_Sum_ok K) (lenv := lenv0) (args := [.agg [.bool, .row .u64 false], .agg [.bool, .row .u64 false]]) (res := [.agg [.bool, .row .u64 false]]) (G := r1_Product_w K) (enc := r1_Product_enc) Try.func65 (lps_fn (l := []) (by kernel_rfl) trivial) (dec := r1_Product_dec) (fun u r h => by unfold r1_Product_dec at h; split at h; (cases h; rfl); cases h) (fun us r h => by unfold r1_Product_w at h; split at h; exact (r1_Product_eq K _ _ _ _).trans h; cases h)
def env_r1_Product (K : Nat) : FuncId → Option Vm.Spec := addS (env_r1_Sum K) 65 (r1_Product_spec K)
theorem env_r1_Product_ok (K : Nat) : EnvOk Try.prog (env_r1_Product K) := addS_ok (env_r1_Sum_ok K) (.inl ⟨callable Try.func65 (by kernel_rfl) (by kernel_rfl), r1_Product_ok K⟩)
def r1_Sign_dec : List U → Option (Int) := fun | [.i x0] => some (x0) | _ => none
def r1_Sign_enc : (Int) → List U := fun r => [.i r]
def r1_Sign (K : Nat) (c0_0 : Bool) (l0_1 : List Int) : Option (Int) := (if ((↑l0_1.length : Int) == 0) = true then
 (some (0))
 else (if (c0_0) = true then
 (some (-1))
 else (some (1))))
theorem r1_Sign_eq (K : Nat) (c0_0 : Bool) (l0_1 : List Int) : (runF Try.prog (env_r1_Product K) (lenv0) Try.f32 [.agg [.bool, .row .u64 false]] [.one (.int .i64)] r1_Sign_dec [.b c0_0, .r l0_1]).den = r1_Sign K c0_0 l0_1 := by kernel_rfl
def r1_Sign_w (K : Nat) : List U → Option (Int) := fun | [.b c0_0, .r l0_1] => r1_Sign K c0_0 l0_1 | _ => none
def r1_Sign_spec (K : Nat) : Vm.Spec := ⟨[.agg [.bool, .row .u64 false]], [.one (.int .i64)], Int, r1_Sign_w K, r1_Sign_enc⟩
theorem r1_Sign_ok (K : Nat) : FnOk Try.prog 32 (r1_Sign_spec K) := fn_ok' hmix (env_r1_Product_ok K) (lenv := lenv0) (args := [.agg [.bool, .row .u64 false]]) (res := [.one (.int .i64)]) (G := r1_Sign_w K) (enc := r1_Sign_enc) Try.func32 (lps_fn (l := []) (by kernel_rfl) trivial) (dec := r1_Sign_dec) (fun u r h => by unfold r1_Sign_dec at h; split at h; (cases h; rfl); cases h) (fun us r h => by unfold r1_Sign_w at h; split at h; exact (r1_Sign_eq K _ _).trans h; cases h)
def env_r1_Sign (K : Nat) : FuncId → Option Vm.Spec := addS (env_r1_Product K) 32 (r1_Sign_spec K)
theorem env_r1_Sign_ok (K : Nat) : EnvOk Try.prog (env_r1_Sign K) := addS_ok (env_r1_Product_ok K) (.inl ⟨callable Try.func32 (by kernel_rfl) (by kernel_rfl), r1_Sign_ok K⟩)
def r1_Form_dec : List U → Option (Bool) := fun | [.b c0] => some (c0) | _ => none
def r1_Form_enc : (Bool) → List U := fun r => [.b r]
def r1_Form (K : Nat) (x0_0 : Int) (x0_1 : Int) (x0_2 : Int) : Option (Bool) := (if (decide (x0_2 ≥ 0)) = true then
 (if (decide (x0_2 ≤ 18)) = true then
 (if (x0_0 == -9223372036854775808) = true then
 (some (!x0_1 == 0))
 else (some true))
 else (some false))
 else (some false))
theorem r1_Form_eq (K : Nat) (x0_0 : Int) (x0_1 : Int) (x0_2 : Int) : (runF Try.prog (env_r1_Sign K) (lenv0) Try.f48 [.agg [.int .i64, .int .u64, .int .i64]] [.one (.bool)] r1_Form_dec [.i x0_0, .i x0_1, .i x0_2]).den = r1_Form K x0_0 x0_1 x0_2 := by kernel_rfl
def r1_Form_w (K : Nat) : List U → Option (Bool) := fun | [.i x0_0, .i x0_1, .i x0_2] => r1_Form K x0_0 x0_1 x0_2 | _ => none
def r1_Form_spec (K : Nat) : Vm.Spec := ⟨[.agg [.int .i64, .int .u64, .int .i64]], [.one (.bool)], Bool, r1_Form_w K, r1_Form_enc⟩
theorem r1_Form_ok (K : Nat) : FnOk Try.prog 48 (r1_Form_spec K) := fn_ok' hmix (env_r1_Sign_ok K) (lenv := lenv0) (args := [.agg [.int .i64, .int .u64, .int .i64]]) (res := [.one (.bool)]) (G := r1_Form_w K) (enc := r1_Form_enc) Try.func48 (lps_fn (l := []) (by kernel_rfl) trivial) (dec := r1_Form_dec) (fun u r h => by unfold r1_Form_dec at h; split at h; (cases h; rfl); cases h) (fun us r h => by unfold r1_Form_w at h; split at h; exact (r1_Form_eq K _ _ _).trans h; cases h)
def env_r1_Form (K : Nat) : FuncId → Option Vm.Spec := addS (env_r1_Sign K) 48 (r1_Form_spec K)
theorem env_r1_Form_ok (K : Nat) : EnvOk Try.prog (env_r1_Form K) := addS_ok (env_r1_Sign_ok K) (.inl ⟨callable Try.func48 (by kernel_rfl) (by kernel_rfl), r1_Form_ok K⟩)
def r1_Coef_dec : List U → Option (Bool × List Int) := fun | [.b c0_0, .r l0_1] => some (c0_0, l0_1) | _ => none
def r1_Coef_enc : (Bool × List Int) → List U := fun r => [.b r.1, .r r.2]
def r1_Coef (K : Nat) (x0_0 : Int) (x0_1 : Int) (x0_2 : Int) : Option (Bool × List Int) := ((r1_Made K x0_0).bind fun r0 => ((r1_Left K r0.snd 64).bind fun r1 => ((r1_Word K x0_1).bind fun r2 => ((r1_Sum K r0.fst r1 false r2).bind fun r3 => (some ((r3.fst, r3.snd)))))))
theorem r1_Coef_eq (K : Nat) (x0_0 : Int) (x0_1 : Int) (x0_2 : Int) : (runF Try.prog (env_r1_Form K) (lenv0) Try.f66 [.agg [.int .i64, .int .u64, .int .i64]] [.agg [.bool, .row .u64 false]] r1_Coef_dec [.i x0_0, .i x0_1, .i x0_2]).den = r1_Coef K x0_0 x0_1 x0_2 := by kernel_rfl
def r1_Coef_w (K : Nat) : List U → Option (Bool × List Int) := fun | [.i x0_0, .i x0_1, .i x0_2] => r1_Coef K x0_0 x0_1 x0_2 | _ => none
def r1_Coef_spec (K : Nat) : Vm.Spec := ⟨[.agg [.int .i64, .int .u64, .int .i64]], [.agg [.bool, .row .u64 false]], Bool × List Int, r1_Coef_w K, r1_Coef_enc⟩
theorem r1_Coef_ok (K : Nat) : FnOk Try.prog 66 (r1_Coef_spec K) := fn_ok' hmix (env_r1_Form_ok K) (lenv := lenv0) (args := [.agg [.int .i64, .int .u64, .int .i64]]) (res := [.agg [.bool, .row .u64 false]]) (G := r1_Coef_w K) (enc := r1_Coef_enc) Try.func66 (lps_fn (l := []) (by kernel_rfl) trivial) (dec := r1_Coef_dec) (fun u r h => by unfold r1_Coef_dec at h; split at h; (cases h; rfl); cases h) (fun us r h => by unfold r1_Coef_w at h; split at h; exact (r1_Coef_eq K _ _ _).trans h; cases h)
def env_r1_Coef (K : Nat) : FuncId → Option Vm.Spec := addS (env_r1_Form K) 66 (r1_Coef_spec K)
theorem env_r1_Coef_ok (K : Nat) : EnvOk Try.prog (env_r1_Coef K) := addS_ok (env_r1_Form_ok K) (.inl ⟨callable Try.func66 (by kernel_rfl) (by kernel_rfl), r1_Coef_ok K⟩)
def r1_Dec_l9_pre : Vm.Pat := ⟨54, [(1, .pv (.one (.int .i64))), (7, .pv (.one (.int .u64))), (8, .pv (.one (.int .u64))), (26, .pv (.one (.row .u64 false))), (27, .pv (.one (.int .i64))), (28, .pv (.one (.int .i64))), (4, .box 0 0)], [.cells [.int .i64, .int .u64, .int .i64]], []⟩
def r1_Dec_l9_post0 : Vm.Pat := ⟨54, [(1, .pv (.one (.int .i64))), (7, .pv (.one (.int .u64))), (8, .pv (.one (.int .u64))), (4, .box 0 0)], [.cells [.int .i64, .int .u64, .int .i64]], []⟩
def r1_Dec_l9_enc0 : Int × Int × Int × Int × Int × Int → List U := fun r => [.i r.1, .i r.2.1, .i r.2.2.1, .i r.2.2.2.1, .i r.2.2.2.2.1, .i r.2.2.2.2.2]
def r1_Dec_l9_dec0 : List U → Option (Int × Int × Int × Int × Int × Int) := fun | [.i x1, .i x7, .i x8, .i x4_0, .i x4_1, .i x4_2] => some (x1, x7, x8, x4_0, x4_1, x4_2) | _ => none
def r1_Dec_l9 (K : Nat) : Nat → Int → Int → Int → List Int → Int → Int → Int → Int → Int → Option (Int × Int × Int × Int × Int × Int)
 | 0, _, _, _, _, _, _, _, _, _ => none
 | k + 1, x1, x7, x8, l26, x27, x28, x4_0, x4_1, x4_2 => (if (decide (x28 < x27)) = true then
 (if (decide (0 ≤ x28) && decide (x28 < (↑l26.length : Int))) = true then
 (if (decide (x28 < 2)) = true then
 (if (decide (IntKind.i64.wrap (32 * x28) < 0)) = true then
 none
 else (r1_Dec_l9 K k (x1) (IntKind.u64.wrap
 (x7 +
 IntKind.u64.wrap
 (nth 0 l26 x28.toNat * 2 ^ Min.min (IntKind.i64.wrap (32 * x28)).toNat 64))) (x8) (l26) (x27) (IntKind.i64.wrap (x28 + 1)) (x4_0) (x4_1) (x4_2)))
 else (if (decide (IntKind.i64.wrap (32 * IntKind.i64.wrap (x28 - 2)) < 0)) = true then
 none
 else (r1_Dec_l9 K k (x1) (x7) (IntKind.u64.wrap
 (x8 +
 IntKind.u64.wrap
 (nth 0 l26 x28.toNat *
 2 ^ Min.min (IntKind.i64.wrap (32 * IntKind.i64.wrap (x28 - 2))).toNat 64))) (l26) (x27) (IntKind.i64.wrap (x28 + 1)) (x4_0) (x4_1) (x4_2))))
 else none)
 else (some ((x1, x7, x8, x4_0, x4_1, x4_2))))
def r1_Dec_l9_w (K k : Nat) : List U → Option (Int × Int × Int × Int × Int × Int) := fun | [.i x1, .i x7, .i x8, .r l26, .i x27, .i x28, .i x4_0, .i x4_1, .i x4_2] => r1_Dec_l9 K k x1 x7 x8 l26 x27 x28 x4_0 x4_1 x4_2 | _ => none
theorem r1_Dec_l9_eq (K k : Nat) (x1 : Int) (x7 : Int) (x8 : Int) (l26 : List Int) (x27 : Int) (x28 : Int) (x4_0 : Int) (x4_1 : Int) (x4_2 : Int) : (round1 Try.prog (env_r1_Coef K) (lenv0) (lp (bodyOf Try.f57) 0) r1_Dec_l9_pre (.exit 0) r1_Dec_l9_post0 r1_Dec_l9_dec0 (r1_Dec_l9_w K k) [.i x1, .i x7, .i x8, .r l26, .i x27, .i x28, .i x4_0, .i x4_1, .i x4_2]).den = r1_Dec_l9 K (k + 1) x1 x7 x8 l26 x27 x28 x4_0 x4_1 x4_2 := by kernel_rfl
def r1_Dec_l9_s (K : Nat) : Vm.LS := .one r1_Dec_l9_pre _ (.exit 0) r1_Dec_l9_post0 (r1_Dec_l9_w K K) r1_Dec_l9_enc0
theorem r1_Dec_l9_ok (K : Nat) : LoopOk Try.prog (lp (bodyOf Try.f57) 0) (r1_Dec_l9_s K) := loop_one hmix (env_r1_Coef_ok K) (lenv := lenv0) (L := r1_Dec_l9_w K) (enc := r1_Dec_l9_enc0) (dec := r1_Dec_l9_dec0) (lps_ok (l := []) (by kernel_rfl) trivial) (fun u r h => by unfold r1_Dec_l9_dec0 at h; split at h; (cases h; rfl); cases h) (fun us => by unfold r1_Dec_l9_w; split <;> first | rfl | (simp only [r1_Dec_l9])) (fun k us r h => by unfold r1_Dec_l9_w at h; split at h; exact (r1_Dec_l9_eq K k _ _ _ _ _ _ _ _ _).trans h; cases h) K
def r1_Dec_v9 (K : Nat) : Nat → Option Vm.LS := addL (lenv0) 9 (r1_Dec_l9_s K)
def r1_Dec_dec : List U → Option (Int × Int × Int × Int) := fun | [.i x0_0, .i x0_1, .i x0_2, .i x1] => some (x0_0, x0_1, x0_2, x1) | _ => none
def r1_Dec_enc : (Int × Int × Int × Int) → List U := fun r => [.i r.1, .i r.2.1, .i r.2.2.1, .i r.2.2.2]
def r1_Dec (K : Nat) (c0_0 : Bool) (l0_1 : List Int) (x1 : Int) : Option (Int × Int × Int × Int) := ((r1_Size K l0_1).bind fun r0 => (if (decide (r0 > 127)) = true then
 (some ((0, 0, 0, 4)))
 else ((r1_Sign K c0_0 l0_1).bind fun r1 => (if (decide (r1 < 0)) = true then
 ((r1_Word K 1).bind fun r2 => ((r1_Left K r2 128).bind fun r3 => ((r1_Sum K c0_0 l0_1 false r3).bind fun r4 => ((r1_Dec_l9 K K x1 0 0 r4.snd (↑r4.snd.length : Int) 0 0 0 0).bind fun r5 => (some ((IntKind.i64.wrap r5.snd.snd.fst, r5.snd.fst, r5.fst, 0)))))))
 else ((r1_Dec_l9 K K x1 0 0 l0_1 (↑l0_1.length : Int) 0 0 0 0).bind fun r6 => (some ((IntKind.i64.wrap r6.snd.snd.fst, r6.snd.fst, r6.fst, 0))))))))
theorem r1_Dec_eq (K : Nat) (c0_0 : Bool) (l0_1 : List Int) (x1 : Int) : (runF Try.prog (env_r1_Coef K) (r1_Dec_v9 K) Try.f57 [.agg [.bool, .row .u64 false], .one (.int .i64)] [.agg [.int .i64, .int .u64, .int .i64], .one (.int .i64)] r1_Dec_dec [.b c0_0, .r l0_1, .i x1]).den = r1_Dec K c0_0 l0_1 x1 := by kernel_rfl
def r1_Dec_w (K : Nat) : List U → Option (Int × Int × Int × Int) := fun | [.b c0_0, .r l0_1, .i x1] => r1_Dec K c0_0 l0_1 x1 | _ => none
def r1_Dec_spec (K : Nat) : Vm.Spec := ⟨[.agg [.bool, .row .u64 false], .one (.int .i64)], [.agg [.int .i64, .int .u64, .int .i64], .one (.int .i64)], Int × Int × Int × Int, r1_Dec_w K, r1_Dec_enc⟩
theorem r1_Dec_ok (K : Nat) : FnOk Try.prog 57 (r1_Dec_spec K) := fn_ok' hmix (env_r1_Coef_ok K) (lenv := r1_Dec_v9 K) (args := [.agg [.bool, .row .u64 false], .one (.int .i64)]) (res := [.agg [.int .i64, .int .u64, .int .i64], .one (.int .i64)]) (G := r1_Dec_w K) (enc := r1_Dec_enc) Try.func57 (lps_fn (l := [lp (bodyOf Try.f57) 0]) (by kernel_rfl) ⟨⟨9, r1_Dec_l9_s K, by kernel_rfl, by kernel_rfl, r1_Dec_l9_ok K⟩, trivial⟩) (dec := r1_Dec_dec) (fun u r h => by unfold r1_Dec_dec at h; split at h; (cases h; rfl); cases h) (fun us r h => by unfold r1_Dec_w at h; split at h; exact (r1_Dec_eq K _ _ _).trans h; cases h)
def env_r1_Dec (K : Nat) : FuncId → Option Vm.Spec := addS (env_r1_Coef K) 57 (r1_Dec_spec K)
theorem env_r1_Dec_ok (K : Nat) : EnvOk Try.prog (env_r1_Dec K) := addS_ok (env_r1_Coef_ok K) (.inl ⟨callable Try.func57 (by kernel_rfl) (by kernel_rfl), r1_Dec_ok K⟩)
def r1_At_dec : List U → Option (Bool × List Int) := fun | [.b c0_0, .r l0_1] => some (c0_0, l0_1) | _ => none
def r1_At_enc : (Bool × List Int) → List U := fun r => [.b r.1, .r r.2]
def r1_At (K : Nat) (x0_0 : Int) (x0_1 : Int) (x0_2 : Int) (x1 : Int) : Option (Bool × List Int) := ((r1_Coef K x0_0 x0_1 x0_2).bind fun r0 => ((r1_Ten K (IntKind.i64.wrap (x1 - x0_2))).bind fun r1 => ((r1_Product K r0.fst r0.snd false r1).bind fun r2 => (some ((r2.fst, r2.snd))))))
theorem r1_At_eq (K : Nat) (x0_0 : Int) (x0_1 : Int) (x0_2 : Int) (x1 : Int) : (runF Try.prog (env_r1_Dec K) (lenv0) Try.f49 [.agg [.int .i64, .int .u64, .int .i64], .one (.int .i64)] [.agg [.bool, .row .u64 false]] r1_At_dec [.i x0_0, .i x0_1, .i x0_2, .i x1]).den = r1_At K x0_0 x0_1 x0_2 x1 := by kernel_rfl
def r1_At_w (K : Nat) : List U → Option (Bool × List Int) := fun | [.i x0_0, .i x0_1, .i x0_2, .i x1] => r1_At K x0_0 x0_1 x0_2 x1 | _ => none
def r1_At_spec (K : Nat) : Vm.Spec := ⟨[.agg [.int .i64, .int .u64, .int .i64], .one (.int .i64)], [.agg [.bool, .row .u64 false]], Bool × List Int, r1_At_w K, r1_At_enc⟩
theorem r1_At_ok (K : Nat) : FnOk Try.prog 49 (r1_At_spec K) := fn_ok' hmix (env_r1_Dec_ok K) (lenv := lenv0) (args := [.agg [.int .i64, .int .u64, .int .i64], .one (.int .i64)]) (res := [.agg [.bool, .row .u64 false]]) (G := r1_At_w K) (enc := r1_At_enc) Try.func49 (lps_fn (l := []) (by kernel_rfl) trivial) (dec := r1_At_dec) (fun u r h => by unfold r1_At_dec at h; split at h; (cases h; rfl); cases h) (fun us r h => by unfold r1_At_w at h; split at h; exact (r1_At_eq K _ _ _ _).trans h; cases h)
def env_r1_At (K : Nat) : FuncId → Option Vm.Spec := addS (env_r1_Dec K) 49 (r1_At_spec K)
theorem env_r1_At_ok (K : Nat) : EnvOk Try.prog (env_r1_At K) := addS_ok (env_r1_Dec_ok K) (.inl ⟨callable Try.func49 (by kernel_rfl) (by kernel_rfl), r1_At_ok K⟩)
end Go.Proofs.Ytimhhefngigfeaa.F
