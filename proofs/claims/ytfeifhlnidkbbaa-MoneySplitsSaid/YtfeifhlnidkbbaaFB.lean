import Derived.Test.YtfeifhlnidkbbaaVmY
import Derived.Test.YtfeifhlnidkbbaaVmRc
import Derived.Test.YtfeifhlnidkbbaaProg
import Derived.Test.YtfeifhlnidkbbaaFA
namespace Go.Proofs.Ytfeifhlnidkbbaa.F
open Go Go.Proofs.Ytfeifhlnidkbbaa.Vm
set_option maxRecDepth 1000000
set_option linter.unusedVariables false
-- passbook/passbookref01.Norm
def ref01_Norm_l2_pre : Vm.Pat := ⟨21, [(0, .pv (.one (.row .u64 false))), (3, .pv (.one (.int .i64)))], [], []⟩
def ref01_Norm_l2_post0 : Vm.Pat := ⟨21, [(0, .pv (.one (.row .u64 false))), (3, .pv (.one (.int .i64)))], [], []⟩
def ref01_Norm_l2_enc0 : List Int × Int → List U := fun r => [.r r.1, .i r.2]
def ref01_Norm_l2_dec0 : List U → Option (List Int × Int) := fun u => match u with | [.r l0, .i x3] => some (l0, x3) | _ => none
def ref01_Norm_l2 (K : Nat) : Nat → List Int → Int → Option (List Int × Int)
  | 0, _, _ => none
  | k + 1, l0, x3 => (if (Decidable.decide (x3 > 0)) = true then
    (if (Decidable.decide (0 ≤ Go.IntKind.i64.wrap (x3 - 1)) &&
  Decidable.decide (Go.IntKind.i64.wrap (x3 - 1) < (↑l0.length : Int))) = true then
    (if (nth 0 l0 (Go.IntKind.i64.wrap (x3 - 1)).toNat == 0) = true then
    (ref01_Norm_l2 K k (l0) (Go.IntKind.i64.wrap (x3 - 1)))
    else (some ((l0, x3))))
    else none)
    else (some ((l0, x3))))
def ref01_Norm_l2_w (K k : Nat) : List U → Option (List Int × Int) := fun us => match us with | [.r l0, .i x3] => ref01_Norm_l2 K k l0 x3 | _ => none
theorem ref01_Norm_l2_eq (K k : Nat) (l0 : List Int) (x3 : Int) : (round1 Go.Proofs.Try.prog (env_dec_Int K) (lenv0) (lp (bodyOf Go.Proofs.Try.f42) 0) ref01_Norm_l2_pre (.exit 0) ref01_Norm_l2_post0 ref01_Norm_l2_dec0 (ref01_Norm_l2_w K k) [.r l0, .i x3]).den = ref01_Norm_l2 K (k + 1) l0 x3 := by kernel_rfl
def ref01_Norm_l2_s (K : Nat) : Vm.LS := .one ref01_Norm_l2_pre _ (.exit 0) ref01_Norm_l2_post0 (ref01_Norm_l2_w K K) ref01_Norm_l2_enc0
theorem ref01_Norm_l2_ok (K : Nat) : LoopOk Go.Proofs.Try.prog (lp (bodyOf Go.Proofs.Try.f42) 0) (ref01_Norm_l2_s K) := loop_one hmix (env_dec_Int_ok K) (lenv := lenv0) (L := ref01_Norm_l2_w K) (enc := ref01_Norm_l2_enc0) (dec := ref01_Norm_l2_dec0) (lps_ok (l := []) (by kernel_rfl) trivial) (fun u r h => by unfold ref01_Norm_l2_dec0 at h; split at h; (obtain rfl := Option.some.inj h; rfl); cases h) (fun us => by unfold ref01_Norm_l2_w; split <;> first | rfl | (simp only [ref01_Norm_l2])) (fun k us r h => by unfold ref01_Norm_l2_w at h; split at h; exact (ref01_Norm_l2_eq K k _ _).trans h; cases h) K
def ref01_Norm_v2 (K : Nat) : Nat → Option Vm.LS := addL (lenv0) 2 (ref01_Norm_l2_s K)
def ref01_Norm_dec : List U → Option (List Int) := fun u => match u with | [.r l0] => some (l0) | _ => none
def ref01_Norm_enc : (List Int) → List U := fun r => [.r r]
def ref01_Norm (K : Nat) (l0 : List Int) : Option (List Int) := ((ref01_Norm_l2 K K l0 (↑l0.length : Int)).bind fun r0 => (if (Bool.true && Decidable.decide (0 ≤ r0.snd) && Decidable.decide (r0.snd ≤ (↑r0.fst.length : Int))) = true then
    (some (List.take (r0.snd.toNat - 0) (List.drop 0 r0.fst)))
    else none))
theorem ref01_Norm_eq (K : Nat) (l0 : List Int) : (runF Go.Proofs.Try.prog (env_dec_Int K) (ref01_Norm_v2 K) Go.Proofs.Try.f42 [.one (.row .u64 false)] [.one (.row .u64 false)] ref01_Norm_dec [.r l0]).den = ref01_Norm K l0 := by kernel_rfl
def ref01_Norm_w (K : Nat) : List U → Option (List Int) := fun us => match us with | [.r l0] => ref01_Norm K l0 | _ => none
def ref01_Norm_spec (K : Nat) : Vm.Spec := ⟨[.one (.row .u64 false)], [.one (.row .u64 false)], List Int, ref01_Norm_w K, ref01_Norm_enc⟩
theorem ref01_Norm_ok (K : Nat) : FnOk Go.Proofs.Try.prog 42 (ref01_Norm_spec K) := fn_ok' hmix (env_dec_Int_ok K) (lenv := ref01_Norm_v2 K) (args := [.one (.row .u64 false)]) (res := [.one (.row .u64 false)]) (G := ref01_Norm_w K) (enc := ref01_Norm_enc) Go.Proofs.Try.func42 (lps_fn (l := [lp (bodyOf Go.Proofs.Try.f42) 0]) (by kernel_rfl) ⟨⟨2, ref01_Norm_l2_s K, by kernel_rfl, by kernel_rfl, ref01_Norm_l2_ok K⟩, trivial⟩) (dec := ref01_Norm_dec) (fun u r h => by unfold ref01_Norm_dec at h; split at h; (obtain rfl := Option.some.inj h; rfl); cases h) (fun us r h => by unfold ref01_Norm_w at h; split at h; exact (ref01_Norm_eq K _).trans h; cases h)
def env_ref01_Norm (K : Nat) : FuncId → Option Vm.Spec := addS (env_dec_Int K) 42 (ref01_Norm_spec K)
theorem env_ref01_Norm_ok (K : Nat) : EnvOk Go.Proofs.Try.prog (env_ref01_Norm K) := addS_ok (env_dec_Int_ok K) (.inl ⟨callable Go.Proofs.Try.func42 (by kernel_rfl) (by kernel_rfl), ref01_Norm_ok K⟩)
-- passbook/passbookref01.Word
def ref01_Word_dec : List U → Option (List Int) := fun u => match u with | [.r l0] => some (l0) | _ => none
def ref01_Word_enc : (List Int) → List U := fun r => [.r r]
def ref01_Word (K : Nat) (x0 : Int) : Option (List Int) := ((ref01_Norm K [x0.tmod 4294967296, Go.IntKind.u64.wrap (x0.tdiv 4294967296)]).bind fun r0 => (some r0))
theorem ref01_Word_eq (K : Nat) (x0 : Int) : (runF Go.Proofs.Try.prog (env_ref01_Norm K) (lenv0) Go.Proofs.Try.f15 [.one (.int .u64)] [.one (.row .u64 false)] ref01_Word_dec [.i x0]).den = ref01_Word K x0 := by kernel_rfl
def ref01_Word_w (K : Nat) : List U → Option (List Int) := fun us => match us with | [.i x0] => ref01_Word K x0 | _ => none
def ref01_Word_spec (K : Nat) : Vm.Spec := ⟨[.one (.int .u64)], [.one (.row .u64 false)], List Int, ref01_Word_w K, ref01_Word_enc⟩
theorem ref01_Word_ok (K : Nat) : FnOk Go.Proofs.Try.prog 15 (ref01_Word_spec K) := fn_ok' hmix (env_ref01_Norm_ok K) (lenv := lenv0) (args := [.one (.int .u64)]) (res := [.one (.row .u64 false)]) (G := ref01_Word_w K) (enc := ref01_Word_enc) Go.Proofs.Try.func15 (lps_fn (l := []) (by kernel_rfl) trivial) (dec := ref01_Word_dec) (fun u r h => by unfold ref01_Word_dec at h; split at h; (obtain rfl := Option.some.inj h; rfl); cases h) (fun us r h => by unfold ref01_Word_w at h; split at h; exact (ref01_Word_eq K _).trans h; cases h)
def env_ref01_Word (K : Nat) : FuncId → Option Vm.Spec := addS (env_ref01_Norm K) 15 (ref01_Word_spec K)
theorem env_ref01_Word_ok (K : Nat) : EnvOk Go.Proofs.Try.prog (env_ref01_Word K) := addS_ok (env_ref01_Norm_ok K) (.inl ⟨callable Go.Proofs.Try.func15 (by kernel_rfl) (by kernel_rfl), ref01_Word_ok K⟩)
-- passbook/passbookref01.Fits
def ref01_Fits_l3_pre : Vm.Pat := ⟨24, [(0, .pv (.one (.row .u64 false))), (4, .pv (.one (.int .u64))), (5, .pv (.one (.int .i64)))], [], []⟩
def ref01_Fits_l3_post0 : Vm.Pat := ⟨24, [(0, .pv (.one (.row .u64 false))), (4, .pv (.one (.int .u64)))], [], []⟩
def ref01_Fits_l3_enc0 : List Int × Int → List U := fun r => [.r r.1, .i r.2]
def ref01_Fits_l3_dec0 : List U → Option (List Int × Int) := fun u => match u with | [.r l0, .i x4] => some (l0, x4) | _ => none
def ref01_Fits_l3 (K : Nat) : Nat → List Int → Int → Int → Option (List Int × Int)
  | 0, _, _, _ => none
  | k + 1, l0, x4, x5 => (if (Decidable.decide (x5 ≥ 0)) = true then
    (if (Decidable.decide (0 ≤ x5) && Decidable.decide (x5 < (↑l0.length : Int))) = true then
    (ref01_Fits_l3 K k (l0) (Go.IntKind.u64.wrap (Go.IntKind.u64.wrap (x4 * 4294967296) + nth 0 l0 x5.toNat)) (Go.IntKind.i64.wrap (x5 - 1)))
    else none)
    else (some ((l0, x4))))
def ref01_Fits_l3_w (K k : Nat) : List U → Option (List Int × Int) := fun us => match us with | [.r l0, .i x4, .i x5] => ref01_Fits_l3 K k l0 x4 x5 | _ => none
theorem ref01_Fits_l3_eq (K k : Nat) (l0 : List Int) (x4 : Int) (x5 : Int) : (round1 Go.Proofs.Try.prog (env_ref01_Word K) (lenv0) (lp (bodyOf Go.Proofs.Try.f16) 0) ref01_Fits_l3_pre (.exit 0) ref01_Fits_l3_post0 ref01_Fits_l3_dec0 (ref01_Fits_l3_w K k) [.r l0, .i x4, .i x5]).den = ref01_Fits_l3 K (k + 1) l0 x4 x5 := by kernel_rfl
def ref01_Fits_l3_s (K : Nat) : Vm.LS := .one ref01_Fits_l3_pre _ (.exit 0) ref01_Fits_l3_post0 (ref01_Fits_l3_w K K) ref01_Fits_l3_enc0
theorem ref01_Fits_l3_ok (K : Nat) : LoopOk Go.Proofs.Try.prog (lp (bodyOf Go.Proofs.Try.f16) 0) (ref01_Fits_l3_s K) := loop_one hmix (env_ref01_Word_ok K) (lenv := lenv0) (L := ref01_Fits_l3_w K) (enc := ref01_Fits_l3_enc0) (dec := ref01_Fits_l3_dec0) (lps_ok (l := []) (by kernel_rfl) trivial) (fun u r h => by unfold ref01_Fits_l3_dec0 at h; split at h; (obtain rfl := Option.some.inj h; rfl); cases h) (fun us => by unfold ref01_Fits_l3_w; split <;> first | rfl | (simp only [ref01_Fits_l3])) (fun k us r h => by unfold ref01_Fits_l3_w at h; split at h; exact (ref01_Fits_l3_eq K k _ _ _).trans h; cases h) K
def ref01_Fits_v3 (K : Nat) : Nat → Option Vm.LS := addL (lenv0) 3 (ref01_Fits_l3_s K)
def ref01_Fits_dec : List U → Option (Int × Bool) := fun u => match u with | [.i x0, .b c1] => some (x0, c1) | _ => none
def ref01_Fits_enc : (Int × Bool) → List U := fun r => [.i r.1, .b r.2]
def ref01_Fits (K : Nat) (l0 : List Int) : Option (Int × Bool) := ((ref01_Fits_l3 K K l0 0 (Go.IntKind.i64.wrap ((↑l0.length : Int) - 1))).bind fun r0 => (some ((r0.snd, Decidable.decide ((↑r0.fst.length : Int) ≤ 2)))))
theorem ref01_Fits_eq (K : Nat) (l0 : List Int) : (runF Go.Proofs.Try.prog (env_ref01_Word K) (ref01_Fits_v3 K) Go.Proofs.Try.f16 [.one (.row .u64 false)] [.one (.int .u64), .one (.bool)] ref01_Fits_dec [.r l0]).den = ref01_Fits K l0 := by kernel_rfl
def ref01_Fits_w (K : Nat) : List U → Option (Int × Bool) := fun us => match us with | [.r l0] => ref01_Fits K l0 | _ => none
def ref01_Fits_spec (K : Nat) : Vm.Spec := ⟨[.one (.row .u64 false)], [.one (.int .u64), .one (.bool)], Int × Bool, ref01_Fits_w K, ref01_Fits_enc⟩
theorem ref01_Fits_ok (K : Nat) : FnOk Go.Proofs.Try.prog 16 (ref01_Fits_spec K) := fn_ok' hmix (env_ref01_Word_ok K) (lenv := ref01_Fits_v3 K) (args := [.one (.row .u64 false)]) (res := [.one (.int .u64), .one (.bool)]) (G := ref01_Fits_w K) (enc := ref01_Fits_enc) Go.Proofs.Try.func16 (lps_fn (l := [lp (bodyOf Go.Proofs.Try.f16) 0]) (by kernel_rfl) ⟨⟨3, ref01_Fits_l3_s K, by kernel_rfl, by kernel_rfl, ref01_Fits_l3_ok K⟩, trivial⟩) (dec := ref01_Fits_dec) (fun u r h => by unfold ref01_Fits_dec at h; split at h; (obtain rfl := Option.some.inj h; rfl); cases h) (fun us r h => by unfold ref01_Fits_w at h; split at h; exact (ref01_Fits_eq K _).trans h; cases h)
def env_ref01_Fits (K : Nat) : FuncId → Option Vm.Spec := addS (env_ref01_Word K) 16 (ref01_Fits_spec K)
theorem env_ref01_Fits_ok (K : Nat) : EnvOk Go.Proofs.Try.prog (env_ref01_Fits K) := addS_ok (env_ref01_Word_ok K) (.inl ⟨callable Go.Proofs.Try.func16 (by kernel_rfl) (by kernel_rfl), ref01_Fits_ok K⟩)
-- passbook/passbookref01.Compare
def ref01_Compare_l6_pre : Vm.Pat := ⟨41, [(0, .pv (.one (.row .u64 false))), (1, .pv (.one (.row .u64 false))), (5, .pv (.one (.int .i64)))], [], []⟩
def ref01_Compare_l6_post0 : Vm.Pat := ⟨41, [], [], []⟩
def ref01_Compare_l6_enc0 : Unit → List U := fun _ => []
def ref01_Compare_l6_dec0 : List U → Option (Unit) := fun u => match u with | [] => some () | _ => none
def ref01_Compare_l6_post1 : Vm.Pat := ⟨41, [(4, .pv (.one (.int .i64)))], [], []⟩
def ref01_Compare_l6_enc1 : Int → List U := fun r => [.i r]
def ref01_Compare_l6_dec1 : List U → Option (Int) := fun u => match u with | [.i x4] => some (x4) | _ => none
def ref01_Compare_l6 (K : Nat) : Nat → List Int → List Int → Int → Option ((Unit) ⊕ (Int))
  | 0, _, _, _ => none
  | k + 1, l0, l1, x5 => (if (Decidable.decide (x5 ≥ 0)) = true then
    (if (Decidable.decide (0 ≤ x5) && Decidable.decide (x5 < (↑l0.length : Int))) = true then
    (if (Decidable.decide (0 ≤ x5) && Decidable.decide (x5 < (↑l1.length : Int))) = true then
    (if (Decidable.decide (nth 0 l0 x5.toNat < nth 0 l1 x5.toNat)) = true then
    (some (Sum.inr (-1)))
    else (if (Decidable.decide (0 ≤ x5) && Decidable.decide (x5 < (↑l0.length : Int))) = true then
    (if (Decidable.decide (0 ≤ x5) && Decidable.decide (x5 < (↑l1.length : Int))) = true then
    (if (Decidable.decide (nth 0 l0 x5.toNat > nth 0 l1 x5.toNat)) = true then
    (some (Sum.inr 1))
    else (ref01_Compare_l6 K k (l0) (l1) (Go.IntKind.i64.wrap (x5 - 1))))
    else none)
    else none))
    else none)
    else none)
    else (some (Sum.inl ())))
def ref01_Compare_l6_w (K k : Nat) : List U → Option ((Unit) ⊕ (Int)) := fun us => match us with | [.r l0, .r l1, .i x5] => ref01_Compare_l6 K k l0 l1 x5 | _ => none
theorem ref01_Compare_l6_eq (K k : Nat) (l0 : List Int) (l1 : List Int) (x5 : Int) : (round2 Go.Proofs.Try.prog (env_ref01_Fits K) (lenv0) (lp (bodyOf Go.Proofs.Try.f39) 0) ref01_Compare_l6_pre (.exit 0) ref01_Compare_l6_post0 .ret ref01_Compare_l6_post1 ref01_Compare_l6_dec0 ref01_Compare_l6_dec1 (ref01_Compare_l6_w K k) [.r l0, .r l1, .i x5]).den = ref01_Compare_l6 K (k + 1) l0 l1 x5 := by kernel_rfl
def ref01_Compare_l6_s (K : Nat) : Vm.LS := .two ref01_Compare_l6_pre _ _ (.exit 0) ref01_Compare_l6_post0 .ret ref01_Compare_l6_post1 (ref01_Compare_l6_w K K) ref01_Compare_l6_enc0 ref01_Compare_l6_enc1
theorem ref01_Compare_l6_ok (K : Nat) : LoopOk Go.Proofs.Try.prog (lp (bodyOf Go.Proofs.Try.f39) 0) (ref01_Compare_l6_s K) := loop_two hmix (env_ref01_Fits_ok K) (lenv := lenv0) (L := ref01_Compare_l6_w K) (enc := ref01_Compare_l6_enc0) (dec := ref01_Compare_l6_dec0) (enc' := ref01_Compare_l6_enc1) (dec' := ref01_Compare_l6_dec1) (lps_ok (l := []) (by kernel_rfl) trivial) (fun u r h => by unfold ref01_Compare_l6_dec0 at h; split at h; (obtain rfl := Option.some.inj h; rfl); cases h) (fun u r h => by unfold ref01_Compare_l6_dec1 at h; split at h; (obtain rfl := Option.some.inj h; rfl); cases h) (fun us => by unfold ref01_Compare_l6_w; split <;> first | rfl | (simp only [ref01_Compare_l6])) (fun k us r h => by unfold ref01_Compare_l6_w at h; split at h; exact (ref01_Compare_l6_eq K k _ _ _).trans h; cases h) K
def ref01_Compare_v6 (K : Nat) : Nat → Option Vm.LS := addL (lenv0) 6 (ref01_Compare_l6_s K)
def ref01_Compare_dec : List U → Option (Int) := fun u => match u with | [.i x0] => some (x0) | _ => none
def ref01_Compare_enc : (Int) → List U := fun r => [.i r]
def ref01_Compare (K : Nat) (l0 : List Int) (l1 : List Int) : Option (Int) := (if ((↑l0.length : Int) != (↑l1.length : Int)) = true then
    (if (Decidable.decide ((↑l0.length : Int) < (↑l1.length : Int))) = true then
    (some (-1))
    else (some (1)))
    else (casO (ref01_Compare_l6 K K l0 l1 (Go.IntKind.i64.wrap ((↑l0.length : Int) - 1))) (fun r0 => (some (0))) (fun r1 => (some r1))))
theorem ref01_Compare_eq (K : Nat) (l0 : List Int) (l1 : List Int) : (runF Go.Proofs.Try.prog (env_ref01_Fits K) (ref01_Compare_v6 K) Go.Proofs.Try.f39 [.one (.row .u64 false), .one (.row .u64 false)] [.one (.int .i64)] ref01_Compare_dec [.r l0, .r l1]).den = ref01_Compare K l0 l1 := by kernel_rfl
def ref01_Compare_w (K : Nat) : List U → Option (Int) := fun us => match us with | [.r l0, .r l1] => ref01_Compare K l0 l1 | _ => none
def ref01_Compare_spec (K : Nat) : Vm.Spec := ⟨[.one (.row .u64 false), .one (.row .u64 false)], [.one (.int .i64)], Int, ref01_Compare_w K, ref01_Compare_enc⟩
theorem ref01_Compare_ok (K : Nat) : FnOk Go.Proofs.Try.prog 39 (ref01_Compare_spec K) := fn_ok' hmix (env_ref01_Fits_ok K) (lenv := ref01_Compare_v6 K) (args := [.one (.row .u64 false), .one (.row .u64 false)]) (res := [.one (.int .i64)]) (G := ref01_Compare_w K) (enc := ref01_Compare_enc) Go.Proofs.Try.func39 (lps_fn (l := [lp (bodyOf Go.Proofs.Try.f39) 0]) (by kernel_rfl) ⟨⟨6, ref01_Compare_l6_s K, by kernel_rfl, by kernel_rfl, ref01_Compare_l6_ok K⟩, trivial⟩) (dec := ref01_Compare_dec) (fun u r h => by unfold ref01_Compare_dec at h; split at h; (obtain rfl := Option.some.inj h; rfl); cases h) (fun us r h => by unfold ref01_Compare_w at h; split at h; exact (ref01_Compare_eq K _ _).trans h; cases h)
def env_ref01_Compare (K : Nat) : FuncId → Option Vm.Spec := addS (env_ref01_Fits K) 39 (ref01_Compare_spec K)
theorem env_ref01_Compare_ok (K : Nat) : EnvOk Go.Proofs.Try.prog (env_ref01_Compare K) := addS_ok (env_ref01_Fits_ok K) (.inl ⟨callable Go.Proofs.Try.func39 (by kernel_rfl) (by kernel_rfl), ref01_Compare_ok K⟩)
-- passbook/passbookref01.Plus
def ref01_Plus_l4_pre : Vm.Pat := ⟨53, [(0, .pv (.one (.row .u64 false))), (1, .pv (.one (.row .u64 false))), (5, .pv (.one (.row .u64 true))), (6, .pv (.one (.int .u64))), (7, .pv (.one (.int .i64)))], [], []⟩
def ref01_Plus_l4_post0 : Vm.Pat := ⟨53, [(5, .pv (.one (.row .u64 true)))], [], []⟩
def ref01_Plus_l4_enc0 : List Int → List U := fun r => [.r r]
def ref01_Plus_l4_dec0 : List U → Option (List Int) := fun u => match u with | [.r l5] => some (l5) | _ => none
def ref01_Plus_l4 (K : Nat) : Nat → List Int → List Int → List Int → Int → Int → Option (List Int)
  | 0, _, _, _, _, _ => none
  | k + 1, l0, l1, l5, x6, x7 => (if (Decidable.decide (x7 < (↑l0.length : Int))) = true then
    (if (Decidable.decide (x7 < (↑l0.length : Int))) = true then
    (if (Decidable.decide (0 ≤ x7) && Decidable.decide (x7 < (↑l0.length : Int))) = true then
    (if (Decidable.decide (x7 < (↑l1.length : Int))) = true then
    (if (Decidable.decide (0 ≤ x7) && Decidable.decide (x7 < (↑l1.length : Int))) = true then
    (if (Decidable.decide (l5.length + 1 ≤ 17592186044416)) = true then
    (ref01_Plus_l4 K k (l0) (l1) (l5 ++
  [(Go.IntKind.u64.wrap
          (Go.IntKind.u64.wrap (x6 + nth 0 l0 x7.toNat) +
            nth 0 l1 x7.toNat)).tmod
      4294967296]) (Go.IntKind.u64.wrap
  ((Go.IntKind.u64.wrap
        (Go.IntKind.u64.wrap (x6 + nth 0 l0 x7.toNat) +
          nth 0 l1 x7.toNat)).tdiv
    4294967296)) (Go.IntKind.i64.wrap (x7 + 1)))
    else none)
    else none)
    else (if (Decidable.decide (l5.length + 1 ≤ 17592186044416)) = true then
    (ref01_Plus_l4 K k (l0) (l1) (l5 ++ [(Go.IntKind.u64.wrap (x6 + nth 0 l0 x7.toNat)).tmod 4294967296]) (Go.IntKind.u64.wrap ((Go.IntKind.u64.wrap (x6 + nth 0 l0 x7.toNat)).tdiv 4294967296)) (Go.IntKind.i64.wrap (x7 + 1)))
    else none))
    else none)
    else (if (Decidable.decide (x7 < (↑l1.length : Int))) = true then
    (if (Decidable.decide (0 ≤ x7) && Decidable.decide (x7 < (↑l1.length : Int))) = true then
    (if (Decidable.decide (l5.length + 1 ≤ 17592186044416)) = true then
    (ref01_Plus_l4 K k (l0) (l1) (l5 ++ [(Go.IntKind.u64.wrap (x6 + nth 0 l1 x7.toNat)).tmod 4294967296]) (Go.IntKind.u64.wrap ((Go.IntKind.u64.wrap (x6 + nth 0 l1 x7.toNat)).tdiv 4294967296)) (Go.IntKind.i64.wrap (x7 + 1)))
    else none)
    else none)
    else (if (Decidable.decide (l5.length + 1 ≤ 17592186044416)) = true then
    (ref01_Plus_l4 K k (l0) (l1) (l5 ++ [x6.tmod 4294967296]) (Go.IntKind.u64.wrap (x6.tdiv 4294967296)) (Go.IntKind.i64.wrap (x7 + 1)))
    else none)))
    else (if (Decidable.decide (x7 < (↑l1.length : Int))) = true then
    (if (Decidable.decide (x7 < (↑l0.length : Int))) = true then
    (if (Decidable.decide (0 ≤ x7) && Decidable.decide (x7 < (↑l0.length : Int))) = true then
    (if (Decidable.decide (x7 < (↑l1.length : Int))) = true then
    (if (Decidable.decide (0 ≤ x7) && Decidable.decide (x7 < (↑l1.length : Int))) = true then
    (if (Decidable.decide (l5.length + 1 ≤ 17592186044416)) = true then
    (ref01_Plus_l4 K k (l0) (l1) (l5 ++
  [(Go.IntKind.u64.wrap
          (Go.IntKind.u64.wrap (x6 + nth 0 l0 x7.toNat) +
            nth 0 l1 x7.toNat)).tmod
      4294967296]) (Go.IntKind.u64.wrap
  ((Go.IntKind.u64.wrap
        (Go.IntKind.u64.wrap (x6 + nth 0 l0 x7.toNat) +
          nth 0 l1 x7.toNat)).tdiv
    4294967296)) (Go.IntKind.i64.wrap (x7 + 1)))
    else none)
    else none)
    else (if (Decidable.decide (l5.length + 1 ≤ 17592186044416)) = true then
    (ref01_Plus_l4 K k (l0) (l1) (l5 ++ [(Go.IntKind.u64.wrap (x6 + nth 0 l0 x7.toNat)).tmod 4294967296]) (Go.IntKind.u64.wrap ((Go.IntKind.u64.wrap (x6 + nth 0 l0 x7.toNat)).tdiv 4294967296)) (Go.IntKind.i64.wrap (x7 + 1)))
    else none))
    else none)
    else (if (Decidable.decide (x7 < (↑l1.length : Int))) = true then
    (if (Decidable.decide (0 ≤ x7) && Decidable.decide (x7 < (↑l1.length : Int))) = true then
    (if (Decidable.decide (l5.length + 1 ≤ 17592186044416)) = true then
    (ref01_Plus_l4 K k (l0) (l1) (l5 ++ [(Go.IntKind.u64.wrap (x6 + nth 0 l1 x7.toNat)).tmod 4294967296]) (Go.IntKind.u64.wrap ((Go.IntKind.u64.wrap (x6 + nth 0 l1 x7.toNat)).tdiv 4294967296)) (Go.IntKind.i64.wrap (x7 + 1)))
    else none)
    else none)
    else (if (Decidable.decide (l5.length + 1 ≤ 17592186044416)) = true then
    (ref01_Plus_l4 K k (l0) (l1) (l5 ++ [x6.tmod 4294967296]) (Go.IntKind.u64.wrap (x6.tdiv 4294967296)) (Go.IntKind.i64.wrap (x7 + 1)))
    else none)))
    else (if (Decidable.decide (x6 > 0)) = true then
    (if (Decidable.decide (x7 < (↑l0.length : Int))) = true then
    (if (Decidable.decide (0 ≤ x7) && Decidable.decide (x7 < (↑l0.length : Int))) = true then
    (if (Decidable.decide (x7 < (↑l1.length : Int))) = true then
    (if (Decidable.decide (0 ≤ x7) && Decidable.decide (x7 < (↑l1.length : Int))) = true then
    (if (Decidable.decide (l5.length + 1 ≤ 17592186044416)) = true then
    (ref01_Plus_l4 K k (l0) (l1) (l5 ++
  [(Go.IntKind.u64.wrap
          (Go.IntKind.u64.wrap (x6 + nth 0 l0 x7.toNat) +
            nth 0 l1 x7.toNat)).tmod
      4294967296]) (Go.IntKind.u64.wrap
  ((Go.IntKind.u64.wrap
        (Go.IntKind.u64.wrap (x6 + nth 0 l0 x7.toNat) +
          nth 0 l1 x7.toNat)).tdiv
    4294967296)) (Go.IntKind.i64.wrap (x7 + 1)))
    else none)
    else none)
    else (if (Decidable.decide (l5.length + 1 ≤ 17592186044416)) = true then
    (ref01_Plus_l4 K k (l0) (l1) (l5 ++ [(Go.IntKind.u64.wrap (x6 + nth 0 l0 x7.toNat)).tmod 4294967296]) (Go.IntKind.u64.wrap ((Go.IntKind.u64.wrap (x6 + nth 0 l0 x7.toNat)).tdiv 4294967296)) (Go.IntKind.i64.wrap (x7 + 1)))
    else none))
    else none)
    else (if (Decidable.decide (x7 < (↑l1.length : Int))) = true then
    (if (Decidable.decide (0 ≤ x7) && Decidable.decide (x7 < (↑l1.length : Int))) = true then
    (if (Decidable.decide (l5.length + 1 ≤ 17592186044416)) = true then
    (ref01_Plus_l4 K k (l0) (l1) (l5 ++ [(Go.IntKind.u64.wrap (x6 + nth 0 l1 x7.toNat)).tmod 4294967296]) (Go.IntKind.u64.wrap ((Go.IntKind.u64.wrap (x6 + nth 0 l1 x7.toNat)).tdiv 4294967296)) (Go.IntKind.i64.wrap (x7 + 1)))
    else none)
    else none)
    else (if (Decidable.decide (l5.length + 1 ≤ 17592186044416)) = true then
    (ref01_Plus_l4 K k (l0) (l1) (l5 ++ [x6.tmod 4294967296]) (Go.IntKind.u64.wrap (x6.tdiv 4294967296)) (Go.IntKind.i64.wrap (x7 + 1)))
    else none)))
    else (some l5))))
def ref01_Plus_l4_w (K k : Nat) : List U → Option (List Int) := fun us => match us with | [.r l0, .r l1, .r l5, .i x6, .i x7] => ref01_Plus_l4 K k l0 l1 l5 x6 x7 | _ => none
theorem ref01_Plus_l4_eq (K k : Nat) (l0 : List Int) (l1 : List Int) (l5 : List Int) (x6 : Int) (x7 : Int) : (round1 Go.Proofs.Try.prog (env_ref01_Compare K) (lenv0) (lp (bodyOf Go.Proofs.Try.f36) 0) ref01_Plus_l4_pre (.exit 0) ref01_Plus_l4_post0 ref01_Plus_l4_dec0 (ref01_Plus_l4_w K k) [.r l0, .r l1, .r l5, .i x6, .i x7]).den = ref01_Plus_l4 K (k + 1) l0 l1 l5 x6 x7 := by kernel_rfl
def ref01_Plus_l4_s (K : Nat) : Vm.LS := .one ref01_Plus_l4_pre _ (.exit 0) ref01_Plus_l4_post0 (ref01_Plus_l4_w K K) ref01_Plus_l4_enc0
theorem ref01_Plus_l4_ok (K : Nat) : LoopOk Go.Proofs.Try.prog (lp (bodyOf Go.Proofs.Try.f36) 0) (ref01_Plus_l4_s K) := loop_one hmix (env_ref01_Compare_ok K) (lenv := lenv0) (L := ref01_Plus_l4_w K) (enc := ref01_Plus_l4_enc0) (dec := ref01_Plus_l4_dec0) (lps_ok (l := []) (by kernel_rfl) trivial) (fun u r h => by unfold ref01_Plus_l4_dec0 at h; split at h; (obtain rfl := Option.some.inj h; rfl); cases h) (fun us => by unfold ref01_Plus_l4_w; split <;> first | rfl | (simp only [ref01_Plus_l4])) (fun k us r h => by unfold ref01_Plus_l4_w at h; split at h; exact (ref01_Plus_l4_eq K k _ _ _ _ _).trans h; cases h) K
def ref01_Plus_v4 (K : Nat) : Nat → Option Vm.LS := addL (lenv0) 4 (ref01_Plus_l4_s K)
def ref01_Plus_dec : List U → Option (List Int) := fun u => match u with | [.r l0] => some (l0) | _ => none
def ref01_Plus_enc : (List Int) → List U := fun r => [.r r]
def ref01_Plus (K : Nat) (l0 : List Int) (l1 : List Int) : Option (List Int) := ((ref01_Plus_l4 K K l0 l1 [] 0 0).bind fun r0 => ((ref01_Norm K r0).bind fun r1 => (some r1)))
theorem ref01_Plus_eq (K : Nat) (l0 : List Int) (l1 : List Int) : (runF Go.Proofs.Try.prog (env_ref01_Compare K) (ref01_Plus_v4 K) Go.Proofs.Try.f36 [.one (.row .u64 false), .one (.row .u64 false)] [.one (.row .u64 false)] ref01_Plus_dec [.r l0, .r l1]).den = ref01_Plus K l0 l1 := by kernel_rfl
def ref01_Plus_w (K : Nat) : List U → Option (List Int) := fun us => match us with | [.r l0, .r l1] => ref01_Plus K l0 l1 | _ => none
def ref01_Plus_spec (K : Nat) : Vm.Spec := ⟨[.one (.row .u64 false), .one (.row .u64 false)], [.one (.row .u64 false)], List Int, ref01_Plus_w K, ref01_Plus_enc⟩
theorem ref01_Plus_ok (K : Nat) : FnOk Go.Proofs.Try.prog 36 (ref01_Plus_spec K) := fn_ok' hmix (env_ref01_Compare_ok K) (lenv := ref01_Plus_v4 K) (args := [.one (.row .u64 false), .one (.row .u64 false)]) (res := [.one (.row .u64 false)]) (G := ref01_Plus_w K) (enc := ref01_Plus_enc) Go.Proofs.Try.func36 (lps_fn (l := [lp (bodyOf Go.Proofs.Try.f36) 0]) (by kernel_rfl) ⟨⟨4, ref01_Plus_l4_s K, by kernel_rfl, by kernel_rfl, ref01_Plus_l4_ok K⟩, trivial⟩) (dec := ref01_Plus_dec) (fun u r h => by unfold ref01_Plus_dec at h; split at h; (obtain rfl := Option.some.inj h; rfl); cases h) (fun us r h => by unfold ref01_Plus_w at h; split at h; exact (ref01_Plus_eq K _ _).trans h; cases h)
def env_ref01_Plus (K : Nat) : FuncId → Option Vm.Spec := addS (env_ref01_Compare K) 36 (ref01_Plus_spec K)
theorem env_ref01_Plus_ok (K : Nat) : EnvOk Go.Proofs.Try.prog (env_ref01_Plus K) := addS_ok (env_ref01_Compare_ok K) (.inl ⟨callable Go.Proofs.Try.func36 (by kernel_rfl) (by kernel_rfl), ref01_Plus_ok K⟩)
-- passbook/passbookref01.Minus
def ref01_Minus_l4_pre : Vm.Pat := ⟨45, [(0, .pv (.one (.row .u64 false))), (1, .pv (.one (.row .u64 false))), (5, .pv (.one (.row .u64 true))), (6, .pv (.one (.int .u64))), (13, .pv (.one (.int .i64))), (14, .pv (.one (.int .i64)))], [], []⟩
def ref01_Minus_l4_post0 : Vm.Pat := ⟨45, [(5, .pv (.one (.row .u64 true)))], [], []⟩
def ref01_Minus_l4_enc0 : List Int → List U := fun r => [.r r]
def ref01_Minus_l4_dec0 : List U → Option (List Int) := fun u => match u with | [.r l5] => some (l5) | _ => none
def ref01_Minus_l4 (K : Nat) : Nat → List Int → List Int → List Int → Int → Int → Int → Option (List Int)
  | 0, _, _, _, _, _, _ => none
  | k + 1, l0, l1, l5, x6, x13, x14 => (if (Decidable.decide (x14 < x13)) = true then
    (if (Decidable.decide (0 ≤ x14) && Decidable.decide (x14 < (↑l0.length : Int))) = true then
    (if (Decidable.decide (x14 < (↑l1.length : Int))) = true then
    (if (Decidable.decide (0 ≤ x14) && Decidable.decide (x14 < (↑l1.length : Int))) = true then
    (if (Decidable.decide (0 ≤ x14) && Decidable.decide (x14 < (↑l5.length : Int))) = true then
    (ref01_Minus_l4 K k (l0) (l1) (l5.set x14.toNat
  ((Go.IntKind.u64.wrap
        (Go.IntKind.u64.wrap
            (Go.IntKind.u64.wrap (nth 0 l0 x14.toNat + 4294967296) - x6) -
          nth 0 l1 x14.toNat)).tmod
    4294967296)) (Go.IntKind.u64.wrap
  (1 -
    Go.IntKind.u64.wrap
      ((Go.IntKind.u64.wrap
            (Go.IntKind.u64.wrap
                (Go.IntKind.u64.wrap (nth 0 l0 x14.toNat + 4294967296) - x6) -
              nth 0 l1 x14.toNat)).tdiv
        4294967296))) (x13) (Go.IntKind.i64.wrap (x14 + 1)))
    else none)
    else none)
    else (if (Decidable.decide (0 ≤ x14) && Decidable.decide (x14 < (↑l5.length : Int))) = true then
    (ref01_Minus_l4 K k (l0) (l1) (l5.set x14.toNat
  ((Go.IntKind.u64.wrap (Go.IntKind.u64.wrap (nth 0 l0 x14.toNat + 4294967296) - x6)).tmod
    4294967296)) (Go.IntKind.u64.wrap
  (1 -
    Go.IntKind.u64.wrap
      ((Go.IntKind.u64.wrap
            (Go.IntKind.u64.wrap (nth 0 l0 x14.toNat + 4294967296) - x6)).tdiv
        4294967296))) (x13) (Go.IntKind.i64.wrap (x14 + 1)))
    else none))
    else none)
    else (some l5))
def ref01_Minus_l4_w (K k : Nat) : List U → Option (List Int) := fun us => match us with | [.r l0, .r l1, .r l5, .i x6, .i x13, .i x14] => ref01_Minus_l4 K k l0 l1 l5 x6 x13 x14 | _ => none
theorem ref01_Minus_l4_eq (K k : Nat) (l0 : List Int) (l1 : List Int) (l5 : List Int) (x6 : Int) (x13 : Int) (x14 : Int) : (round1 Go.Proofs.Try.prog (env_ref01_Plus K) (lenv0) (lp (bodyOf Go.Proofs.Try.f38) 0) ref01_Minus_l4_pre (.exit 0) ref01_Minus_l4_post0 ref01_Minus_l4_dec0 (ref01_Minus_l4_w K k) [.r l0, .r l1, .r l5, .i x6, .i x13, .i x14]).den = ref01_Minus_l4 K (k + 1) l0 l1 l5 x6 x13 x14 := by kernel_rfl
def ref01_Minus_l4_s (K : Nat) : Vm.LS := .one ref01_Minus_l4_pre _ (.exit 0) ref01_Minus_l4_post0 (ref01_Minus_l4_w K K) ref01_Minus_l4_enc0
theorem ref01_Minus_l4_ok (K : Nat) : LoopOk Go.Proofs.Try.prog (lp (bodyOf Go.Proofs.Try.f38) 0) (ref01_Minus_l4_s K) := loop_one hmix (env_ref01_Plus_ok K) (lenv := lenv0) (L := ref01_Minus_l4_w K) (enc := ref01_Minus_l4_enc0) (dec := ref01_Minus_l4_dec0) (lps_ok (l := []) (by kernel_rfl) trivial) (fun u r h => by unfold ref01_Minus_l4_dec0 at h; split at h; (obtain rfl := Option.some.inj h; rfl); cases h) (fun us => by unfold ref01_Minus_l4_w; split <;> first | rfl | (simp only [ref01_Minus_l4])) (fun k us r h => by unfold ref01_Minus_l4_w at h; split at h; exact (ref01_Minus_l4_eq K k _ _ _ _ _ _).trans h; cases h) K
def ref01_Minus_v4 (K : Nat) : Nat → Option Vm.LS := addL (lenv0) 4 (ref01_Minus_l4_s K)
def ref01_Minus_dec : List U → Option (List Int) := fun u => match u with | [.r l0] => some (l0) | _ => none
def ref01_Minus_enc : (List Int) → List U := fun r => [.r r]
def ref01_Minus (K : Nat) (l0 : List Int) (l1 : List Int) : Option (List Int) := (if (Decidable.decide (0 ≤ (↑l0.length : Int)) && Decidable.decide ((↑l0.length : Int) ≤ (↑l0.length : Int)) &&
  Decidable.decide ((↑l0.length : Int) ≤ 17592186044416)) = true then
    ((ref01_Minus_l4 K K l0 l1 (List.replicate (↑l0.length : Int).toNat 0) 0 (↑l0.length : Int) 0).bind fun r0 => ((ref01_Norm K r0).bind fun r1 => (some r1)))
    else none)
theorem ref01_Minus_eq (K : Nat) (l0 : List Int) (l1 : List Int) : (runF Go.Proofs.Try.prog (env_ref01_Plus K) (ref01_Minus_v4 K) Go.Proofs.Try.f38 [.one (.row .u64 false), .one (.row .u64 false)] [.one (.row .u64 false)] ref01_Minus_dec [.r l0, .r l1]).den = ref01_Minus K l0 l1 := by kernel_rfl
def ref01_Minus_w (K : Nat) : List U → Option (List Int) := fun us => match us with | [.r l0, .r l1] => ref01_Minus K l0 l1 | _ => none
def ref01_Minus_spec (K : Nat) : Vm.Spec := ⟨[.one (.row .u64 false), .one (.row .u64 false)], [.one (.row .u64 false)], List Int, ref01_Minus_w K, ref01_Minus_enc⟩
theorem ref01_Minus_ok (K : Nat) : FnOk Go.Proofs.Try.prog 38 (ref01_Minus_spec K) := fn_ok' hmix (env_ref01_Plus_ok K) (lenv := ref01_Minus_v4 K) (args := [.one (.row .u64 false), .one (.row .u64 false)]) (res := [.one (.row .u64 false)]) (G := ref01_Minus_w K) (enc := ref01_Minus_enc) Go.Proofs.Try.func38 (lps_fn (l := [lp (bodyOf Go.Proofs.Try.f38) 0]) (by kernel_rfl) ⟨⟨4, ref01_Minus_l4_s K, by kernel_rfl, by kernel_rfl, ref01_Minus_l4_ok K⟩, trivial⟩) (dec := ref01_Minus_dec) (fun u r h => by unfold ref01_Minus_dec at h; split at h; (obtain rfl := Option.some.inj h; rfl); cases h) (fun us r h => by unfold ref01_Minus_w at h; split at h; exact (ref01_Minus_eq K _ _).trans h; cases h)
def env_ref01_Minus (K : Nat) : FuncId → Option Vm.Spec := addS (env_ref01_Plus K) 38 (ref01_Minus_spec K)
theorem env_ref01_Minus_ok (K : Nat) : EnvOk Go.Proofs.Try.prog (env_ref01_Minus K) := addS_ok (env_ref01_Plus_ok K) (.inl ⟨callable Go.Proofs.Try.func38 (by kernel_rfl) (by kernel_rfl), ref01_Minus_ok K⟩)
-- passbook/passbookref01.Times
def ref01_Times_l7_pre : Vm.Pat := ⟨66, [(0, .pv (.one (.row .u64 false))), (1, .pv (.one (.row .u64 false))), (5, .pv (.one (.row .u64 true))), (6, .pv (.one (.int .i64))), (7, .pv (.one (.int .u64))), (16, .pv (.one (.int .i64))), (17, .pv (.one (.int .i64))), (21, .pv (.one (.int .i64))), (22, .pv (.one (.int .i64)))], [], []⟩
def ref01_Times_l7_post0 : Vm.Pat := ⟨66, [(0, .pv (.one (.row .u64 false))), (1, .pv (.one (.row .u64 false))), (5, .pv (.one (.row .u64 true))), (6, .pv (.one (.int .i64))), (7, .pv (.one (.int .u64))), (16, .pv (.one (.int .i64))), (17, .pv (.one (.int .i64)))], [], []⟩
def ref01_Times_l7_enc0 : List Int × List Int × List Int × Int × Int × Int × Int → List U := fun r => [.r r.1, .r r.2.1, .r r.2.2.1, .i r.2.2.2.1, .i r.2.2.2.2.1, .i r.2.2.2.2.2.1, .i r.2.2.2.2.2.2]
def ref01_Times_l7_dec0 : List U → Option (List Int × List Int × List Int × Int × Int × Int × Int) := fun u => match u with | [.r l0, .r l1, .r l5, .i x6, .i x7, .i x16, .i x17] => some (l0, l1, l5, x6, x7, x16, x17) | _ => none
def ref01_Times_l7 (K : Nat) : Nat → List Int → List Int → List Int → Int → Int → Int → Int → Int → Int → Option (List Int × List Int × List Int × Int × Int × Int × Int)
  | 0, _, _, _, _, _, _, _, _, _ => none
  | k + 1, l0, l1, l5, x6, x7, x16, x17, x21, x22 => (if (Decidable.decide (x22 < x21)) = true then
    (if (Decidable.decide (0 ≤ x6) && Decidable.decide (x6 < (↑l0.length : Int))) = true then
    (if (Decidable.decide (0 ≤ x22) && Decidable.decide (x22 < (↑l1.length : Int))) = true then
    (if (Decidable.decide (0 ≤ Go.IntKind.i64.wrap (x6 + x22)) &&
  Decidable.decide (Go.IntKind.i64.wrap (x6 + x22) < (↑l5.length : Int))) = true then
    (if (Decidable.decide (0 ≤ Go.IntKind.i64.wrap (x6 + x22)) &&
  Decidable.decide (Go.IntKind.i64.wrap (x6 + x22) < (↑l5.length : Int))) = true then
    (ref01_Times_l7 K k (l0) (l1) (l5.set (Go.IntKind.i64.wrap (x6 + x22)).toNat
  ((Go.IntKind.u64.wrap
        (x7 +
          Go.IntKind.u64.wrap
            (Go.IntKind.u64.wrap
                (nth 0 l0 x6.toNat * nth 0 l1 x22.toNat) +
              nth 0 l5 (Go.IntKind.i64.wrap (x6 + x22)).toNat))).tmod
    4294967296)) (x6) (Go.IntKind.u64.wrap
  ((Go.IntKind.u64.wrap
        (x7 +
          Go.IntKind.u64.wrap
            (Go.IntKind.u64.wrap
                (nth 0 l0 x6.toNat * nth 0 l1 x22.toNat) +
              nth 0 l5 (Go.IntKind.i64.wrap (x6 + x22)).toNat))).tdiv
    4294967296)) (x16) (x17) (x21) (Go.IntKind.i64.wrap (x22 + 1)))
    else none)
    else none)
    else none)
    else none)
    else (some ((l0, l1, l5, x6, x7, x16, x17))))
def ref01_Times_l7_w (K k : Nat) : List U → Option (List Int × List Int × List Int × Int × Int × Int × Int) := fun us => match us with | [.r l0, .r l1, .r l5, .i x6, .i x7, .i x16, .i x17, .i x21, .i x22] => ref01_Times_l7 K k l0 l1 l5 x6 x7 x16 x17 x21 x22 | _ => none
theorem ref01_Times_l7_eq (K k : Nat) (l0 : List Int) (l1 : List Int) (l5 : List Int) (x6 : Int) (x7 : Int) (x16 : Int) (x17 : Int) (x21 : Int) (x22 : Int) : (round1 Go.Proofs.Try.prog (env_ref01_Minus K) (lenv0) (lp (lp (bodyOf Go.Proofs.Try.f14) 0) 0) ref01_Times_l7_pre (.exit 2) ref01_Times_l7_post0 ref01_Times_l7_dec0 (ref01_Times_l7_w K k) [.r l0, .r l1, .r l5, .i x6, .i x7, .i x16, .i x17, .i x21, .i x22]).den = ref01_Times_l7 K (k + 1) l0 l1 l5 x6 x7 x16 x17 x21 x22 := by kernel_rfl
def ref01_Times_l7_s (K : Nat) : Vm.LS := .one ref01_Times_l7_pre _ (.exit 2) ref01_Times_l7_post0 (ref01_Times_l7_w K K) ref01_Times_l7_enc0
theorem ref01_Times_l7_ok (K : Nat) : LoopOk Go.Proofs.Try.prog (lp (lp (bodyOf Go.Proofs.Try.f14) 0) 0) (ref01_Times_l7_s K) := loop_one hmix (env_ref01_Minus_ok K) (lenv := lenv0) (L := ref01_Times_l7_w K) (enc := ref01_Times_l7_enc0) (dec := ref01_Times_l7_dec0) (lps_ok (l := []) (by kernel_rfl) trivial) (fun u r h => by unfold ref01_Times_l7_dec0 at h; split at h; (obtain rfl := Option.some.inj h; rfl); cases h) (fun us => by unfold ref01_Times_l7_w; split <;> first | rfl | (simp only [ref01_Times_l7])) (fun k us r h => by unfold ref01_Times_l7_w at h; split at h; exact (ref01_Times_l7_eq K k _ _ _ _ _ _ _ _ _).trans h; cases h) K
def ref01_Times_v7 (K : Nat) : Nat → Option Vm.LS := addL (lenv0) 7 (ref01_Times_l7_s K)
def ref01_Times_l3_pre : Vm.Pat := ⟨66, [(0, .pv (.one (.row .u64 false))), (1, .pv (.one (.row .u64 false))), (5, .pv (.one (.row .u64 true))), (16, .pv (.one (.int .i64))), (17, .pv (.one (.int .i64)))], [], []⟩
def ref01_Times_l3_post0 : Vm.Pat := ⟨66, [(5, .pv (.one (.row .u64 true)))], [], []⟩
def ref01_Times_l3_enc0 : List Int → List U := fun r => [.r r]
def ref01_Times_l3_dec0 : List U → Option (List Int) := fun u => match u with | [.r l5] => some (l5) | _ => none
def ref01_Times_l3 (K : Nat) : Nat → List Int → List Int → List Int → Int → Int → Option (List Int)
  | 0, _, _, _, _, _ => none
  | k + 1, l0, l1, l5, x16, x17 => (if (Decidable.decide (x17 < x16)) = true then
    ((ref01_Times_l7 K K l0 l1 l5 x17 0 x16 x17 (↑l1.length : Int) 0).bind fun r0 => (if (Decidable.decide (0 ≤ Go.IntKind.i64.wrap (r0.snd.snd.snd.fst + (↑r0.snd.fst.length : Int))) &&
  Decidable.decide
    (Go.IntKind.i64.wrap (r0.snd.snd.snd.fst + (↑r0.snd.fst.length : Int)) < (↑r0.snd.snd.fst.length : Int))) = true then
    (if (Decidable.decide (0 ≤ Go.IntKind.i64.wrap (r0.snd.snd.snd.fst + (↑r0.snd.fst.length : Int))) &&
  Decidable.decide
    (Go.IntKind.i64.wrap (r0.snd.snd.snd.fst + (↑r0.snd.fst.length : Int)) < (↑r0.snd.snd.fst.length : Int))) = true then
    (ref01_Times_l3 K k (r0.fst) (r0.snd.fst) (r0.snd.snd.fst.set (Go.IntKind.i64.wrap (r0.snd.snd.snd.fst + (↑r0.snd.fst.length : Int))).toNat
  (Go.IntKind.u64.wrap
    (nth 0 r0.snd.snd.fst
        (Go.IntKind.i64.wrap (r0.snd.snd.snd.fst + (↑r0.snd.fst.length : Int))).toNat +
      r0.snd.snd.snd.snd.fst))) (r0.snd.snd.snd.snd.snd.fst) (Go.IntKind.i64.wrap (r0.snd.snd.snd.snd.snd.snd + 1)))
    else none)
    else none))
    else (some l5))
def ref01_Times_l3_w (K k : Nat) : List U → Option (List Int) := fun us => match us with | [.r l0, .r l1, .r l5, .i x16, .i x17] => ref01_Times_l3 K k l0 l1 l5 x16 x17 | _ => none
theorem ref01_Times_l3_eq (K k : Nat) (l0 : List Int) (l1 : List Int) (l5 : List Int) (x16 : Int) (x17 : Int) : (round1 Go.Proofs.Try.prog (env_ref01_Minus K) (ref01_Times_v7 K) (lp (bodyOf Go.Proofs.Try.f14) 0) ref01_Times_l3_pre (.exit 0) ref01_Times_l3_post0 ref01_Times_l3_dec0 (ref01_Times_l3_w K k) [.r l0, .r l1, .r l5, .i x16, .i x17]).den = ref01_Times_l3 K (k + 1) l0 l1 l5 x16 x17 := by kernel_rfl
def ref01_Times_l3_s (K : Nat) : Vm.LS := .one ref01_Times_l3_pre _ (.exit 0) ref01_Times_l3_post0 (ref01_Times_l3_w K K) ref01_Times_l3_enc0
theorem ref01_Times_l3_ok (K : Nat) : LoopOk Go.Proofs.Try.prog (lp (bodyOf Go.Proofs.Try.f14) 0) (ref01_Times_l3_s K) := loop_one hmix (env_ref01_Minus_ok K) (lenv := ref01_Times_v7 K) (L := ref01_Times_l3_w K) (enc := ref01_Times_l3_enc0) (dec := ref01_Times_l3_dec0) (lps_ok (l := [lp (lp (bodyOf Go.Proofs.Try.f14) 0) 0]) (by kernel_rfl) ⟨⟨7, ref01_Times_l7_s K, by kernel_rfl, by kernel_rfl, ref01_Times_l7_ok K⟩, trivial⟩) (fun u r h => by unfold ref01_Times_l3_dec0 at h; split at h; (obtain rfl := Option.some.inj h; rfl); cases h) (fun us => by unfold ref01_Times_l3_w; split <;> first | rfl | (simp only [ref01_Times_l3])) (fun k us r h => by unfold ref01_Times_l3_w at h; split at h; exact (ref01_Times_l3_eq K k _ _ _ _ _).trans h; cases h) K
def ref01_Times_v3 (K : Nat) : Nat → Option Vm.LS := addL (ref01_Times_v7 K) 3 (ref01_Times_l3_s K)
def ref01_Times_dec : List U → Option (List Int) := fun u => match u with | [.r l0] => some (l0) | _ => none
def ref01_Times_enc : (List Int) → List U := fun r => [.r r]
def ref01_Times (K : Nat) (l0 : List Int) (l1 : List Int) : Option (List Int) := (if (Decidable.decide (0 ≤ Go.IntKind.i64.wrap ((↑l0.length : Int) + (↑l1.length : Int))) &&
    Decidable.decide
      (Go.IntKind.i64.wrap ((↑l0.length : Int) + (↑l1.length : Int)) ≤
        Go.IntKind.i64.wrap ((↑l0.length : Int) + (↑l1.length : Int))) &&
  Decidable.decide (Go.IntKind.i64.wrap ((↑l0.length : Int) + (↑l1.length : Int)) ≤ 17592186044416)) = true then
    ((ref01_Times_l3 K K l0 l1
  (List.replicate (Go.IntKind.i64.wrap ((↑l0.length : Int) + (↑l1.length : Int))).toNat 0) (↑l0.length : Int) 0).bind fun r0 => ((ref01_Norm K r0).bind fun r1 => (some r1)))
    else none)
theorem ref01_Times_eq (K : Nat) (l0 : List Int) (l1 : List Int) : (runF Go.Proofs.Try.prog (env_ref01_Minus K) (ref01_Times_v3 K) Go.Proofs.Try.f14 [.one (.row .u64 false), .one (.row .u64 false)] [.one (.row .u64 false)] ref01_Times_dec [.r l0, .r l1]).den = ref01_Times K l0 l1 := by kernel_rfl
def ref01_Times_w (K : Nat) : List U → Option (List Int) := fun us => match us with | [.r l0, .r l1] => ref01_Times K l0 l1 | _ => none
def ref01_Times_spec (K : Nat) : Vm.Spec := ⟨[.one (.row .u64 false), .one (.row .u64 false)], [.one (.row .u64 false)], List Int, ref01_Times_w K, ref01_Times_enc⟩
theorem ref01_Times_ok (K : Nat) : FnOk Go.Proofs.Try.prog 14 (ref01_Times_spec K) := fn_ok' hmix (env_ref01_Minus_ok K) (lenv := ref01_Times_v3 K) (args := [.one (.row .u64 false), .one (.row .u64 false)]) (res := [.one (.row .u64 false)]) (G := ref01_Times_w K) (enc := ref01_Times_enc) Go.Proofs.Try.func14 (lps_fn (l := [lp (bodyOf Go.Proofs.Try.f14) 0]) (by kernel_rfl) ⟨⟨3, ref01_Times_l3_s K, by kernel_rfl, by kernel_rfl, ref01_Times_l3_ok K⟩, trivial⟩) (dec := ref01_Times_dec) (fun u r h => by unfold ref01_Times_dec at h; split at h; (obtain rfl := Option.some.inj h; rfl); cases h) (fun us r h => by unfold ref01_Times_w at h; split at h; exact (ref01_Times_eq K _ _).trans h; cases h)
def env_ref01_Times (K : Nat) : FuncId → Option Vm.Spec := addS (env_ref01_Minus K) 14 (ref01_Times_spec K)
theorem env_ref01_Times_ok (K : Nat) : EnvOk Go.Proofs.Try.prog (env_ref01_Times K) := addS_ok (env_ref01_Minus_ok K) (.inl ⟨callable Go.Proofs.Try.func14 (by kernel_rfl) (by kernel_rfl), ref01_Times_ok K⟩)
-- passbook/passbookref01.Left
def ref01_Left_l4_pre : Vm.Pat := ⟨37, [(1, .pv (.one (.int .i64))), (5, .pv (.one (.row .u64 true))), (6, .pv (.one (.int .u64))), (12, .pv (.one (.row .u64 false))), (13, .pv (.one (.int .i64))), (14, .pv (.one (.int .i64)))], [], []⟩
def ref01_Left_l4_post0 : Vm.Pat := ⟨37, [(5, .pv (.one (.row .u64 true))), (6, .pv (.one (.int .u64)))], [], []⟩
def ref01_Left_l4_enc0 : List Int × Int → List U := fun r => [.r r.1, .i r.2]
def ref01_Left_l4_dec0 : List U → Option (List Int × Int) := fun u => match u with | [.r l5, .i x6] => some (l5, x6) | _ => none
def ref01_Left_l4 (K : Nat) : Nat → Int → List Int → Int → List Int → Int → Int → Option (List Int × Int)
  | 0, _, _, _, _, _, _ => none
  | k + 1, x1, l5, x6, l12, x13, x14 => (if (Decidable.decide (x14 < x13)) = true then
    (if (Decidable.decide (0 ≤ x14) && Decidable.decide (x14 < (↑l12.length : Int))) = true then
    (if (Decidable.decide (x1.tmod 32 < 0)) = true then
    none
    else (if (Decidable.decide (l5.length + 1 ≤ 17592186044416)) = true then
    (ref01_Left_l4 K k (x1) (l5 ++
  [(Go.IntKind.u64.wrap
          (Go.IntKind.u64.wrap (nth 0 l12 x14.toNat * 2 ^ Min.min (x1.tmod 32).toNat 64) +
            x6)).tmod
      4294967296]) (Go.IntKind.u64.wrap
  ((Go.IntKind.u64.wrap
        (Go.IntKind.u64.wrap (nth 0 l12 x14.toNat * 2 ^ Min.min (x1.tmod 32).toNat 64) +
          x6)).tdiv
    4294967296)) (l12) (x13) (Go.IntKind.i64.wrap (x14 + 1)))
    else none))
    else none)
    else (some ((l5, x6))))
def ref01_Left_l4_w (K k : Nat) : List U → Option (List Int × Int) := fun us => match us with | [.i x1, .r l5, .i x6, .r l12, .i x13, .i x14] => ref01_Left_l4 K k x1 l5 x6 l12 x13 x14 | _ => none
theorem ref01_Left_l4_eq (K k : Nat) (x1 : Int) (l5 : List Int) (x6 : Int) (l12 : List Int) (x13 : Int) (x14 : Int) : (round1 Go.Proofs.Try.prog (env_ref01_Times K) (lenv0) (lp (bodyOf Go.Proofs.Try.f41) 0) ref01_Left_l4_pre (.exit 0) ref01_Left_l4_post0 ref01_Left_l4_dec0 (ref01_Left_l4_w K k) [.i x1, .r l5, .i x6, .r l12, .i x13, .i x14]).den = ref01_Left_l4 K (k + 1) x1 l5 x6 l12 x13 x14 := by kernel_rfl
def ref01_Left_l4_s (K : Nat) : Vm.LS := .one ref01_Left_l4_pre _ (.exit 0) ref01_Left_l4_post0 (ref01_Left_l4_w K K) ref01_Left_l4_enc0
theorem ref01_Left_l4_ok (K : Nat) : LoopOk Go.Proofs.Try.prog (lp (bodyOf Go.Proofs.Try.f41) 0) (ref01_Left_l4_s K) := loop_one hmix (env_ref01_Times_ok K) (lenv := lenv0) (L := ref01_Left_l4_w K) (enc := ref01_Left_l4_enc0) (dec := ref01_Left_l4_dec0) (lps_ok (l := []) (by kernel_rfl) trivial) (fun u r h => by unfold ref01_Left_l4_dec0 at h; split at h; (obtain rfl := Option.some.inj h; rfl); cases h) (fun us => by unfold ref01_Left_l4_w; split <;> first | rfl | (simp only [ref01_Left_l4])) (fun k us r h => by unfold ref01_Left_l4_w at h; split at h; exact (ref01_Left_l4_eq K k _ _ _ _ _ _).trans h; cases h) K
def ref01_Left_v4 (K : Nat) : Nat → Option Vm.LS := addL (lenv0) 4 (ref01_Left_l4_s K)
def ref01_Left_dec : List U → Option (List Int) := fun u => match u with | [.r l0] => some (l0) | _ => none
def ref01_Left_enc : (List Int) → List U := fun r => [.r r]
def ref01_Left (K : Nat) (l0 : List Int) (x1 : Int) : Option (List Int) := (if (Decidable.decide (0 ≤ Go.IntKind.i64.wrap (x1.tdiv 32)) &&
    Decidable.decide (Go.IntKind.i64.wrap (x1.tdiv 32) ≤ Go.IntKind.i64.wrap (x1.tdiv 32)) &&
  Decidable.decide (Go.IntKind.i64.wrap (x1.tdiv 32) ≤ 17592186044416)) = true then
    ((ref01_Left_l4 K K x1 (List.replicate (Go.IntKind.i64.wrap (x1.tdiv 32)).toNat 0) 0 l0
  (↑l0.length : Int) 0).bind fun r0 => (if (Decidable.decide (r0.fst.length + 1 ≤ 17592186044416)) = true then
    ((ref01_Norm K (r0.fst ++ [r0.snd])).bind fun r1 => (some r1))
    else none))
    else none)
theorem ref01_Left_eq (K : Nat) (l0 : List Int) (x1 : Int) : (runF Go.Proofs.Try.prog (env_ref01_Times K) (ref01_Left_v4 K) Go.Proofs.Try.f41 [.one (.row .u64 false), .one (.int .i64)] [.one (.row .u64 false)] ref01_Left_dec [.r l0, .i x1]).den = ref01_Left K l0 x1 := by kernel_rfl
def ref01_Left_w (K : Nat) : List U → Option (List Int) := fun us => match us with | [.r l0, .i x1] => ref01_Left K l0 x1 | _ => none
def ref01_Left_spec (K : Nat) : Vm.Spec := ⟨[.one (.row .u64 false), .one (.int .i64)], [.one (.row .u64 false)], List Int, ref01_Left_w K, ref01_Left_enc⟩
theorem ref01_Left_ok (K : Nat) : FnOk Go.Proofs.Try.prog 41 (ref01_Left_spec K) := fn_ok' hmix (env_ref01_Times_ok K) (lenv := ref01_Left_v4 K) (args := [.one (.row .u64 false), .one (.int .i64)]) (res := [.one (.row .u64 false)]) (G := ref01_Left_w K) (enc := ref01_Left_enc) Go.Proofs.Try.func41 (lps_fn (l := [lp (bodyOf Go.Proofs.Try.f41) 0]) (by kernel_rfl) ⟨⟨4, ref01_Left_l4_s K, by kernel_rfl, by kernel_rfl, ref01_Left_l4_ok K⟩, trivial⟩) (dec := ref01_Left_dec) (fun u r h => by unfold ref01_Left_dec at h; split at h; (obtain rfl := Option.some.inj h; rfl); cases h) (fun us r h => by unfold ref01_Left_w at h; split at h; exact (ref01_Left_eq K _ _).trans h; cases h)
def env_ref01_Left (K : Nat) : FuncId → Option Vm.Spec := addS (env_ref01_Times K) 41 (ref01_Left_spec K)
theorem env_ref01_Left_ok (K : Nat) : EnvOk Go.Proofs.Try.prog (env_ref01_Left K) := addS_ok (env_ref01_Times_ok K) (.inl ⟨callable Go.Proofs.Try.func41 (by kernel_rfl) (by kernel_rfl), ref01_Left_ok K⟩)
-- passbook/passbookref01.Size
def ref01_Size_l5_pre : Vm.Pat := ⟨25, [(3, .pv (.one (.int .i64))), (4, .pv (.one (.int .u64)))], [], []⟩
def ref01_Size_l5_post0 : Vm.Pat := ⟨25, [(3, .pv (.one (.int .i64)))], [], []⟩
def ref01_Size_l5_enc0 : Int → List U := fun r => [.i r]
def ref01_Size_l5_dec0 : List U → Option (Int) := fun u => match u with | [.i x3] => some (x3) | _ => none
def ref01_Size_l5 (K : Nat) : Nat → Int → Int → Option (Int)
  | 0, _, _ => none
  | k + 1, x3, x4 => (if (Decidable.decide (x4 > 0)) = true then
    (ref01_Size_l5 K k (Go.IntKind.i64.wrap (x3 + 1)) (Go.IntKind.u64.wrap (x4.tdiv 2)))
    else (some x3))
def ref01_Size_l5_w (K k : Nat) : List U → Option (Int) := fun us => match us with | [.i x3, .i x4] => ref01_Size_l5 K k x3 x4 | _ => none
theorem ref01_Size_l5_eq (K k : Nat) (x3 : Int) (x4 : Int) : (round1 Go.Proofs.Try.prog (env_ref01_Left K) (lenv0) (lp (bodyOf Go.Proofs.Try.f40) 0) ref01_Size_l5_pre (.exit 0) ref01_Size_l5_post0 ref01_Size_l5_dec0 (ref01_Size_l5_w K k) [.i x3, .i x4]).den = ref01_Size_l5 K (k + 1) x3 x4 := by kernel_rfl
def ref01_Size_l5_s (K : Nat) : Vm.LS := .one ref01_Size_l5_pre _ (.exit 0) ref01_Size_l5_post0 (ref01_Size_l5_w K K) ref01_Size_l5_enc0
theorem ref01_Size_l5_ok (K : Nat) : LoopOk Go.Proofs.Try.prog (lp (bodyOf Go.Proofs.Try.f40) 0) (ref01_Size_l5_s K) := loop_one hmix (env_ref01_Left_ok K) (lenv := lenv0) (L := ref01_Size_l5_w K) (enc := ref01_Size_l5_enc0) (dec := ref01_Size_l5_dec0) (lps_ok (l := []) (by kernel_rfl) trivial) (fun u r h => by unfold ref01_Size_l5_dec0 at h; split at h; (obtain rfl := Option.some.inj h; rfl); cases h) (fun us => by unfold ref01_Size_l5_w; split <;> first | rfl | (simp only [ref01_Size_l5])) (fun k us r h => by unfold ref01_Size_l5_w at h; split at h; exact (ref01_Size_l5_eq K k _ _).trans h; cases h) K
def ref01_Size_v5 (K : Nat) : Nat → Option Vm.LS := addL (lenv0) 5 (ref01_Size_l5_s K)
def ref01_Size_dec : List U → Option (Int) := fun u => match u with | [.i x0] => some (x0) | _ => none
def ref01_Size_enc : (Int) → List U := fun r => [.i r]
def ref01_Size (K : Nat) (l0 : List Int) : Option (Int) := (if ((↑l0.length : Int) == 0) = true then
    (some (0))
    else (if (Decidable.decide (0 ≤ Go.IntKind.i64.wrap ((↑l0.length : Int) - 1)) &&
  Decidable.decide (Go.IntKind.i64.wrap ((↑l0.length : Int) - 1) < (↑l0.length : Int))) = true then
    ((ref01_Size_l5 K K (Go.IntKind.i64.wrap (32 * Go.IntKind.i64.wrap ((↑l0.length : Int) - 1)))
  (nth 0 l0 (Go.IntKind.i64.wrap ((↑l0.length : Int) - 1)).toNat)).bind fun r0 => (some r0))
    else none))
theorem ref01_Size_eq (K : Nat) (l0 : List Int) : (runF Go.Proofs.Try.prog (env_ref01_Left K) (ref01_Size_v5 K) Go.Proofs.Try.f40 [.one (.row .u64 false)] [.one (.int .i64)] ref01_Size_dec [.r l0]).den = ref01_Size K l0 := by kernel_rfl
def ref01_Size_w (K : Nat) : List U → Option (Int) := fun us => match us with | [.r l0] => ref01_Size K l0 | _ => none
def ref01_Size_spec (K : Nat) : Vm.Spec := ⟨[.one (.row .u64 false)], [.one (.int .i64)], Int, ref01_Size_w K, ref01_Size_enc⟩
theorem ref01_Size_ok (K : Nat) : FnOk Go.Proofs.Try.prog 40 (ref01_Size_spec K) := fn_ok' hmix (env_ref01_Left_ok K) (lenv := ref01_Size_v5 K) (args := [.one (.row .u64 false)]) (res := [.one (.int .i64)]) (G := ref01_Size_w K) (enc := ref01_Size_enc) Go.Proofs.Try.func40 (lps_fn (l := [lp (bodyOf Go.Proofs.Try.f40) 0]) (by kernel_rfl) ⟨⟨5, ref01_Size_l5_s K, by kernel_rfl, by kernel_rfl, ref01_Size_l5_ok K⟩, trivial⟩) (dec := ref01_Size_dec) (fun u r h => by unfold ref01_Size_dec at h; split at h; (obtain rfl := Option.some.inj h; rfl); cases h) (fun us r h => by unfold ref01_Size_w at h; split at h; exact (ref01_Size_eq K _).trans h; cases h)
def env_ref01_Size (K : Nat) : FuncId → Option Vm.Spec := addS (env_ref01_Left K) 40 (ref01_Size_spec K)
theorem env_ref01_Size_ok (K : Nat) : EnvOk Go.Proofs.Try.prog (env_ref01_Size K) := addS_ok (env_ref01_Left_ok K) (.inl ⟨callable Go.Proofs.Try.func40 (by kernel_rfl) (by kernel_rfl), ref01_Size_ok K⟩)
-- passbook/passbookref01.Quo
def ref01_Quo_l3_pre : Vm.Pat := ⟨36, [(0, .pv (.one (.row .u64 false))), (1, .pv (.one (.row .u64 false))), (6, .pv (.one (.row .u64 false))), (7, .pv (.one (.int .i64)))], [], []⟩
def ref01_Quo_l3_post0 : Vm.Pat := ⟨36, [(0, .pv (.one (.row .u64 false))), (6, .pv (.one (.row .u64 false)))], [], []⟩
def ref01_Quo_l3_enc0 : List Int × List Int → List U := fun r => [.r r.1, .r r.2]
def ref01_Quo_l3_dec0 : List U → Option (List Int × List Int) := fun u => match u with | [.r l0, .r l6] => some (l0, l6) | _ => none
def ref01_Quo_l3 (K : Nat) : Nat → List Int → List Int → List Int → Int → Option (List Int × List Int)
  | 0, _, _, _, _ => none
  | k + 1, l0, l1, l6, x7 => (if (Decidable.decide (x7 ≥ 0)) = true then
    ((ref01_Left K l1 x7).bind fun r0 => ((ref01_Compare K r0 l0).bind fun r1 => (if (Decidable.decide (r1 ≤ 0)) = true then
    ((ref01_Minus K l0 r0).bind fun r2 => ((ref01_Word K 1).bind fun r3 => ((ref01_Left K r3 x7).bind fun r4 => ((ref01_Plus K l6 r4).bind fun r5 => (ref01_Quo_l3 K k (r2) (l1) (r5) (Go.IntKind.i64.wrap (x7 - 1)))))))
    else (ref01_Quo_l3 K k (l0) (l1) (l6) (Go.IntKind.i64.wrap (x7 - 1))))))
    else (some ((l0, l6))))
def ref01_Quo_l3_w (K k : Nat) : List U → Option (List Int × List Int) := fun us => match us with | [.r l0, .r l1, .r l6, .i x7] => ref01_Quo_l3 K k l0 l1 l6 x7 | _ => none
theorem ref01_Quo_l3_eq (K k : Nat) (l0 : List Int) (l1 : List Int) (l6 : List Int) (x7 : Int) : (round1 Go.Proofs.Try.prog (env_ref01_Size K) (lenv0) (lp (bodyOf Go.Proofs.Try.f13) 0) ref01_Quo_l3_pre (.exit 0) ref01_Quo_l3_post0 ref01_Quo_l3_dec0 (ref01_Quo_l3_w K k) [.r l0, .r l1, .r l6, .i x7]).den = ref01_Quo_l3 K (k + 1) l0 l1 l6 x7 := by kernel_rfl
def ref01_Quo_l3_s (K : Nat) : Vm.LS := .one ref01_Quo_l3_pre _ (.exit 0) ref01_Quo_l3_post0 (ref01_Quo_l3_w K K) ref01_Quo_l3_enc0
theorem ref01_Quo_l3_ok (K : Nat) : LoopOk Go.Proofs.Try.prog (lp (bodyOf Go.Proofs.Try.f13) 0) (ref01_Quo_l3_s K) := loop_one hmix (env_ref01_Size_ok K) (lenv := lenv0) (L := ref01_Quo_l3_w K) (enc := ref01_Quo_l3_enc0) (dec := ref01_Quo_l3_dec0) (lps_ok (l := []) (by kernel_rfl) trivial) (fun u r h => by unfold ref01_Quo_l3_dec0 at h; split at h; (obtain rfl := Option.some.inj h; rfl); cases h) (fun us => by unfold ref01_Quo_l3_w; split <;> first | rfl | (simp only [ref01_Quo_l3])) (fun k us r h => by unfold ref01_Quo_l3_w at h; split at h; exact (ref01_Quo_l3_eq K k _ _ _ _).trans h; cases h) K
def ref01_Quo_v3 (K : Nat) : Nat → Option Vm.LS := addL (lenv0) 3 (ref01_Quo_l3_s K)
def ref01_Quo_dec : List U → Option (List Int × List Int) := fun u => match u with | [.r l0, .r l1] => some (l0, l1) | _ => none
def ref01_Quo_enc : (List Int × List Int) → List U := fun r => [.r r.1, .r r.2]
def ref01_Quo (K : Nat) (l0 : List Int) (l1 : List Int) : Option (List Int × List Int) := ((ref01_Size K l0).bind fun r0 => ((ref01_Size K l1).bind fun r1 => ((ref01_Quo_l3 K K l0 l1 [] (Go.IntKind.i64.wrap (r0 - r1))).bind fun r2 => ((ref01_Norm K r2.fst).bind fun r3 => (some ((r2.snd, r3)))))))
theorem ref01_Quo_eq (K : Nat) (l0 : List Int) (l1 : List Int) : (runF Go.Proofs.Try.prog (env_ref01_Size K) (ref01_Quo_v3 K) Go.Proofs.Try.f13 [.one (.row .u64 false), .one (.row .u64 false)] [.one (.row .u64 false), .one (.row .u64 false)] ref01_Quo_dec [.r l0, .r l1]).den = ref01_Quo K l0 l1 := by kernel_rfl
def ref01_Quo_w (K : Nat) : List U → Option (List Int × List Int) := fun us => match us with | [.r l0, .r l1] => ref01_Quo K l0 l1 | _ => none
def ref01_Quo_spec (K : Nat) : Vm.Spec := ⟨[.one (.row .u64 false), .one (.row .u64 false)], [.one (.row .u64 false), .one (.row .u64 false)], List Int × List Int, ref01_Quo_w K, ref01_Quo_enc⟩
theorem ref01_Quo_ok (K : Nat) : FnOk Go.Proofs.Try.prog 13 (ref01_Quo_spec K) := fn_ok' hmix (env_ref01_Size_ok K) (lenv := ref01_Quo_v3 K) (args := [.one (.row .u64 false), .one (.row .u64 false)]) (res := [.one (.row .u64 false), .one (.row .u64 false)]) (G := ref01_Quo_w K) (enc := ref01_Quo_enc) Go.Proofs.Try.func13 (lps_fn (l := [lp (bodyOf Go.Proofs.Try.f13) 0]) (by kernel_rfl) ⟨⟨3, ref01_Quo_l3_s K, by kernel_rfl, by kernel_rfl, ref01_Quo_l3_ok K⟩, trivial⟩) (dec := ref01_Quo_dec) (fun u r h => by unfold ref01_Quo_dec at h; split at h; (obtain rfl := Option.some.inj h; rfl); cases h) (fun us r h => by unfold ref01_Quo_w at h; split at h; exact (ref01_Quo_eq K _ _).trans h; cases h)
def env_ref01_Quo (K : Nat) : FuncId → Option Vm.Spec := addS (env_ref01_Size K) 13 (ref01_Quo_spec K)
theorem env_ref01_Quo_ok (K : Nat) : EnvOk Go.Proofs.Try.prog (env_ref01_Quo K) := addS_ok (env_ref01_Size_ok K) (.inl ⟨callable Go.Proofs.Try.func13 (by kernel_rfl) (by kernel_rfl), ref01_Quo_ok K⟩)
-- passbook/passbookref01.Ten
def ref01_Ten_l3_pre : Vm.Pat := ⟨13, [(3, .pv (.one (.row .u64 false))), (5, .pv (.one (.int .i64))), (6, .pv (.one (.int .i64)))], [], []⟩
def ref01_Ten_l3_post0 : Vm.Pat := ⟨13, [(3, .pv (.one (.row .u64 false)))], [], []⟩
def ref01_Ten_l3_enc0 : List Int → List U := fun r => [.r r]
def ref01_Ten_l3_dec0 : List U → Option (List Int) := fun u => match u with | [.r l3] => some (l3) | _ => none
def ref01_Ten_l3 (K : Nat) : Nat → List Int → Int → Int → Option (List Int)
  | 0, _, _, _ => none
  | k + 1, l3, x5, x6 => (if (Decidable.decide (x6 < x5)) = true then
    ((ref01_Word K 10).bind fun r0 => ((ref01_Times K l3 r0).bind fun r1 => (ref01_Ten_l3 K k (r1) (x5) (Go.IntKind.i64.wrap (x6 + 1)))))
    else (some l3))
def ref01_Ten_l3_w (K k : Nat) : List U → Option (List Int) := fun us => match us with | [.r l3, .i x5, .i x6] => ref01_Ten_l3 K k l3 x5 x6 | _ => none
theorem ref01_Ten_l3_eq (K k : Nat) (l3 : List Int) (x5 : Int) (x6 : Int) : (round1 Go.Proofs.Try.prog (env_ref01_Quo K) (lenv0) (lp (bodyOf Go.Proofs.Try.f58) 0) ref01_Ten_l3_pre (.exit 0) ref01_Ten_l3_post0 ref01_Ten_l3_dec0 (ref01_Ten_l3_w K k) [.r l3, .i x5, .i x6]).den = ref01_Ten_l3 K (k + 1) l3 x5 x6 := by kernel_rfl
def ref01_Ten_l3_s (K : Nat) : Vm.LS := .one ref01_Ten_l3_pre _ (.exit 0) ref01_Ten_l3_post0 (ref01_Ten_l3_w K K) ref01_Ten_l3_enc0
theorem ref01_Ten_l3_ok (K : Nat) : LoopOk Go.Proofs.Try.prog (lp (bodyOf Go.Proofs.Try.f58) 0) (ref01_Ten_l3_s K) := loop_one hmix (env_ref01_Quo_ok K) (lenv := lenv0) (L := ref01_Ten_l3_w K) (enc := ref01_Ten_l3_enc0) (dec := ref01_Ten_l3_dec0) (lps_ok (l := []) (by kernel_rfl) trivial) (fun u r h => by unfold ref01_Ten_l3_dec0 at h; split at h; (obtain rfl := Option.some.inj h; rfl); cases h) (fun us => by unfold ref01_Ten_l3_w; split <;> first | rfl | (simp only [ref01_Ten_l3])) (fun k us r h => by unfold ref01_Ten_l3_w at h; split at h; exact (ref01_Ten_l3_eq K k _ _ _).trans h; cases h) K
def ref01_Ten_v3 (K : Nat) : Nat → Option Vm.LS := addL (lenv0) 3 (ref01_Ten_l3_s K)
def ref01_Ten_dec : List U → Option (List Int) := fun u => match u with | [.r l0] => some (l0) | _ => none
def ref01_Ten_enc : (List Int) → List U := fun r => [.r r]
def ref01_Ten (K : Nat) (x0 : Int) : Option (List Int) := ((ref01_Word K 1).bind fun r0 => ((ref01_Ten_l3 K K r0 x0 0).bind fun r1 => (some r1)))
theorem ref01_Ten_eq (K : Nat) (x0 : Int) : (runF Go.Proofs.Try.prog (env_ref01_Quo K) (ref01_Ten_v3 K) Go.Proofs.Try.f58 [.one (.int .i64)] [.one (.row .u64 false)] ref01_Ten_dec [.i x0]).den = ref01_Ten K x0 := by kernel_rfl
def ref01_Ten_w (K : Nat) : List U → Option (List Int) := fun us => match us with | [.i x0] => ref01_Ten K x0 | _ => none
def ref01_Ten_spec (K : Nat) : Vm.Spec := ⟨[.one (.int .i64)], [.one (.row .u64 false)], List Int, ref01_Ten_w K, ref01_Ten_enc⟩
theorem ref01_Ten_ok (K : Nat) : FnOk Go.Proofs.Try.prog 58 (ref01_Ten_spec K) := fn_ok' hmix (env_ref01_Quo_ok K) (lenv := ref01_Ten_v3 K) (args := [.one (.int .i64)]) (res := [.one (.row .u64 false)]) (G := ref01_Ten_w K) (enc := ref01_Ten_enc) Go.Proofs.Try.func58 (lps_fn (l := [lp (bodyOf Go.Proofs.Try.f58) 0]) (by kernel_rfl) ⟨⟨3, ref01_Ten_l3_s K, by kernel_rfl, by kernel_rfl, ref01_Ten_l3_ok K⟩, trivial⟩) (dec := ref01_Ten_dec) (fun u r h => by unfold ref01_Ten_dec at h; split at h; (obtain rfl := Option.some.inj h; rfl); cases h) (fun us r h => by unfold ref01_Ten_w at h; split at h; exact (ref01_Ten_eq K _).trans h; cases h)
def env_ref01_Ten (K : Nat) : FuncId → Option Vm.Spec := addS (env_ref01_Quo K) 58 (ref01_Ten_spec K)
theorem env_ref01_Ten_ok (K : Nat) : EnvOk Go.Proofs.Try.prog (env_ref01_Ten K) := addS_ok (env_ref01_Quo_ok K) (.inl ⟨callable Go.Proofs.Try.func58 (by kernel_rfl) (by kernel_rfl), ref01_Ten_ok K⟩)
-- passbook/passbookref01.Made
def ref01_Made_dec : List U → Option (Bool × List Int) := fun u => match u with | [.b c0_0, .r l0_1] => some (c0_0, l0_1) | _ => none
def ref01_Made_enc : (Bool × List Int) → List U := fun r => [.b r.1, .r r.2]
def ref01_Made (K : Nat) (x0 : Int) : Option (Bool × List Int) := (if (Decidable.decide (x0 < 0)) = true then
    ((ref01_Word K (Go.IntKind.u64.wrap (0 - Go.IntKind.u64.wrap x0))).bind fun r0 => (some ((Bool.true, r0))))
    else ((ref01_Word K (Go.IntKind.u64.wrap x0)).bind fun r1 => (some ((Bool.false, r1)))))
theorem ref01_Made_eq (K : Nat) (x0 : Int) : (runF Go.Proofs.Try.prog (env_ref01_Ten K) (lenv0) Go.Proofs.Try.f37 [.one (.int .i64)] [.agg [.bool, .row .u64 false]] ref01_Made_dec [.i x0]).den = ref01_Made K x0 := by kernel_rfl
def ref01_Made_w (K : Nat) : List U → Option (Bool × List Int) := fun us => match us with | [.i x0] => ref01_Made K x0 | _ => none
def ref01_Made_spec (K : Nat) : Vm.Spec := ⟨[.one (.int .i64)], [.agg [.bool, .row .u64 false]], Bool × List Int, ref01_Made_w K, ref01_Made_enc⟩
theorem ref01_Made_ok (K : Nat) : FnOk Go.Proofs.Try.prog 37 (ref01_Made_spec K) := fn_ok' hmix (env_ref01_Ten_ok K) (lenv := lenv0) (args := [.one (.int .i64)]) (res := [.agg [.bool, .row .u64 false]]) (G := ref01_Made_w K) (enc := ref01_Made_enc) Go.Proofs.Try.func37 (lps_fn (l := []) (by kernel_rfl) trivial) (dec := ref01_Made_dec) (fun u r h => by unfold ref01_Made_dec at h; split at h; (obtain rfl := Option.some.inj h; rfl); cases h) (fun us r h => by unfold ref01_Made_w at h; split at h; exact (ref01_Made_eq K _).trans h; cases h)
def env_ref01_Made (K : Nat) : FuncId → Option Vm.Spec := addS (env_ref01_Ten K) 37 (ref01_Made_spec K)
theorem env_ref01_Made_ok (K : Nat) : EnvOk Go.Proofs.Try.prog (env_ref01_Made K) := addS_ok (env_ref01_Ten_ok K) (.inl ⟨callable Go.Proofs.Try.func37 (by kernel_rfl) (by kernel_rfl), ref01_Made_ok K⟩)
-- passbook/passbookref01.Sum
def ref01_Sum_dec : List U → Option (Bool × List Int) := fun u => match u with | [.b c0_0, .r l0_1] => some (c0_0, l0_1) | _ => none
def ref01_Sum_enc : (Bool × List Int) → List U := fun r => [.b r.1, .r r.2]
def ref01_Sum (K : Nat) (c0_0 : Bool) (l0_1 : List Int) (c1_0 : Bool) (l1_1 : List Int) : Option (Bool × List Int) := (if (c0_0 == c1_0) = true then
    ((ref01_Plus K l0_1 l1_1).bind fun r0 => (some ((c0_0, r0))))
    else ((ref01_Compare K l0_1 l1_1).bind fun r1 => (if (Decidable.decide (r1 ≥ 0)) = true then
    ((ref01_Minus K l0_1 l1_1).bind fun r2 => (some ((c0_0, r2))))
    else ((ref01_Minus K l1_1 l0_1).bind fun r3 => (some ((c1_0, r3)))))))
theorem ref01_Sum_eq (K : Nat) (c0_0 : Bool) (l0_1 : List Int) (c1_0 : Bool) (l1_1 : List Int) : (runF Go.Proofs.Try.prog (env_ref01_Made K) (lenv0) Go.Proofs.Try.f75 [.agg [.bool, .row .u64 false], .agg [.bool, .row .u64 false]] [.agg [.bool, .row .u64 false]] ref01_Sum_dec [.b c0_0, .r l0_1, .b c1_0, .r l1_1]).den = ref01_Sum K c0_0 l0_1 c1_0 l1_1 := by kernel_rfl
def ref01_Sum_w (K : Nat) : List U → Option (Bool × List Int) := fun us => match us with | [.b c0_0, .r l0_1, .b c1_0, .r l1_1] => ref01_Sum K c0_0 l0_1 c1_0 l1_1 | _ => none
def ref01_Sum_spec (K : Nat) : Vm.Spec := ⟨[.agg [.bool, .row .u64 false], .agg [.bool, .row .u64 false]], [.agg [.bool, .row .u64 false]], Bool × List Int, ref01_Sum_w K, ref01_Sum_enc⟩
theorem ref01_Sum_ok (K : Nat) : FnOk Go.Proofs.Try.prog 75 (ref01_Sum_spec K) := fn_ok' hmix (env_ref01_Made_ok K) (lenv := lenv0) (args := [.agg [.bool, .row .u64 false], .agg [.bool, .row .u64 false]]) (res := [.agg [.bool, .row .u64 false]]) (G := ref01_Sum_w K) (enc := ref01_Sum_enc) Go.Proofs.Try.func75 (lps_fn (l := []) (by kernel_rfl) trivial) (dec := ref01_Sum_dec) (fun u r h => by unfold ref01_Sum_dec at h; split at h; (obtain rfl := Option.some.inj h; rfl); cases h) (fun us r h => by unfold ref01_Sum_w at h; split at h; exact (ref01_Sum_eq K _ _ _ _).trans h; cases h)
def env_ref01_Sum (K : Nat) : FuncId → Option Vm.Spec := addS (env_ref01_Made K) 75 (ref01_Sum_spec K)
theorem env_ref01_Sum_ok (K : Nat) : EnvOk Go.Proofs.Try.prog (env_ref01_Sum K) := addS_ok (env_ref01_Made_ok K) (.inl ⟨callable Go.Proofs.Try.func75 (by kernel_rfl) (by kernel_rfl), ref01_Sum_ok K⟩)
-- passbook/passbookref01.Product
def ref01_Product_dec : List U → Option (Bool × List Int) := fun u => match u with | [.b c0_0, .r l0_1] => some (c0_0, l0_1) | _ => none
def ref01_Product_enc : (Bool × List Int) → List U := fun r => [.b r.1, .r r.2]
def ref01_Product (K : Nat) (c0_0 : Bool) (l0_1 : List Int) (c1_0 : Bool) (l1_1 : List Int) : Option (Bool × List Int) := ((ref01_Times K l0_1 l1_1).bind fun r0 => (some ((!c0_0 == c1_0, r0))))
theorem ref01_Product_eq (K : Nat) (c0_0 : Bool) (l0_1 : List Int) (c1_0 : Bool) (l1_1 : List Int) : (runF Go.Proofs.Try.prog (env_ref01_Sum K) (lenv0) Go.Proofs.Try.f56 [.agg [.bool, .row .u64 false], .agg [.bool, .row .u64 false]] [.agg [.bool, .row .u64 false]] ref01_Product_dec [.b c0_0, .r l0_1, .b c1_0, .r l1_1]).den = ref01_Product K c0_0 l0_1 c1_0 l1_1 := by kernel_rfl
def ref01_Product_w (K : Nat) : List U → Option (Bool × List Int) := fun us => match us with | [.b c0_0, .r l0_1, .b c1_0, .r l1_1] => ref01_Product K c0_0 l0_1 c1_0 l1_1 | _ => none
def ref01_Product_spec (K : Nat) : Vm.Spec := ⟨[.agg [.bool, .row .u64 false], .agg [.bool, .row .u64 false]], [.agg [.bool, .row .u64 false]], Bool × List Int, ref01_Product_w K, ref01_Product_enc⟩
theorem ref01_Product_ok (K : Nat) : FnOk Go.Proofs.Try.prog 56 (ref01_Product_spec K) := fn_ok' hmix (env_ref01_Sum_ok K) (lenv := lenv0) (args := [.agg [.bool, .row .u64 false], .agg [.bool, .row .u64 false]]) (res := [.agg [.bool, .row .u64 false]]) (G := ref01_Product_w K) (enc := ref01_Product_enc) Go.Proofs.Try.func56 (lps_fn (l := []) (by kernel_rfl) trivial) (dec := ref01_Product_dec) (fun u r h => by unfold ref01_Product_dec at h; split at h; (obtain rfl := Option.some.inj h; rfl); cases h) (fun us r h => by unfold ref01_Product_w at h; split at h; exact (ref01_Product_eq K _ _ _ _).trans h; cases h)
def env_ref01_Product (K : Nat) : FuncId → Option Vm.Spec := addS (env_ref01_Sum K) 56 (ref01_Product_spec K)
theorem env_ref01_Product_ok (K : Nat) : EnvOk Go.Proofs.Try.prog (env_ref01_Product K) := addS_ok (env_ref01_Sum_ok K) (.inl ⟨callable Go.Proofs.Try.func56 (by kernel_rfl) (by kernel_rfl), ref01_Product_ok K⟩)
-- passbook/passbookref01.Sign
def ref01_Sign_dec : List U → Option (Int) := fun u => match u with | [.i x0] => some (x0) | _ => none
def ref01_Sign_enc : (Int) → List U := fun r => [.i r]
def ref01_Sign (K : Nat) (c0_0 : Bool) (l0_1 : List Int) : Option (Int) := (if ((↑l0_1.length : Int) == 0) = true then
    (some (0))
    else (if (c0_0) = true then
    (some (-1))
    else (some (1))))
theorem ref01_Sign_eq (K : Nat) (c0_0 : Bool) (l0_1 : List Int) : (runF Go.Proofs.Try.prog (env_ref01_Product K) (lenv0) Go.Proofs.Try.f76 [.agg [.bool, .row .u64 false]] [.one (.int .i64)] ref01_Sign_dec [.b c0_0, .r l0_1]).den = ref01_Sign K c0_0 l0_1 := by kernel_rfl
def ref01_Sign_w (K : Nat) : List U → Option (Int) := fun us => match us with | [.b c0_0, .r l0_1] => ref01_Sign K c0_0 l0_1 | _ => none
def ref01_Sign_spec (K : Nat) : Vm.Spec := ⟨[.agg [.bool, .row .u64 false]], [.one (.int .i64)], Int, ref01_Sign_w K, ref01_Sign_enc⟩
theorem ref01_Sign_ok (K : Nat) : FnOk Go.Proofs.Try.prog 76 (ref01_Sign_spec K) := fn_ok' hmix (env_ref01_Product_ok K) (lenv := lenv0) (args := [.agg [.bool, .row .u64 false]]) (res := [.one (.int .i64)]) (G := ref01_Sign_w K) (enc := ref01_Sign_enc) Go.Proofs.Try.func76 (lps_fn (l := []) (by kernel_rfl) trivial) (dec := ref01_Sign_dec) (fun u r h => by unfold ref01_Sign_dec at h; split at h; (obtain rfl := Option.some.inj h; rfl); cases h) (fun us r h => by unfold ref01_Sign_w at h; split at h; exact (ref01_Sign_eq K _ _).trans h; cases h)
def env_ref01_Sign (K : Nat) : FuncId → Option Vm.Spec := addS (env_ref01_Product K) 76 (ref01_Sign_spec K)
theorem env_ref01_Sign_ok (K : Nat) : EnvOk Go.Proofs.Try.prog (env_ref01_Sign K) := addS_ok (env_ref01_Product_ok K) (.inl ⟨callable Go.Proofs.Try.func76 (by kernel_rfl) (by kernel_rfl), ref01_Sign_ok K⟩)
-- passbook/passbookref01.Small
def ref01_Small_dec : List U → Option (Int × Bool) := fun u => match u with | [.i x0, .b c1] => some (x0, c1) | _ => none
def ref01_Small_enc : (Int × Bool) → List U := fun r => [.i r.1, .b r.2]
def ref01_Small (K : Nat) (c0_0 : Bool) (l0_1 : List Int) : Option (Int × Bool) := ((ref01_Fits K l0_1).bind fun r0 => (if (!r0.snd) = true then
    (some ((0, Bool.false)))
    else (if (Decidable.decide (r0.fst > 9223372036854775808)) = true then
    (some ((0, Bool.false)))
    else (if (r0.fst == 9223372036854775808) = true then
    (if (!c0_0) = true then
    (some ((0, Bool.false)))
    else (if (c0_0) = true then
    (some ((Go.IntKind.i64.wrap (0 - Go.IntKind.i64.wrap r0.fst), Bool.true)))
    else (some ((Go.IntKind.i64.wrap r0.fst, Bool.true)))))
    else (if (c0_0) = true then
    (some ((Go.IntKind.i64.wrap (0 - Go.IntKind.i64.wrap r0.fst), Bool.true)))
    else (some ((Go.IntKind.i64.wrap r0.fst, Bool.true))))))))
theorem ref01_Small_eq (K : Nat) (c0_0 : Bool) (l0_1 : List Int) : (runF Go.Proofs.Try.prog (env_ref01_Sign K) (lenv0) Go.Proofs.Try.f59 [.agg [.bool, .row .u64 false]] [.one (.int .i64), .one (.bool)] ref01_Small_dec [.b c0_0, .r l0_1]).den = ref01_Small K c0_0 l0_1 := by kernel_rfl
def ref01_Small_w (K : Nat) : List U → Option (Int × Bool) := fun us => match us with | [.b c0_0, .r l0_1] => ref01_Small K c0_0 l0_1 | _ => none
def ref01_Small_spec (K : Nat) : Vm.Spec := ⟨[.agg [.bool, .row .u64 false]], [.one (.int .i64), .one (.bool)], Int × Bool, ref01_Small_w K, ref01_Small_enc⟩
theorem ref01_Small_ok (K : Nat) : FnOk Go.Proofs.Try.prog 59 (ref01_Small_spec K) := fn_ok' hmix (env_ref01_Sign_ok K) (lenv := lenv0) (args := [.agg [.bool, .row .u64 false]]) (res := [.one (.int .i64), .one (.bool)]) (G := ref01_Small_w K) (enc := ref01_Small_enc) Go.Proofs.Try.func59 (lps_fn (l := []) (by kernel_rfl) trivial) (dec := ref01_Small_dec) (fun u r h => by unfold ref01_Small_dec at h; split at h; (obtain rfl := Option.some.inj h; rfl); cases h) (fun us r h => by unfold ref01_Small_w at h; split at h; exact (ref01_Small_eq K _ _).trans h; cases h)
def env_ref01_Small (K : Nat) : FuncId → Option Vm.Spec := addS (env_ref01_Sign K) 59 (ref01_Small_spec K)
theorem env_ref01_Small_ok (K : Nat) : EnvOk Go.Proofs.Try.prog (env_ref01_Small K) := addS_ok (env_ref01_Sign_ok K) (.inl ⟨callable Go.Proofs.Try.func59 (by kernel_rfl) (by kernel_rfl), ref01_Small_ok K⟩)
-- passbook/passbookref01.Form
def ref01_Form_dec : List U → Option (Bool) := fun u => match u with | [.b c0] => some (c0) | _ => none
def ref01_Form_enc : (Bool) → List U := fun r => [.b r]
def ref01_Form (K : Nat) (x0_0 : Int) (x0_1 : Int) (x0_2 : Int) : Option (Bool) := (if (Decidable.decide (x0_2 ≥ 0)) = true then
    (if (Decidable.decide (x0_2 ≤ 18)) = true then
    (if (x0_0 == -9223372036854775808) = true then
    (some (!x0_1 == 0))
    else (some Bool.true))
    else (some Bool.false))
    else (some Bool.false))
theorem ref01_Form_eq (K : Nat) (x0_0 : Int) (x0_1 : Int) (x0_2 : Int) : (runF Go.Proofs.Try.prog (env_ref01_Small K) (lenv0) Go.Proofs.Try.f54 [.agg [.int .i64, .int .u64, .int .i64]] [.one (.bool)] ref01_Form_dec [.i x0_0, .i x0_1, .i x0_2]).den = ref01_Form K x0_0 x0_1 x0_2 := by kernel_rfl
def ref01_Form_w (K : Nat) : List U → Option (Bool) := fun us => match us with | [.i x0_0, .i x0_1, .i x0_2] => ref01_Form K x0_0 x0_1 x0_2 | _ => none
def ref01_Form_spec (K : Nat) : Vm.Spec := ⟨[.agg [.int .i64, .int .u64, .int .i64]], [.one (.bool)], Bool, ref01_Form_w K, ref01_Form_enc⟩
theorem ref01_Form_ok (K : Nat) : FnOk Go.Proofs.Try.prog 54 (ref01_Form_spec K) := fn_ok' hmix (env_ref01_Small_ok K) (lenv := lenv0) (args := [.agg [.int .i64, .int .u64, .int .i64]]) (res := [.one (.bool)]) (G := ref01_Form_w K) (enc := ref01_Form_enc) Go.Proofs.Try.func54 (lps_fn (l := []) (by kernel_rfl) trivial) (dec := ref01_Form_dec) (fun u r h => by unfold ref01_Form_dec at h; split at h; (obtain rfl := Option.some.inj h; rfl); cases h) (fun us r h => by unfold ref01_Form_w at h; split at h; exact (ref01_Form_eq K _ _ _).trans h; cases h)
def env_ref01_Form (K : Nat) : FuncId → Option Vm.Spec := addS (env_ref01_Small K) 54 (ref01_Form_spec K)
theorem env_ref01_Form_ok (K : Nat) : EnvOk Go.Proofs.Try.prog (env_ref01_Form K) := addS_ok (env_ref01_Small_ok K) (.inl ⟨callable Go.Proofs.Try.func54 (by kernel_rfl) (by kernel_rfl), ref01_Form_ok K⟩)
-- passbook/passbookref01.Coef
def ref01_Coef_dec : List U → Option (Bool × List Int) := fun u => match u with | [.b c0_0, .r l0_1] => some (c0_0, l0_1) | _ => none
def ref01_Coef_enc : (Bool × List Int) → List U := fun r => [.b r.1, .r r.2]
def ref01_Coef (K : Nat) (x0_0 : Int) (x0_1 : Int) (x0_2 : Int) : Option (Bool × List Int) := ((ref01_Made K x0_0).bind fun r0 => ((ref01_Left K r0.snd 64).bind fun r1 => ((ref01_Word K x0_1).bind fun r2 => ((ref01_Sum K r0.fst r1 Bool.false r2).bind fun r3 => (some ((r3.fst, r3.snd)))))))
theorem ref01_Coef_eq (K : Nat) (x0_0 : Int) (x0_1 : Int) (x0_2 : Int) : (runF Go.Proofs.Try.prog (env_ref01_Form K) (lenv0) Go.Proofs.Try.f57 [.agg [.int .i64, .int .u64, .int .i64]] [.agg [.bool, .row .u64 false]] ref01_Coef_dec [.i x0_0, .i x0_1, .i x0_2]).den = ref01_Coef K x0_0 x0_1 x0_2 := by kernel_rfl
def ref01_Coef_w (K : Nat) : List U → Option (Bool × List Int) := fun us => match us with | [.i x0_0, .i x0_1, .i x0_2] => ref01_Coef K x0_0 x0_1 x0_2 | _ => none
def ref01_Coef_spec (K : Nat) : Vm.Spec := ⟨[.agg [.int .i64, .int .u64, .int .i64]], [.agg [.bool, .row .u64 false]], Bool × List Int, ref01_Coef_w K, ref01_Coef_enc⟩
theorem ref01_Coef_ok (K : Nat) : FnOk Go.Proofs.Try.prog 57 (ref01_Coef_spec K) := fn_ok' hmix (env_ref01_Form_ok K) (lenv := lenv0) (args := [.agg [.int .i64, .int .u64, .int .i64]]) (res := [.agg [.bool, .row .u64 false]]) (G := ref01_Coef_w K) (enc := ref01_Coef_enc) Go.Proofs.Try.func57 (lps_fn (l := []) (by kernel_rfl) trivial) (dec := ref01_Coef_dec) (fun u r h => by unfold ref01_Coef_dec at h; split at h; (obtain rfl := Option.some.inj h; rfl); cases h) (fun us r h => by unfold ref01_Coef_w at h; split at h; exact (ref01_Coef_eq K _ _ _).trans h; cases h)
def env_ref01_Coef (K : Nat) : FuncId → Option Vm.Spec := addS (env_ref01_Form K) 57 (ref01_Coef_spec K)
theorem env_ref01_Coef_ok (K : Nat) : EnvOk Go.Proofs.Try.prog (env_ref01_Coef K) := addS_ok (env_ref01_Form_ok K) (.inl ⟨callable Go.Proofs.Try.func57 (by kernel_rfl) (by kernel_rfl), ref01_Coef_ok K⟩)
-- passbook/passbookref01.Dec
def ref01_Dec_l9_pre : Vm.Pat := ⟨54, [(1, .pv (.one (.int .i64))), (7, .pv (.one (.int .u64))), (8, .pv (.one (.int .u64))), (26, .pv (.one (.row .u64 false))), (27, .pv (.one (.int .i64))), (28, .pv (.one (.int .i64))), (4, .box 0 0)], [.cells [.int .i64, .int .u64, .int .i64]], []⟩
def ref01_Dec_l9_post0 : Vm.Pat := ⟨54, [(1, .pv (.one (.int .i64))), (7, .pv (.one (.int .u64))), (8, .pv (.one (.int .u64))), (4, .box 0 0)], [.cells [.int .i64, .int .u64, .int .i64]], []⟩
def ref01_Dec_l9_enc0 : Int × Int × Int × Int × Int × Int → List U := fun r => [.i r.1, .i r.2.1, .i r.2.2.1, .i r.2.2.2.1, .i r.2.2.2.2.1, .i r.2.2.2.2.2]
def ref01_Dec_l9_dec0 : List U → Option (Int × Int × Int × Int × Int × Int) := fun u => match u with | [.i x1, .i x7, .i x8, .i x4_0, .i x4_1, .i x4_2] => some (x1, x7, x8, x4_0, x4_1, x4_2) | _ => none
def ref01_Dec_l9 (K : Nat) : Nat → Int → Int → Int → List Int → Int → Int → Int → Int → Int → Option (Int × Int × Int × Int × Int × Int)
  | 0, _, _, _, _, _, _, _, _, _ => none
  | k + 1, x1, x7, x8, l26, x27, x28, x4_0, x4_1, x4_2 => (if (Decidable.decide (x28 < x27)) = true then
    (if (Decidable.decide (0 ≤ x28) && Decidable.decide (x28 < (↑l26.length : Int))) = true then
    (if (Decidable.decide (x28 < 2)) = true then
    (if (Decidable.decide (Go.IntKind.i64.wrap (32 * x28) < 0)) = true then
    none
    else (ref01_Dec_l9 K k (x1) (Go.IntKind.u64.wrap
  (x7 +
    Go.IntKind.u64.wrap
      (nth 0 l26 x28.toNat * 2 ^ Min.min (Go.IntKind.i64.wrap (32 * x28)).toNat 64))) (x8) (l26) (x27) (Go.IntKind.i64.wrap (x28 + 1)) (x4_0) (x4_1) (x4_2)))
    else (if (Decidable.decide (Go.IntKind.i64.wrap (32 * Go.IntKind.i64.wrap (x28 - 2)) < 0)) = true then
    none
    else (ref01_Dec_l9 K k (x1) (x7) (Go.IntKind.u64.wrap
  (x8 +
    Go.IntKind.u64.wrap
      (nth 0 l26 x28.toNat *
        2 ^ Min.min (Go.IntKind.i64.wrap (32 * Go.IntKind.i64.wrap (x28 - 2))).toNat 64))) (l26) (x27) (Go.IntKind.i64.wrap (x28 + 1)) (x4_0) (x4_1) (x4_2))))
    else none)
    else (some ((x1, x7, x8, x4_0, x4_1, x4_2))))
def ref01_Dec_l9_w (K k : Nat) : List U → Option (Int × Int × Int × Int × Int × Int) := fun us => match us with | [.i x1, .i x7, .i x8, .r l26, .i x27, .i x28, .i x4_0, .i x4_1, .i x4_2] => ref01_Dec_l9 K k x1 x7 x8 l26 x27 x28 x4_0 x4_1 x4_2 | _ => none
theorem ref01_Dec_l9_eq (K k : Nat) (x1 : Int) (x7 : Int) (x8 : Int) (l26 : List Int) (x27 : Int) (x28 : Int) (x4_0 : Int) (x4_1 : Int) (x4_2 : Int) : (round1 Go.Proofs.Try.prog (env_ref01_Coef K) (lenv0) (lp (bodyOf Go.Proofs.Try.f61) 0) ref01_Dec_l9_pre (.exit 0) ref01_Dec_l9_post0 ref01_Dec_l9_dec0 (ref01_Dec_l9_w K k) [.i x1, .i x7, .i x8, .r l26, .i x27, .i x28, .i x4_0, .i x4_1, .i x4_2]).den = ref01_Dec_l9 K (k + 1) x1 x7 x8 l26 x27 x28 x4_0 x4_1 x4_2 := by kernel_rfl
def ref01_Dec_l9_s (K : Nat) : Vm.LS := .one ref01_Dec_l9_pre _ (.exit 0) ref01_Dec_l9_post0 (ref01_Dec_l9_w K K) ref01_Dec_l9_enc0
theorem ref01_Dec_l9_ok (K : Nat) : LoopOk Go.Proofs.Try.prog (lp (bodyOf Go.Proofs.Try.f61) 0) (ref01_Dec_l9_s K) := loop_one hmix (env_ref01_Coef_ok K) (lenv := lenv0) (L := ref01_Dec_l9_w K) (enc := ref01_Dec_l9_enc0) (dec := ref01_Dec_l9_dec0) (lps_ok (l := []) (by kernel_rfl) trivial) (fun u r h => by unfold ref01_Dec_l9_dec0 at h; split at h; (obtain rfl := Option.some.inj h; rfl); cases h) (fun us => by unfold ref01_Dec_l9_w; split <;> first | rfl | (simp only [ref01_Dec_l9])) (fun k us r h => by unfold ref01_Dec_l9_w at h; split at h; exact (ref01_Dec_l9_eq K k _ _ _ _ _ _ _ _ _).trans h; cases h) K
def ref01_Dec_v9 (K : Nat) : Nat → Option Vm.LS := addL (lenv0) 9 (ref01_Dec_l9_s K)
def ref01_Dec_dec : List U → Option (Int × Int × Int × Int) := fun u => match u with | [.i x0_0, .i x0_1, .i x0_2, .i x1] => some (x0_0, x0_1, x0_2, x1) | _ => none
def ref01_Dec_enc : (Int × Int × Int × Int) → List U := fun r => [.i r.1, .i r.2.1, .i r.2.2.1, .i r.2.2.2]
def ref01_Dec (K : Nat) (c0_0 : Bool) (l0_1 : List Int) (x1 : Int) : Option (Int × Int × Int × Int) := ((ref01_Size K l0_1).bind fun r0 => (if (Decidable.decide (r0 > 127)) = true then
    (some ((0, 0, 0, 4)))
    else ((ref01_Sign K c0_0 l0_1).bind fun r1 => (if (Decidable.decide (r1 < 0)) = true then
    ((ref01_Word K 1).bind fun r2 => ((ref01_Left K r2 128).bind fun r3 => ((ref01_Sum K c0_0 l0_1 Bool.false r3).bind fun r4 => ((ref01_Dec_l9 K K x1 0 0 r4.snd (↑r4.snd.length : Int) 0 0 0 0).bind fun r5 => (some ((Go.IntKind.i64.wrap r5.snd.snd.fst, r5.snd.fst, r5.fst, 0)))))))
    else ((ref01_Dec_l9 K K x1 0 0 l0_1 (↑l0_1.length : Int) 0 0 0 0).bind fun r6 => (some ((Go.IntKind.i64.wrap r6.snd.snd.fst, r6.snd.fst, r6.fst, 0))))))))
theorem ref01_Dec_eq (K : Nat) (c0_0 : Bool) (l0_1 : List Int) (x1 : Int) : (runF Go.Proofs.Try.prog (env_ref01_Coef K) (ref01_Dec_v9 K) Go.Proofs.Try.f61 [.agg [.bool, .row .u64 false], .one (.int .i64)] [.agg [.int .i64, .int .u64, .int .i64], .one (.int .i64)] ref01_Dec_dec [.b c0_0, .r l0_1, .i x1]).den = ref01_Dec K c0_0 l0_1 x1 := by kernel_rfl
def ref01_Dec_w (K : Nat) : List U → Option (Int × Int × Int × Int) := fun us => match us with | [.b c0_0, .r l0_1, .i x1] => ref01_Dec K c0_0 l0_1 x1 | _ => none
def ref01_Dec_spec (K : Nat) : Vm.Spec := ⟨[.agg [.bool, .row .u64 false], .one (.int .i64)], [.agg [.int .i64, .int .u64, .int .i64], .one (.int .i64)], Int × Int × Int × Int, ref01_Dec_w K, ref01_Dec_enc⟩
theorem ref01_Dec_ok (K : Nat) : FnOk Go.Proofs.Try.prog 61 (ref01_Dec_spec K) := fn_ok' hmix (env_ref01_Coef_ok K) (lenv := ref01_Dec_v9 K) (args := [.agg [.bool, .row .u64 false], .one (.int .i64)]) (res := [.agg [.int .i64, .int .u64, .int .i64], .one (.int .i64)]) (G := ref01_Dec_w K) (enc := ref01_Dec_enc) Go.Proofs.Try.func61 (lps_fn (l := [lp (bodyOf Go.Proofs.Try.f61) 0]) (by kernel_rfl) ⟨⟨9, ref01_Dec_l9_s K, by kernel_rfl, by kernel_rfl, ref01_Dec_l9_ok K⟩, trivial⟩) (dec := ref01_Dec_dec) (fun u r h => by unfold ref01_Dec_dec at h; split at h; (obtain rfl := Option.some.inj h; rfl); cases h) (fun us r h => by unfold ref01_Dec_w at h; split at h; exact (ref01_Dec_eq K _ _ _).trans h; cases h)
def env_ref01_Dec (K : Nat) : FuncId → Option Vm.Spec := addS (env_ref01_Coef K) 61 (ref01_Dec_spec K)
theorem env_ref01_Dec_ok (K : Nat) : EnvOk Go.Proofs.Try.prog (env_ref01_Dec K) := addS_ok (env_ref01_Coef_ok K) (.inl ⟨callable Go.Proofs.Try.func61 (by kernel_rfl) (by kernel_rfl), ref01_Dec_ok K⟩)
-- passbook/passbookref01.Rounded
def ref01_Rounded_dec : List U → Option (Bool × List Int) := fun u => match u with | [.b c0_0, .r l0_1] => some (c0_0, l0_1) | _ => none
def ref01_Rounded_enc : (Bool × List Int) → List U := fun r => [.b r.1, .r r.2]
def ref01_Rounded (K : Nat) (c0_0 : Bool) (l0_1 : List Int) (l1 : List Int) (x2 : Int) : Option (Bool × List Int) := ((ref01_Quo K l0_1 l1).bind fun r0 => (if ((↑r0.snd.length : Int) == 0) = true then
    (some ((c0_0, r0.fst)))
    else ((ref01_Word K 1).bind fun r1 => ((ref01_Plus K r0.fst r1).bind fun r2 => ((ref01_Plus K r0.snd r0.snd).bind fun r3 => ((ref01_Compare K r3 l1).bind fun r4 => (if (Decidable.decide ((↑r0.fst.length : Int) > 0)) = true then
    (if (Bool.true && Decidable.decide (0 < (↑r0.fst.length : Int))) = true then
    (if (x2 == 1) = true then
    (some ((c0_0, r2)))
    else (if (x2 == 2) = true then
    (if (c0_0) = true then
    (some ((c0_0, r2)))
    else (some ((c0_0, r0.fst))))
    else (if (x2 == 3) = true then
    (if (!c0_0) = true then
    (some ((c0_0, r2)))
    else (some ((c0_0, r0.fst))))
    else (if (x2 == 4) = true then
    (if (Decidable.decide (r4 ≥ 0)) = true then
    (some ((c0_0, r2)))
    else (some ((c0_0, r0.fst))))
    else (if (x2 == 5) = true then
    (if (Decidable.decide (r4 > 0)) = true then
    (some ((c0_0, r2)))
    else (some ((c0_0, r0.fst))))
    else (if (x2 == 6) = true then
    (if (Decidable.decide (r4 > 0)) = true then
    (some ((c0_0, r2)))
    else (if (r4 == 0) = true then
    (if ((nth 0 r0.fst 0).tmod 2 == 1) = true then
    (some ((c0_0, r2)))
    else (some ((c0_0, r0.fst))))
    else (some ((c0_0, r0.fst)))))
    else (some ((c0_0, r0.fst)))))))))
    else none)
    else (if (x2 == 1) = true then
    (some ((c0_0, r2)))
    else (if (x2 == 2) = true then
    (if (c0_0) = true then
    (some ((c0_0, r2)))
    else (some ((c0_0, r0.fst))))
    else (if (x2 == 3) = true then
    (if (!c0_0) = true then
    (some ((c0_0, r2)))
    else (some ((c0_0, r0.fst))))
    else (if (x2 == 4) = true then
    (if (Decidable.decide (r4 ≥ 0)) = true then
    (some ((c0_0, r2)))
    else (some ((c0_0, r0.fst))))
    else (if (x2 == 5) = true then
    (if (Decidable.decide (r4 > 0)) = true then
    (some ((c0_0, r2)))
    else (some ((c0_0, r0.fst))))
    else (if (x2 == 6) = true then
    (if (Decidable.decide (r4 > 0)) = true then
    (some ((c0_0, r2)))
    else (if (r4 == 0) = true then
    (some ((c0_0, r0.fst)))
    else (some ((c0_0, r0.fst)))))
    else (some ((c0_0, r0.fst))))))))))))))))
theorem ref01_Rounded_eq (K : Nat) (c0_0 : Bool) (l0_1 : List Int) (l1 : List Int) (x2 : Int) : (runF Go.Proofs.Try.prog (env_ref01_Dec K) (lenv0) Go.Proofs.Try.f55 [.agg [.bool, .row .u64 false], .one (.row .u64 false), .one (.int .i64)] [.agg [.bool, .row .u64 false]] ref01_Rounded_dec [.b c0_0, .r l0_1, .r l1, .i x2]).den = ref01_Rounded K c0_0 l0_1 l1 x2 := by kernel_rfl
def ref01_Rounded_w (K : Nat) : List U → Option (Bool × List Int) := fun us => match us with | [.b c0_0, .r l0_1, .r l1, .i x2] => ref01_Rounded K c0_0 l0_1 l1 x2 | _ => none
def ref01_Rounded_spec (K : Nat) : Vm.Spec := ⟨[.agg [.bool, .row .u64 false], .one (.row .u64 false), .one (.int .i64)], [.agg [.bool, .row .u64 false]], Bool × List Int, ref01_Rounded_w K, ref01_Rounded_enc⟩
theorem ref01_Rounded_ok (K : Nat) : FnOk Go.Proofs.Try.prog 55 (ref01_Rounded_spec K) := fn_ok' hmix (env_ref01_Dec_ok K) (lenv := lenv0) (args := [.agg [.bool, .row .u64 false], .one (.row .u64 false), .one (.int .i64)]) (res := [.agg [.bool, .row .u64 false]]) (G := ref01_Rounded_w K) (enc := ref01_Rounded_enc) Go.Proofs.Try.func55 (lps_fn (l := []) (by kernel_rfl) trivial) (dec := ref01_Rounded_dec) (fun u r h => by unfold ref01_Rounded_dec at h; split at h; (obtain rfl := Option.some.inj h; rfl); cases h) (fun us r h => by unfold ref01_Rounded_w at h; split at h; exact (ref01_Rounded_eq K _ _ _ _).trans h; cases h)
def env_ref01_Rounded (K : Nat) : FuncId → Option Vm.Spec := addS (env_ref01_Dec K) 55 (ref01_Rounded_spec K)
theorem env_ref01_Rounded_ok (K : Nat) : EnvOk Go.Proofs.Try.prog (env_ref01_Rounded K) := addS_ok (env_ref01_Dec_ok K) (.inl ⟨callable Go.Proofs.Try.func55 (by kernel_rfl) (by kernel_rfl), ref01_Rounded_ok K⟩)
-- passbook/passbookref01.SameInts
def ref01_SameInts_l4_pre : Vm.Pat := ⟨26, [(0, .pv (.one (.row .i64 false))), (1, .pv (.one (.row .i64 false))), (12, .pv (.one (.int .i64))), (13, .pv (.one (.int .i64)))], [], []⟩
def ref01_SameInts_l4_post0 : Vm.Pat := ⟨26, [], [], []⟩
def ref01_SameInts_l4_enc0 : Unit → List U := fun _ => []
def ref01_SameInts_l4_dec0 : List U → Option (Unit) := fun u => match u with | [] => some () | _ => none
def ref01_SameInts_l4_post1 : Vm.Pat := ⟨26, [(4, .pv (.one (.bool)))], [], []⟩
def ref01_SameInts_l4_enc1 : Bool → List U := fun r => [.b r]
def ref01_SameInts_l4_dec1 : List U → Option (Bool) := fun u => match u with | [.b c4] => some (c4) | _ => none
def ref01_SameInts_l4 (K : Nat) : Nat → List Int → List Int → Int → Int → Option ((Unit) ⊕ (Bool))
  | 0, _, _, _, _ => none
  | k + 1, l0, l1, x12, x13 => (if (Decidable.decide (x13 < x12)) = true then
    (if (Decidable.decide (0 ≤ x13) && Decidable.decide (x13 < (↑l0.length : Int))) = true then
    (if (Decidable.decide (0 ≤ x13) && Decidable.decide (x13 < (↑l1.length : Int))) = true then
    (if (nth 0 l0 x13.toNat != nth 0 l1 x13.toNat) = true then
    (some (Sum.inr Bool.false))
    else (ref01_SameInts_l4 K k (l0) (l1) (x12) (Go.IntKind.i64.wrap (x13 + 1))))
    else none)
    else none)
    else (some (Sum.inl ())))
def ref01_SameInts_l4_w (K k : Nat) : List U → Option ((Unit) ⊕ (Bool)) := fun us => match us with | [.r l0, .r l1, .i x12, .i x13] => ref01_SameInts_l4 K k l0 l1 x12 x13 | _ => none
theorem ref01_SameInts_l4_eq (K k : Nat) (l0 : List Int) (l1 : List Int) (x12 : Int) (x13 : Int) : (round2 Go.Proofs.Try.prog (env_ref01_Rounded K) (lenv0) (lp (bodyOf Go.Proofs.Try.f12) 0) ref01_SameInts_l4_pre (.exit 0) ref01_SameInts_l4_post0 .ret ref01_SameInts_l4_post1 ref01_SameInts_l4_dec0 ref01_SameInts_l4_dec1 (ref01_SameInts_l4_w K k) [.r l0, .r l1, .i x12, .i x13]).den = ref01_SameInts_l4 K (k + 1) l0 l1 x12 x13 := by kernel_rfl
def ref01_SameInts_l4_s (K : Nat) : Vm.LS := .two ref01_SameInts_l4_pre _ _ (.exit 0) ref01_SameInts_l4_post0 .ret ref01_SameInts_l4_post1 (ref01_SameInts_l4_w K K) ref01_SameInts_l4_enc0 ref01_SameInts_l4_enc1
theorem ref01_SameInts_l4_ok (K : Nat) : LoopOk Go.Proofs.Try.prog (lp (bodyOf Go.Proofs.Try.f12) 0) (ref01_SameInts_l4_s K) := loop_two hmix (env_ref01_Rounded_ok K) (lenv := lenv0) (L := ref01_SameInts_l4_w K) (enc := ref01_SameInts_l4_enc0) (dec := ref01_SameInts_l4_dec0) (enc' := ref01_SameInts_l4_enc1) (dec' := ref01_SameInts_l4_dec1) (lps_ok (l := []) (by kernel_rfl) trivial) (fun u r h => by unfold ref01_SameInts_l4_dec0 at h; split at h; (obtain rfl := Option.some.inj h; rfl); cases h) (fun u r h => by unfold ref01_SameInts_l4_dec1 at h; split at h; (obtain rfl := Option.some.inj h; rfl); cases h) (fun us => by unfold ref01_SameInts_l4_w; split <;> first | rfl | (simp only [ref01_SameInts_l4])) (fun k us r h => by unfold ref01_SameInts_l4_w at h; split at h; exact (ref01_SameInts_l4_eq K k _ _ _ _).trans h; cases h) K
def ref01_SameInts_v4 (K : Nat) : Nat → Option Vm.LS := addL (lenv0) 4 (ref01_SameInts_l4_s K)
def ref01_SameInts_dec : List U → Option (Bool) := fun u => match u with | [.b c0] => some (c0) | _ => none
def ref01_SameInts_enc : (Bool) → List U := fun r => [.b r]
def ref01_SameInts (K : Nat) (l0 : List Int) (l1 : List Int) : Option (Bool) := (if ((↑l0.length : Int) != (↑l1.length : Int)) = true then
    (some Bool.false)
    else (casO (ref01_SameInts_l4 K K l0 l1 (↑l0.length : Int) 0) (fun r0 => (some Bool.true)) (fun r1 => (some r1))))
theorem ref01_SameInts_eq (K : Nat) (l0 : List Int) (l1 : List Int) : (runF Go.Proofs.Try.prog (env_ref01_Rounded K) (ref01_SameInts_v4 K) Go.Proofs.Try.f12 [.one (.row .i64 false), .one (.row .i64 false)] [.one (.bool)] ref01_SameInts_dec [.r l0, .r l1]).den = ref01_SameInts K l0 l1 := by kernel_rfl
def ref01_SameInts_w (K : Nat) : List U → Option (Bool) := fun us => match us with | [.r l0, .r l1] => ref01_SameInts K l0 l1 | _ => none
def ref01_SameInts_spec (K : Nat) : Vm.Spec := ⟨[.one (.row .i64 false), .one (.row .i64 false)], [.one (.bool)], Bool, ref01_SameInts_w K, ref01_SameInts_enc⟩
theorem ref01_SameInts_ok (K : Nat) : FnOk Go.Proofs.Try.prog 12 (ref01_SameInts_spec K) := fn_ok' hmix (env_ref01_Rounded_ok K) (lenv := ref01_SameInts_v4 K) (args := [.one (.row .i64 false), .one (.row .i64 false)]) (res := [.one (.bool)]) (G := ref01_SameInts_w K) (enc := ref01_SameInts_enc) Go.Proofs.Try.func12 (lps_fn (l := [lp (bodyOf Go.Proofs.Try.f12) 0]) (by kernel_rfl) ⟨⟨4, ref01_SameInts_l4_s K, by kernel_rfl, by kernel_rfl, ref01_SameInts_l4_ok K⟩, trivial⟩) (dec := ref01_SameInts_dec) (fun u r h => by unfold ref01_SameInts_dec at h; split at h; (obtain rfl := Option.some.inj h; rfl); cases h) (fun us r h => by unfold ref01_SameInts_w at h; split at h; exact (ref01_SameInts_eq K _ _).trans h; cases h)
def env_ref01_SameInts (K : Nat) : FuncId → Option Vm.Spec := addS (env_ref01_Rounded K) 12 (ref01_SameInts_spec K)
theorem env_ref01_SameInts_ok (K : Nat) : EnvOk Go.Proofs.Try.prog (env_ref01_SameInts K) := addS_ok (env_ref01_Rounded_ok K) (.inl ⟨callable Go.Proofs.Try.func12 (by kernel_rfl) (by kernel_rfl), ref01_SameInts_ok K⟩)
end Go.Proofs.Ytfeifhlnidkbbaa.F
