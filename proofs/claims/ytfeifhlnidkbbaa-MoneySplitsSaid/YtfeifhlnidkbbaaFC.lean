import Derived.Test.YtfeifhlnidkbbaaVmY
import Derived.Test.YtfeifhlnidkbbaaVmRc
import Derived.Test.YtfeifhlnidkbbaaProg
import Derived.Test.YtfeifhlnidkbbaaFB
namespace Go.Proofs.Ytfeifhlnidkbbaa.F
open Go Go.Proofs.Ytfeifhlnidkbbaa.Vm
set_option maxRecDepth 1000000
set_option linter.unusedVariables false
-- cmp.isNaN[uint64]
def cmp_isNaN_uint64__dec : List U → Option (Bool) := fun u => match u with | [.b c0] => some (c0) | _ => none
def cmp_isNaN_uint64__enc : (Bool) → List U := fun r => [.b r]
def cmp_isNaN_uint64_ (K : Nat) (x0 : Int) : Option (Bool) := (some (x0 != x0))
theorem cmp_isNaN_uint64__eq (K : Nat) (x0 : Int) : (runF Go.Proofs.Try.prog (env_ref01_SameInts K) (lenv0) Go.Proofs.Try.f65 [.one (.int .u64)] [.one (.bool)] cmp_isNaN_uint64__dec [.i x0]).den2 = cmp_isNaN_uint64_ K x0 := by kernel_rfl
def cmp_isNaN_uint64__w (K : Nat) : List U → Option (Bool) := fun us => match us with | [.i x0] => cmp_isNaN_uint64_ K x0 | _ => none
def cmp_isNaN_uint64__spec (K : Nat) : Vm.Spec := ⟨[.one (.int .u64)], [.one (.bool)], Bool, cmp_isNaN_uint64__w K, cmp_isNaN_uint64__enc⟩
theorem cmp_isNaN_uint64__ok (K : Nat) : FnOk Go.Proofs.Try.prog 65 (cmp_isNaN_uint64__spec K) := fn_ok' hmix (env_ref01_SameInts_ok K) (lenv := lenv0) (args := [.one (.int .u64)]) (res := [.one (.bool)]) (G := cmp_isNaN_uint64__w K) (enc := cmp_isNaN_uint64__enc) Go.Proofs.Try.func65 (lps_fn (l := []) (by kernel_rfl) trivial) (dec := cmp_isNaN_uint64__dec) (fun u r h => by unfold cmp_isNaN_uint64__dec at h; split at h; (obtain rfl := Option.some.inj h; rfl); cases h) (fun us r h => by unfold cmp_isNaN_uint64__w at h; split at h; exact ((den2_eq _).symm.trans (cmp_isNaN_uint64__eq K _)).trans h; cases h)
def env_cmp_isNaN_uint64_ (K : Nat) : FuncId → Option Vm.Spec := addS (env_ref01_SameInts K) 65 (cmp_isNaN_uint64__spec K)
theorem env_cmp_isNaN_uint64__ok (K : Nat) : EnvOk Go.Proofs.Try.prog (env_cmp_isNaN_uint64_ K) := addS_ok (env_ref01_SameInts_ok K) (.inl ⟨callable Go.Proofs.Try.func65 (by kernel_rfl) (by kernel_rfl), cmp_isNaN_uint64__ok K⟩)
-- cmp.isNaN[int64]
def cmp_isNaN_int64__dec : List U → Option (Bool) := fun u => match u with | [.b c0] => some (c0) | _ => none
def cmp_isNaN_int64__enc : (Bool) → List U := fun r => [.b r]
def cmp_isNaN_int64_ (K : Nat) (x0 : Int) : Option (Bool) := (some (x0 != x0))
theorem cmp_isNaN_int64__eq (K : Nat) (x0 : Int) : (runF Go.Proofs.Try.prog (env_cmp_isNaN_uint64_ K) (lenv0) Go.Proofs.Try.f66 [.one (.int .i64)] [.one (.bool)] cmp_isNaN_int64__dec [.i x0]).den2 = cmp_isNaN_int64_ K x0 := by kernel_rfl
def cmp_isNaN_int64__w (K : Nat) : List U → Option (Bool) := fun us => match us with | [.i x0] => cmp_isNaN_int64_ K x0 | _ => none
def cmp_isNaN_int64__spec (K : Nat) : Vm.Spec := ⟨[.one (.int .i64)], [.one (.bool)], Bool, cmp_isNaN_int64__w K, cmp_isNaN_int64__enc⟩
theorem cmp_isNaN_int64__ok (K : Nat) : FnOk Go.Proofs.Try.prog 66 (cmp_isNaN_int64__spec K) := fn_ok' hmix (env_cmp_isNaN_uint64__ok K) (lenv := lenv0) (args := [.one (.int .i64)]) (res := [.one (.bool)]) (G := cmp_isNaN_int64__w K) (enc := cmp_isNaN_int64__enc) Go.Proofs.Try.func66 (lps_fn (l := []) (by kernel_rfl) trivial) (dec := cmp_isNaN_int64__dec) (fun u r h => by unfold cmp_isNaN_int64__dec at h; split at h; (obtain rfl := Option.some.inj h; rfl); cases h) (fun us r h => by unfold cmp_isNaN_int64__w at h; split at h; exact ((den2_eq _).symm.trans (cmp_isNaN_int64__eq K _)).trans h; cases h)
def env_cmp_isNaN_int64_ (K : Nat) : FuncId → Option Vm.Spec := addS (env_cmp_isNaN_uint64_ K) 66 (cmp_isNaN_int64__spec K)
theorem env_cmp_isNaN_int64__ok (K : Nat) : EnvOk Go.Proofs.Try.prog (env_cmp_isNaN_int64_ K) := addS_ok (env_cmp_isNaN_uint64__ok K) (.inl ⟨callable Go.Proofs.Try.func66 (by kernel_rfl) (by kernel_rfl), cmp_isNaN_int64__ok K⟩)
-- cmp.Compare[uint64]
def cmp_Compare_uint64__dec : List U → Option (Int) := fun u => match u with | [.i x0] => some (x0) | _ => none
def cmp_Compare_uint64__enc : (Int) → List U := fun r => [.i r]
def cmp_Compare_uint64_ (K : Nat) (x0 : Int) (x1 : Int) : Option (Int) := ((cmp_isNaN_uint64_ K x0).bind fun r0 => ((cmp_isNaN_uint64_ K x1).bind fun r1 => (bi (r0)
    (bi (r1)
    (some (0))
    (some (-1)))
    (bi (r1)
    (some (1))
    (bi (Decidable.decide (x0 < x1))
    (some (-1))
    (bi (Decidable.decide (x0 > x1))
    (some (1))
    (some (0))))))))
theorem cmp_Compare_uint64__eq (K : Nat) (x0 : Int) (x1 : Int) : (runF Go.Proofs.Try.prog (env_cmp_isNaN_int64_ K) (lenv0) Go.Proofs.Try.f35 [.one (.int .u64), .one (.int .u64)] [.one (.int .i64)] cmp_Compare_uint64__dec [.i x0, .i x1]).den2 = cmp_Compare_uint64_ K x0 x1 := by kernel_rfl
def cmp_Compare_uint64__w (K : Nat) : List U → Option (Int) := fun us => match us with | [.i x0, .i x1] => cmp_Compare_uint64_ K x0 x1 | _ => none
def cmp_Compare_uint64__spec (K : Nat) : Vm.Spec := ⟨[.one (.int .u64), .one (.int .u64)], [.one (.int .i64)], Int, cmp_Compare_uint64__w K, cmp_Compare_uint64__enc⟩
theorem cmp_Compare_uint64__ok (K : Nat) : FnOk Go.Proofs.Try.prog 35 (cmp_Compare_uint64__spec K) := fn_ok' hmix (env_cmp_isNaN_int64__ok K) (lenv := lenv0) (args := [.one (.int .u64), .one (.int .u64)]) (res := [.one (.int .i64)]) (G := cmp_Compare_uint64__w K) (enc := cmp_Compare_uint64__enc) Go.Proofs.Try.func35 (lps_fn (l := []) (by kernel_rfl) trivial) (dec := cmp_Compare_uint64__dec) (fun u r h => by unfold cmp_Compare_uint64__dec at h; split at h; (obtain rfl := Option.some.inj h; rfl); cases h) (fun us r h => by unfold cmp_Compare_uint64__w at h; split at h; exact ((den2_eq _).symm.trans (cmp_Compare_uint64__eq K _ _)).trans h; cases h)
def env_cmp_Compare_uint64_ (K : Nat) : FuncId → Option Vm.Spec := addS (env_cmp_isNaN_int64_ K) 35 (cmp_Compare_uint64__spec K)
theorem env_cmp_Compare_uint64__ok (K : Nat) : EnvOk Go.Proofs.Try.prog (env_cmp_Compare_uint64_ K) := addS_ok (env_cmp_isNaN_int64__ok K) (.inl ⟨callable Go.Proofs.Try.func35 (by kernel_rfl) (by kernel_rfl), cmp_Compare_uint64__ok K⟩)
-- cmp.Compare[int64]
def cmp_Compare_int64__dec : List U → Option (Int) := fun u => match u with | [.i x0] => some (x0) | _ => none
def cmp_Compare_int64__enc : (Int) → List U := fun r => [.i r]
def cmp_Compare_int64_ (K : Nat) (x0 : Int) (x1 : Int) : Option (Int) := ((cmp_isNaN_int64_ K x0).bind fun r0 => ((cmp_isNaN_int64_ K x1).bind fun r1 => (bi (r0)
    (bi (r1)
    (some (0))
    (some (-1)))
    (bi (r1)
    (some (1))
    (bi (Decidable.decide (x0 < x1))
    (some (-1))
    (bi (Decidable.decide (x0 > x1))
    (some (1))
    (some (0))))))))
theorem cmp_Compare_int64__eq (K : Nat) (x0 : Int) (x1 : Int) : (runF Go.Proofs.Try.prog (env_cmp_Compare_uint64_ K) (lenv0) Go.Proofs.Try.f45 [.one (.int .i64), .one (.int .i64)] [.one (.int .i64)] cmp_Compare_int64__dec [.i x0, .i x1]).den2 = cmp_Compare_int64_ K x0 x1 := by kernel_rfl
def cmp_Compare_int64__w (K : Nat) : List U → Option (Int) := fun us => match us with | [.i x0, .i x1] => cmp_Compare_int64_ K x0 x1 | _ => none
def cmp_Compare_int64__spec (K : Nat) : Vm.Spec := ⟨[.one (.int .i64), .one (.int .i64)], [.one (.int .i64)], Int, cmp_Compare_int64__w K, cmp_Compare_int64__enc⟩
theorem cmp_Compare_int64__ok (K : Nat) : FnOk Go.Proofs.Try.prog 45 (cmp_Compare_int64__spec K) := fn_ok' hmix (env_cmp_Compare_uint64__ok K) (lenv := lenv0) (args := [.one (.int .i64), .one (.int .i64)]) (res := [.one (.int .i64)]) (G := cmp_Compare_int64__w K) (enc := cmp_Compare_int64__enc) Go.Proofs.Try.func45 (lps_fn (l := []) (by kernel_rfl) trivial) (dec := cmp_Compare_int64__dec) (fun u r h => by unfold cmp_Compare_int64__dec at h; split at h; (obtain rfl := Option.some.inj h; rfl); cases h) (fun us r h => by unfold cmp_Compare_int64__w at h; split at h; exact ((den2_eq _).symm.trans (cmp_Compare_int64__eq K _ _)).trans h; cases h)
def env_cmp_Compare_int64_ (K : Nat) : FuncId → Option Vm.Spec := addS (env_cmp_Compare_uint64_ K) 45 (cmp_Compare_int64__spec K)
theorem env_cmp_Compare_int64__ok (K : Nat) : EnvOk Go.Proofs.Try.prog (env_cmp_Compare_int64_ K) := addS_ok (env_cmp_Compare_uint64__ok K) (.inl ⟨callable Go.Proofs.Try.func45 (by kernel_rfl) (by kernel_rfl), cmp_Compare_int64__ok K⟩)
-- math/bits.LeadingZeros64
def bits_LeadingZeros64_dec : List U → Option (Int) := fun u => match u with | [.i x0] => some (x0) | _ => none
def bits_LeadingZeros64_enc : (Int) → List U := fun r => [.i r]
def bits_LeadingZeros64 (K : Nat) (x0 : Int) : Option (Int) := ((bits_Len64 K x0).bind fun r0 => (some (Go.IntKind.i64.wrap (64 - r0))))
theorem bits_LeadingZeros64_eq (K : Nat) (x0 : Int) : (runF Go.Proofs.Try.prog (env_cmp_Compare_int64_ K) (lenv0) Go.Proofs.Try.f63 [.one (.int .u64)] [.one (.int .i64)] bits_LeadingZeros64_dec [.i x0]).den2 = bits_LeadingZeros64 K x0 := by kernel_rfl
def bits_LeadingZeros64_w (K : Nat) : List U → Option (Int) := fun us => match us with | [.i x0] => bits_LeadingZeros64 K x0 | _ => none
def bits_LeadingZeros64_spec (K : Nat) : Vm.Spec := ⟨[.one (.int .u64)], [.one (.int .i64)], Int, bits_LeadingZeros64_w K, bits_LeadingZeros64_enc⟩
theorem bits_LeadingZeros64_ok (K : Nat) : FnOk Go.Proofs.Try.prog 63 (bits_LeadingZeros64_spec K) := fn_ok' hmix (env_cmp_Compare_int64__ok K) (lenv := lenv0) (args := [.one (.int .u64)]) (res := [.one (.int .i64)]) (G := bits_LeadingZeros64_w K) (enc := bits_LeadingZeros64_enc) Go.Proofs.Try.func63 (lps_fn (l := []) (by kernel_rfl) trivial) (dec := bits_LeadingZeros64_dec) (fun u r h => by unfold bits_LeadingZeros64_dec at h; split at h; (obtain rfl := Option.some.inj h; rfl); cases h) (fun us r h => by unfold bits_LeadingZeros64_w at h; split at h; exact ((den2_eq _).symm.trans (bits_LeadingZeros64_eq K _)).trans h; cases h)
def env_bits_LeadingZeros64 (K : Nat) : FuncId → Option Vm.Spec := addS (env_cmp_Compare_int64_ K) 63 (bits_LeadingZeros64_spec K)
theorem env_bits_LeadingZeros64_ok (K : Nat) : EnvOk Go.Proofs.Try.prog (env_bits_LeadingZeros64 K) := addS_ok (env_cmp_Compare_int64__ok K) (.inl ⟨callable Go.Proofs.Try.func63 (by kernel_rfl) (by kernel_rfl), bits_LeadingZeros64_ok K⟩)
-- math/bits.Div64
def bits_Div64_l24_pre : Vm.Pat := ⟨135, [(2, .pv (.one (.int .u64))), (8, .pv (.one (.int .u64))), (9, .pv (.one (.int .u64))), (10, .pv (.one (.int .u64))), (14, .pv (.one (.int .u64))), (15, .pv (.one (.int .u64))), (16, .pv (.one (.int .u64))), (17, .pv (.one (.int .u64))), (18, .pv (.one (.int .u64)))], [], []⟩
def bits_Div64_l24_post0 : Vm.Pat := ⟨135, [(2, .pv (.one (.int .u64))), (8, .pv (.one (.int .u64))), (14, .pv (.one (.int .u64))), (15, .pv (.one (.int .u64))), (17, .pv (.one (.int .u64))), (18, .pv (.one (.int .u64)))], [], []⟩
def bits_Div64_l24_enc0 : Int × Int × Int × Int × Int × Int → List U := fun r => [.i r.1, .i r.2.1, .i r.2.2.1, .i r.2.2.2.1, .i r.2.2.2.2.1, .i r.2.2.2.2.2]
def bits_Div64_l24_dec0 : List U → Option (Int × Int × Int × Int × Int × Int) := fun u => match u with | [.i x2, .i x8, .i x14, .i x15, .i x17, .i x18] => some (x2, x8, x14, x15, x17, x18) | _ => none
def bits_Div64_l24 (K : Nat) : Nat → Int → Int → Int → Int → Int → Int → Int → Int → Int → Option (Int × Int × Int × Int × Int × Int)
  | 0, _, _, _, _, _, _, _, _, _ => none
  | k + 1, x2, x8, x9, x10, x14, x15, x16, x17, x18 => (bi (Decidable.decide (x18 ≥ 4294967296))
    (bi (Decidable.decide (Go.IntKind.u64.wrap (x16 + x9) ≥ 4294967296))
    (some ((x2, x8, x14, x15, x17, Go.IntKind.u64.wrap (x18 - 1))))
    (bits_Div64_l24 K k (x2) (x8) (x9) (x10) (x14) (x15) (Go.IntKind.u64.wrap (x16 + x9)) (x17) (Go.IntKind.u64.wrap (x18 - 1))))
    (bi (Decidable.decide (Go.IntKind.u64.wrap (x18 * x10) > Go.IntKind.u64.wrap (Go.IntKind.u64.wrap (4294967296 * x16) + x14)))
    (bi (Decidable.decide (Go.IntKind.u64.wrap (x16 + x9) ≥ 4294967296))
    (some ((x2, x8, x14, x15, x17, Go.IntKind.u64.wrap (x18 - 1))))
    (bits_Div64_l24 K k (x2) (x8) (x9) (x10) (x14) (x15) (Go.IntKind.u64.wrap (x16 + x9)) (x17) (Go.IntKind.u64.wrap (x18 - 1))))
    (some ((x2, x8, x14, x15, x17, x18)))))
def bits_Div64_l24_w (K k : Nat) : List U → Option (Int × Int × Int × Int × Int × Int) := fun us => match us with | [.i x2, .i x8, .i x9, .i x10, .i x14, .i x15, .i x16, .i x17, .i x18] => bits_Div64_l24 K k x2 x8 x9 x10 x14 x15 x16 x17 x18 | _ => none
theorem bits_Div64_l24_eq (K k : Nat) (x2 : Int) (x8 : Int) (x9 : Int) (x10 : Int) (x14 : Int) (x15 : Int) (x16 : Int) (x17 : Int) (x18 : Int) : (round1 Go.Proofs.Try.prog (env_bits_LeadingZeros64 K) (lenv0) (lp (bodyOf Go.Proofs.Try.f32) 1) bits_Div64_l24_pre (.exit 2) bits_Div64_l24_post0 bits_Div64_l24_dec0 (bits_Div64_l24_w K k) [.i x2, .i x8, .i x9, .i x10, .i x14, .i x15, .i x16, .i x17, .i x18]).den2 = bits_Div64_l24 K (k + 1) x2 x8 x9 x10 x14 x15 x16 x17 x18 := by kernel_rfl
def bits_Div64_l24_s (K : Nat) : Vm.LS := .one bits_Div64_l24_pre _ (.exit 2) bits_Div64_l24_post0 (bits_Div64_l24_w K K) bits_Div64_l24_enc0
theorem bits_Div64_l24_ok (K : Nat) : LoopOk Go.Proofs.Try.prog (lp (bodyOf Go.Proofs.Try.f32) 1) (bits_Div64_l24_s K) := loop_one hmix (env_bits_LeadingZeros64_ok K) (lenv := lenv0) (L := bits_Div64_l24_w K) (enc := bits_Div64_l24_enc0) (dec := bits_Div64_l24_dec0) (lps_ok (l := []) (by kernel_rfl) trivial) (fun u r h => by unfold bits_Div64_l24_dec0 at h; split at h; (obtain rfl := Option.some.inj h; rfl); cases h) (fun us => by unfold bits_Div64_l24_w; split <;> first | rfl | (simp only [bits_Div64_l24])) (fun k us r h => by unfold bits_Div64_l24_w at h; split at h; exact ((den2_eq _).symm.trans (bits_Div64_l24_eq K k _ _ _ _ _ _ _ _ _)).trans h; cases h) K
def bits_Div64_v24 (K : Nat) : Nat → Option Vm.LS := addL (lenv0) 24 (bits_Div64_l24_s K)
def bits_Div64_l17_pre : Vm.Pat := ⟨135, [(2, .pv (.one (.int .u64))), (8, .pv (.one (.int .u64))), (9, .pv (.one (.int .u64))), (10, .pv (.one (.int .u64))), (11, .pv (.one (.int .u64))), (13, .pv (.one (.int .u64))), (14, .pv (.one (.int .u64))), (15, .pv (.one (.int .u64))), (16, .pv (.one (.int .u64)))], [], []⟩
def bits_Div64_l17_post0 : Vm.Pat := ⟨135, [(2, .pv (.one (.int .u64))), (8, .pv (.one (.int .u64))), (9, .pv (.one (.int .u64))), (10, .pv (.one (.int .u64))), (11, .pv (.one (.int .u64))), (13, .pv (.one (.int .u64))), (14, .pv (.one (.int .u64))), (15, .pv (.one (.int .u64)))], [], []⟩
def bits_Div64_l17_enc0 : Int × Int × Int × Int × Int × Int × Int × Int → List U := fun r => [.i r.1, .i r.2.1, .i r.2.2.1, .i r.2.2.2.1, .i r.2.2.2.2.1, .i r.2.2.2.2.2.1, .i r.2.2.2.2.2.2.1, .i r.2.2.2.2.2.2.2]
def bits_Div64_l17_dec0 : List U → Option (Int × Int × Int × Int × Int × Int × Int × Int) := fun u => match u with | [.i x2, .i x8, .i x9, .i x10, .i x11, .i x13, .i x14, .i x15] => some (x2, x8, x9, x10, x11, x13, x14, x15) | _ => none
def bits_Div64_l17 (K : Nat) : Nat → Int → Int → Int → Int → Int → Int → Int → Int → Int → Option (Int × Int × Int × Int × Int × Int × Int × Int)
  | 0, _, _, _, _, _, _, _, _, _ => none
  | k + 1, x2, x8, x9, x10, x11, x13, x14, x15, x16 => (bi (Decidable.decide (x15 ≥ 4294967296))
    (bi (Decidable.decide (Go.IntKind.u64.wrap (x16 + x9) ≥ 4294967296))
    (some ((x2, x8, x9, x10, x11, x13, x14, Go.IntKind.u64.wrap (x15 - 1))))
    (bits_Div64_l17 K k (x2) (x8) (x9) (x10) (x11) (x13) (x14) (Go.IntKind.u64.wrap (x15 - 1)) (Go.IntKind.u64.wrap (x16 + x9))))
    (bi (Decidable.decide (Go.IntKind.u64.wrap (x15 * x10) > Go.IntKind.u64.wrap (Go.IntKind.u64.wrap (4294967296 * x16) + x13)))
    (bi (Decidable.decide (Go.IntKind.u64.wrap (x16 + x9) ≥ 4294967296))
    (some ((x2, x8, x9, x10, x11, x13, x14, Go.IntKind.u64.wrap (x15 - 1))))
    (bits_Div64_l17 K k (x2) (x8) (x9) (x10) (x11) (x13) (x14) (Go.IntKind.u64.wrap (x15 - 1)) (Go.IntKind.u64.wrap (x16 + x9))))
    (some ((x2, x8, x9, x10, x11, x13, x14, x15)))))
def bits_Div64_l17_w (K k : Nat) : List U → Option (Int × Int × Int × Int × Int × Int × Int × Int) := fun us => match us with | [.i x2, .i x8, .i x9, .i x10, .i x11, .i x13, .i x14, .i x15, .i x16] => bits_Div64_l17 K k x2 x8 x9 x10 x11 x13 x14 x15 x16 | _ => none
theorem bits_Div64_l17_eq (K k : Nat) (x2 : Int) (x8 : Int) (x9 : Int) (x10 : Int) (x11 : Int) (x13 : Int) (x14 : Int) (x15 : Int) (x16 : Int) : (round1 Go.Proofs.Try.prog (env_bits_LeadingZeros64 K) (bits_Div64_v24 K) (lp (bodyOf Go.Proofs.Try.f32) 0) bits_Div64_l17_pre (.exit 0) bits_Div64_l17_post0 bits_Div64_l17_dec0 (bits_Div64_l17_w K k) [.i x2, .i x8, .i x9, .i x10, .i x11, .i x13, .i x14, .i x15, .i x16]).den2 = bits_Div64_l17 K (k + 1) x2 x8 x9 x10 x11 x13 x14 x15 x16 := by kernel_rfl
def bits_Div64_l17_s (K : Nat) : Vm.LS := .one bits_Div64_l17_pre _ (.exit 0) bits_Div64_l17_post0 (bits_Div64_l17_w K K) bits_Div64_l17_enc0
theorem bits_Div64_l17_ok (K : Nat) : LoopOk Go.Proofs.Try.prog (lp (bodyOf Go.Proofs.Try.f32) 0) (bits_Div64_l17_s K) := loop_one hmix (env_bits_LeadingZeros64_ok K) (lenv := bits_Div64_v24 K) (L := bits_Div64_l17_w K) (enc := bits_Div64_l17_enc0) (dec := bits_Div64_l17_dec0) (lps_ok (l := []) (by kernel_rfl) trivial) (fun u r h => by unfold bits_Div64_l17_dec0 at h; split at h; (obtain rfl := Option.some.inj h; rfl); cases h) (fun us => by unfold bits_Div64_l17_w; split <;> first | rfl | (simp only [bits_Div64_l17])) (fun k us r h => by unfold bits_Div64_l17_w at h; split at h; exact ((den2_eq _).symm.trans (bits_Div64_l17_eq K k _ _ _ _ _ _ _ _ _)).trans h; cases h) K
def bits_Div64_v17 (K : Nat) : Nat → Option Vm.LS := addL (bits_Div64_v24 K) 17 (bits_Div64_l17_s K)
def bits_Div64_dec : List U → Option (Int × Int) := fun u => match u with | [.i x0, .i x1] => some (x0, x1) | _ => none
def bits_Div64_enc : (Int × Int) → List U := fun r => [.i r.1, .i r.2]
def bits_Div64 (K : Nat) (x0 : Int) (x1 : Int) (x2 : Int) : Option (Int × Int) := (bi (x2 == 0)
    none
    (bi (Decidable.decide (x2 ≤ x0))
    none
    (bi (x0 == 0)
    (bi (Decidable.decide (x2 = 0))
    none
    (bi (Decidable.decide (x2 = 0))
    none
    (some ((Go.IntKind.u64.wrap (x1.tdiv x2), x1.tmod x2)))))
    ((bits_LeadingZeros64 K x2).bind fun r0 => (bi (Decidable.decide (Go.IntKind.u64.wrap r0 < 0))
    none
    (bi (Decidable.decide (Go.IntKind.u64.wrap r0 < 0))
    none
    (bi (Decidable.decide (Go.IntKind.u64.wrap (64 - Go.IntKind.u64.wrap r0) < 0))
    none
    (bi (Decidable.decide (Go.IntKind.u64.wrap r0 < 0))
    none
    (bi (Decidable.decide ((Go.IntKind.u64.wrap (x2 * 2 ^ Min.min (Go.IntKind.u64.wrap r0).toNat 64)).fdiv 4294967296 = 0))
    none
    ((bits_Div64_l17 K K
  (Go.IntKind.u64.wrap (x2 * 2 ^ Min.min (Go.IntKind.u64.wrap r0).toNat 64)) (Go.IntKind.u64.wrap r0)
  ((Go.IntKind.u64.wrap (x2 * 2 ^ Min.min (Go.IntKind.u64.wrap r0).toNat 64)).fdiv 4294967296)
  (land Go.IntKind.u64
    (Go.IntKind.u64.wrap (x2 * 2 ^ Min.min (Go.IntKind.u64.wrap r0).toNat 64)) 4294967295)
  (lor Go.IntKind.u64
    (Go.IntKind.u64.wrap (x0 * 2 ^ Min.min (Go.IntKind.u64.wrap r0).toNat 64))
    (x1.fdiv (2 ^ Min.min (Go.IntKind.u64.wrap (64 - Go.IntKind.u64.wrap r0)).toNat 64)))
  ((Go.IntKind.u64.wrap (x1 * 2 ^ Min.min (Go.IntKind.u64.wrap r0).toNat 64)).fdiv 4294967296)
  (land Go.IntKind.u64
    (Go.IntKind.u64.wrap (x1 * 2 ^ Min.min (Go.IntKind.u64.wrap r0).toNat 64)) 4294967295)
  (Go.IntKind.u64.wrap
    ((lor Go.IntKind.u64
          (Go.IntKind.u64.wrap (x0 * 2 ^ Min.min (Go.IntKind.u64.wrap r0).toNat 64))
          (x1.fdiv (2 ^ Min.min (Go.IntKind.u64.wrap (64 - Go.IntKind.u64.wrap r0)).toNat 64))).tdiv
      ((Go.IntKind.u64.wrap (x2 * 2 ^ Min.min (Go.IntKind.u64.wrap r0).toNat 64)).fdiv 4294967296)))
  (Go.IntKind.u64.wrap
    (lor Go.IntKind.u64
        (Go.IntKind.u64.wrap (x0 * 2 ^ Min.min (Go.IntKind.u64.wrap r0).toNat 64))
        (x1.fdiv (2 ^ Min.min (Go.IntKind.u64.wrap (64 - Go.IntKind.u64.wrap r0)).toNat 64)) -
      Go.IntKind.u64.wrap
        (Go.IntKind.u64.wrap
            ((lor Go.IntKind.u64
                  (Go.IntKind.u64.wrap (x0 * 2 ^ Min.min (Go.IntKind.u64.wrap r0).toNat 64))
                  (x1.fdiv (2 ^ Min.min (Go.IntKind.u64.wrap (64 - Go.IntKind.u64.wrap r0)).toNat 64))).tdiv
              ((Go.IntKind.u64.wrap (x2 * 2 ^ Min.min (Go.IntKind.u64.wrap r0).toNat 64)).fdiv 4294967296)) *
          (Go.IntKind.u64.wrap (x2 * 2 ^ Min.min (Go.IntKind.u64.wrap r0).toNat 64)).fdiv 4294967296)))).bind fun r1 => (bi (Decidable.decide (r1.snd.snd.fst = 0))
    none
    ((bits_Div64_l24 K K r1.fst r1.snd.fst r1.snd.snd.fst r1.snd.snd.snd.fst
  r1.snd.snd.snd.snd.snd.snd.fst r1.snd.snd.snd.snd.snd.snd.snd
  (Go.IntKind.u64.wrap
    (Go.IntKind.u64.wrap
        (Go.IntKind.u64.wrap (Go.IntKind.u64.wrap (r1.snd.snd.snd.snd.fst * 4294967296) + r1.snd.snd.snd.snd.snd.fst) -
          Go.IntKind.u64.wrap (r1.snd.snd.snd.snd.snd.snd.snd * r1.fst)) -
      Go.IntKind.u64.wrap
        (Go.IntKind.u64.wrap
            ((Go.IntKind.u64.wrap
                  (Go.IntKind.u64.wrap
                      (Go.IntKind.u64.wrap (r1.snd.snd.snd.snd.fst * 4294967296) + r1.snd.snd.snd.snd.snd.fst) -
                    Go.IntKind.u64.wrap (r1.snd.snd.snd.snd.snd.snd.snd * r1.fst))).tdiv
              r1.snd.snd.fst) *
          r1.snd.snd.fst)))
  (Go.IntKind.u64.wrap
    (Go.IntKind.u64.wrap (Go.IntKind.u64.wrap (r1.snd.snd.snd.snd.fst * 4294967296) + r1.snd.snd.snd.snd.snd.fst) -
      Go.IntKind.u64.wrap (r1.snd.snd.snd.snd.snd.snd.snd * r1.fst)))
  (Go.IntKind.u64.wrap
    ((Go.IntKind.u64.wrap
          (Go.IntKind.u64.wrap
              (Go.IntKind.u64.wrap (r1.snd.snd.snd.snd.fst * 4294967296) + r1.snd.snd.snd.snd.snd.fst) -
            Go.IntKind.u64.wrap (r1.snd.snd.snd.snd.snd.snd.snd * r1.fst))).tdiv
      r1.snd.snd.fst))).bind fun r2 => (bi (Decidable.decide (r2.snd.fst < 0))
    none
    (some ((Go.IntKind.u64.wrap (Go.IntKind.u64.wrap (r2.snd.snd.snd.fst * 4294967296) + r2.snd.snd.snd.snd.snd),
  (Go.IntKind.u64.wrap
        (Go.IntKind.u64.wrap (Go.IntKind.u64.wrap (r2.snd.snd.snd.snd.fst * 4294967296) + r2.snd.snd.fst) -
          Go.IntKind.u64.wrap (r2.snd.snd.snd.snd.snd * r2.fst))).fdiv
    (2 ^ Min.min r2.snd.fst.toNat 64)))))))))))))))))
theorem bits_Div64_eq (K : Nat) (x0 : Int) (x1 : Int) (x2 : Int) : (runF Go.Proofs.Try.prog (env_bits_LeadingZeros64 K) (bits_Div64_v17 K) Go.Proofs.Try.f32 [.one (.int .u64), .one (.int .u64), .one (.int .u64)] [.one (.int .u64), .one (.int .u64)] bits_Div64_dec [.i x0, .i x1, .i x2]).den2 = bits_Div64 K x0 x1 x2 := by kernel_rfl
def bits_Div64_w (K : Nat) : List U → Option (Int × Int) := fun us => match us with | [.i x0, .i x1, .i x2] => bits_Div64 K x0 x1 x2 | _ => none
def bits_Div64_spec (K : Nat) : Vm.Spec := ⟨[.one (.int .u64), .one (.int .u64), .one (.int .u64)], [.one (.int .u64), .one (.int .u64)], Int × Int, bits_Div64_w K, bits_Div64_enc⟩
theorem bits_Div64_ok (K : Nat) : FnOk Go.Proofs.Try.prog 32 (bits_Div64_spec K) := fn_ok' hmix (env_bits_LeadingZeros64_ok K) (lenv := bits_Div64_v17 K) (args := [.one (.int .u64), .one (.int .u64), .one (.int .u64)]) (res := [.one (.int .u64), .one (.int .u64)]) (G := bits_Div64_w K) (enc := bits_Div64_enc) Go.Proofs.Try.func32 (lps_fn (l := [lp (bodyOf Go.Proofs.Try.f32) 0, lp (bodyOf Go.Proofs.Try.f32) 1]) (by kernel_rfl) ⟨⟨17, bits_Div64_l17_s K, by kernel_rfl, by kernel_rfl, bits_Div64_l17_ok K⟩, ⟨⟨24, bits_Div64_l24_s K, by kernel_rfl, by kernel_rfl, bits_Div64_l24_ok K⟩, trivial⟩⟩) (dec := bits_Div64_dec) (fun u r h => by unfold bits_Div64_dec at h; split at h; (obtain rfl := Option.some.inj h; rfl); cases h) (fun us r h => by unfold bits_Div64_w at h; split at h; exact ((den2_eq _).symm.trans (bits_Div64_eq K _ _ _)).trans h; cases h)
def env_bits_Div64 (K : Nat) : FuncId → Option Vm.Spec := addS (env_bits_LeadingZeros64 K) 32 (bits_Div64_spec K)
theorem env_bits_Div64_ok (K : Nat) : EnvOk Go.Proofs.Try.prog (env_bits_Div64 K) := addS_ok (env_bits_LeadingZeros64_ok K) (.inl ⟨callable Go.Proofs.Try.func32 (by kernel_rfl) (by kernel_rfl), bits_Div64_ok K⟩)
-- passbook/digits.size
def digits_size_dec : List U → Option (Int × Int) := fun u => match u with | [.i x0, .i x1] => some (x0, x1) | _ => none
def digits_size_enc : (Int × Int) → List U := fun r => [.i r.1, .i r.2]
def digits_size (K : Nat) (x0_0 : Int) (x0_1 : Int) (x0_2 : Int) : Option (Int × Int) := (bi (Decidable.decide (x0_0 ≥ 0))
    (some ((Go.IntKind.u64.wrap x0_0, x0_1)))
    (bi (Go.IntKind.u64.wrap (0 - x0_1) == 0)
    (some ((Go.IntKind.u64.wrap
    (lxor Go.IntKind.u64 18446744073709551615 (Go.IntKind.u64.wrap x0_0) + 1),
  Go.IntKind.u64.wrap (0 - x0_1))))
    (some ((lxor Go.IntKind.u64 18446744073709551615 (Go.IntKind.u64.wrap x0_0),
  Go.IntKind.u64.wrap (0 - x0_1))))))
theorem digits_size_eq (K : Nat) (x0_0 : Int) (x0_1 : Int) (x0_2 : Int) : (runF Go.Proofs.Try.prog (env_bits_Div64 K) (lenv0) Go.Proofs.Try.f77 [.agg [.int .i64, .int .u64, .int .i64]] [.one (.int .u64), .one (.int .u64)] digits_size_dec [.i x0_0, .i x0_1, .i x0_2]).den2 = digits_size K x0_0 x0_1 x0_2 := by kernel_rfl
def digits_size_w (K : Nat) : List U → Option (Int × Int) := fun us => match us with | [.i x0_0, .i x0_1, .i x0_2] => digits_size K x0_0 x0_1 x0_2 | _ => none
def digits_size_spec (K : Nat) : Vm.Spec := ⟨[.agg [.int .i64, .int .u64, .int .i64]], [.one (.int .u64), .one (.int .u64)], Int × Int, digits_size_w K, digits_size_enc⟩
theorem digits_size_ok (K : Nat) : FnOk Go.Proofs.Try.prog 77 (digits_size_spec K) := fn_ok' hmix (env_bits_Div64_ok K) (lenv := lenv0) (args := [.agg [.int .i64, .int .u64, .int .i64]]) (res := [.one (.int .u64), .one (.int .u64)]) (G := digits_size_w K) (enc := digits_size_enc) Go.Proofs.Try.func77 (lps_fn (l := []) (by kernel_rfl) trivial) (dec := digits_size_dec) (fun u r h => by unfold digits_size_dec at h; split at h; (obtain rfl := Option.some.inj h; rfl); cases h) (fun us r h => by unfold digits_size_w at h; split at h; exact ((den2_eq _).symm.trans (digits_size_eq K _ _ _)).trans h; cases h)
def env_digits_size (K : Nat) : FuncId → Option Vm.Spec := addS (env_bits_Div64 K) 77 (digits_size_spec K)
theorem env_digits_size_ok (K : Nat) : EnvOk Go.Proofs.Try.prog (env_digits_size K) := addS_ok (env_bits_Div64_ok K) (.inl ⟨callable Go.Proofs.Try.func77 (by kernel_rfl) (by kernel_rfl), digits_size_ok K⟩)
-- passbook/digits.Write
def digits_Write_l18_pre : Vm.Pat := ⟨95, [(7, .pv (.one (.row .u8 true))), (10, .pv (.one (.int .i64))), (11, .pv (.one (.int .i64)))], [], []⟩
def digits_Write_l18_post0 : Vm.Pat := ⟨95, [(7, .pv (.one (.row .u8 true)))], [], []⟩
def digits_Write_l18_enc0 : List Int → List U := fun r => [.r r]
def digits_Write_l18_dec0 : List U → Option (List Int) := fun u => match u with | [.r l7] => some (l7) | _ => none
def digits_Write_l18 (K : Nat) : Nat → List Int → Int → Int → Option (List Int)
  | 0, _, _, _ => none
  | k + 1, l7, x10, x11 => (bi (Decidable.decide (x10 < x11))
    (bi (Decidable.decide (0 ≤ x11) && Decidable.decide (x11 < (↑l7.length : Int)))
    (bi (Decidable.decide (0 ≤ x10) && Decidable.decide (x10 < (↑l7.length : Int)))
    (bi (Decidable.decide (0 ≤ x10) && Decidable.decide (x10 < (↑l7.length : Int)))
    (bi (Decidable.decide (0 ≤ x11) &&
  Decidable.decide (x11 < (↑(l7.set x10.toNat (nth 0 l7 x11.toNat)).length : Int)))
    (digits_Write_l18 K k ((l7.set x10.toNat (nth 0 l7 x11.toNat)).set x11.toNat
  (nth 0 l7 x10.toNat)) (Go.IntKind.i64.wrap (x10 + 1)) (Go.IntKind.i64.wrap (x11 - 1)))
    none)
    none)
    none)
    none)
    (some l7))
def digits_Write_l18_w (K k : Nat) : List U → Option (List Int) := fun us => match us with | [.r l7, .i x10, .i x11] => digits_Write_l18 K k l7 x10 x11 | _ => none
theorem digits_Write_l18_eq (K k : Nat) (l7 : List Int) (x10 : Int) (x11 : Int) : (round1 Go.Proofs.Try.prog (env_digits_size K) (lenv0) (lp (bodyOf Go.Proofs.Try.f62) 1) digits_Write_l18_pre (.exit 2) digits_Write_l18_post0 digits_Write_l18_dec0 (digits_Write_l18_w K k) [.r l7, .i x10, .i x11]).den2 = digits_Write_l18 K (k + 1) l7 x10 x11 := by kernel_rfl
def digits_Write_l18_s (K : Nat) : Vm.LS := .one digits_Write_l18_pre _ (.exit 2) digits_Write_l18_post0 (digits_Write_l18_w K K) digits_Write_l18_enc0
theorem digits_Write_l18_ok (K : Nat) : LoopOk Go.Proofs.Try.prog (lp (bodyOf Go.Proofs.Try.f62) 1) (digits_Write_l18_s K) := loop_one hmix (env_digits_size_ok K) (lenv := lenv0) (L := digits_Write_l18_w K) (enc := digits_Write_l18_enc0) (dec := digits_Write_l18_dec0) (lps_ok (l := []) (by kernel_rfl) trivial) (fun u r h => by unfold digits_Write_l18_dec0 at h; split at h; (obtain rfl := Option.some.inj h; rfl); cases h) (fun us => by unfold digits_Write_l18_w; split <;> first | rfl | (simp only [digits_Write_l18])) (fun k us r h => by unfold digits_Write_l18_w at h; split at h; exact ((den2_eq _).symm.trans (digits_Write_l18_eq K k _ _ _)).trans h; cases h) K
def digits_Write_v18 (K : Nat) : Nat → Option Vm.LS := addL (lenv0) 18 (digits_Write_l18_s K)
def digits_Write_l7_pre : Vm.Pat := ⟨95, [(5, .pv (.one (.int .u64))), (6, .pv (.one (.int .u64))), (7, .pv (.one (.row .u8 true))), (8, .pv (.one (.int .i64))), (1, .box 0 0)], [.cells [.int .i64, .int .u64, .int .i64]], []⟩
def digits_Write_l7_post0 : Vm.Pat := ⟨95, [(7, .pv (.one (.row .u8 true))), (1, .box 0 0)], [.cells [.int .i64, .int .u64, .int .i64]], []⟩
def digits_Write_l7_enc0 : List Int × Int × Int × Int → List U := fun r => [.r r.1, .i r.2.1, .i r.2.2.1, .i r.2.2.2]
def digits_Write_l7_dec0 : List U → Option (List Int × Int × Int × Int) := fun u => match u with | [.r l7, .i x1_0, .i x1_1, .i x1_2] => some (l7, x1_0, x1_1, x1_2) | _ => none
def digits_Write_l7 (K : Nat) : Nat → Int → Int → List Int → Int → Int → Int → Int → Option (List Int × Int × Int × Int)
  | 0, _, _, _, _, _, _, _ => none
  | k + 1, x5, x6, l7, x8, x1_0, x1_1, x1_2 => (bi (Decidable.decide (x5 > 0))
    (bi (x8 == x1_2)
    (bi (Decidable.decide (x8 > 0))
    (bi (Decidable.decide (l7.length + 1 ≤ 8796093022208))
    ((bits_Div64 K (x5.tmod 10) x6 10).bind fun r0 => (bi (Decidable.decide ((l7 ++ [46]).length + 1 ≤ 8796093022208))
    (digits_Write_l7 K k (Go.IntKind.u64.wrap (x5.tdiv 10)) (r0.fst) (l7 ++ [46] ++ [Go.IntKind.u8.wrap (Go.IntKind.u64.wrap (48 + r0.snd))]) (Go.IntKind.i64.wrap (x8 + 1)) (x1_0) (x1_1) (x1_2))
    none))
    none)
    ((bits_Div64 K (x5.tmod 10) x6 10).bind fun r1 => (bi (Decidable.decide (l7.length + 1 ≤ 8796093022208))
    (digits_Write_l7 K k (Go.IntKind.u64.wrap (x5.tdiv 10)) (r1.fst) (l7 ++ [Go.IntKind.u8.wrap (Go.IntKind.u64.wrap (48 + r1.snd))]) (Go.IntKind.i64.wrap (x8 + 1)) (x1_0) (x1_1) (x1_2))
    none)))
    ((bits_Div64 K (x5.tmod 10) x6 10).bind fun r2 => (bi (Decidable.decide (l7.length + 1 ≤ 8796093022208))
    (digits_Write_l7 K k (Go.IntKind.u64.wrap (x5.tdiv 10)) (r2.fst) (l7 ++ [Go.IntKind.u8.wrap (Go.IntKind.u64.wrap (48 + r2.snd))]) (Go.IntKind.i64.wrap (x8 + 1)) (x1_0) (x1_1) (x1_2))
    none)))
    (bi (Decidable.decide (x6 > 0))
    (bi (x8 == x1_2)
    (bi (Decidable.decide (x8 > 0))
    (bi (Decidable.decide (l7.length + 1 ≤ 8796093022208))
    ((bits_Div64 K (x5.tmod 10) x6 10).bind fun r3 => (bi (Decidable.decide ((l7 ++ [46]).length + 1 ≤ 8796093022208))
    (digits_Write_l7 K k (Go.IntKind.u64.wrap (x5.tdiv 10)) (r3.fst) (l7 ++ [46] ++ [Go.IntKind.u8.wrap (Go.IntKind.u64.wrap (48 + r3.snd))]) (Go.IntKind.i64.wrap (x8 + 1)) (x1_0) (x1_1) (x1_2))
    none))
    none)
    ((bits_Div64 K (x5.tmod 10) x6 10).bind fun r4 => (bi (Decidable.decide (l7.length + 1 ≤ 8796093022208))
    (digits_Write_l7 K k (Go.IntKind.u64.wrap (x5.tdiv 10)) (r4.fst) (l7 ++ [Go.IntKind.u8.wrap (Go.IntKind.u64.wrap (48 + r4.snd))]) (Go.IntKind.i64.wrap (x8 + 1)) (x1_0) (x1_1) (x1_2))
    none)))
    ((bits_Div64 K (x5.tmod 10) x6 10).bind fun r5 => (bi (Decidable.decide (l7.length + 1 ≤ 8796093022208))
    (digits_Write_l7 K k (Go.IntKind.u64.wrap (x5.tdiv 10)) (r5.fst) (l7 ++ [Go.IntKind.u8.wrap (Go.IntKind.u64.wrap (48 + r5.snd))]) (Go.IntKind.i64.wrap (x8 + 1)) (x1_0) (x1_1) (x1_2))
    none)))
    (bi (Decidable.decide (x8 ≤ x1_2))
    (bi (x8 == x1_2)
    (bi (Decidable.decide (x8 > 0))
    (bi (Decidable.decide (l7.length + 1 ≤ 8796093022208))
    ((bits_Div64 K (x5.tmod 10) x6 10).bind fun r6 => (bi (Decidable.decide ((l7 ++ [46]).length + 1 ≤ 8796093022208))
    (digits_Write_l7 K k (Go.IntKind.u64.wrap (x5.tdiv 10)) (r6.fst) (l7 ++ [46] ++ [Go.IntKind.u8.wrap (Go.IntKind.u64.wrap (48 + r6.snd))]) (Go.IntKind.i64.wrap (x8 + 1)) (x1_0) (x1_1) (x1_2))
    none))
    none)
    ((bits_Div64 K (x5.tmod 10) x6 10).bind fun r7 => (bi (Decidable.decide (l7.length + 1 ≤ 8796093022208))
    (digits_Write_l7 K k (Go.IntKind.u64.wrap (x5.tdiv 10)) (r7.fst) (l7 ++ [Go.IntKind.u8.wrap (Go.IntKind.u64.wrap (48 + r7.snd))]) (Go.IntKind.i64.wrap (x8 + 1)) (x1_0) (x1_1) (x1_2))
    none)))
    ((bits_Div64 K (x5.tmod 10) x6 10).bind fun r8 => (bi (Decidable.decide (l7.length + 1 ≤ 8796093022208))
    (digits_Write_l7 K k (Go.IntKind.u64.wrap (x5.tdiv 10)) (r8.fst) (l7 ++ [Go.IntKind.u8.wrap (Go.IntKind.u64.wrap (48 + r8.snd))]) (Go.IntKind.i64.wrap (x8 + 1)) (x1_0) (x1_1) (x1_2))
    none)))
    (some ((l7, x1_0, x1_1, x1_2))))))
def digits_Write_l7_w (K k : Nat) : List U → Option (List Int × Int × Int × Int) := fun us => match us with | [.i x5, .i x6, .r l7, .i x8, .i x1_0, .i x1_1, .i x1_2] => digits_Write_l7 K k x5 x6 l7 x8 x1_0 x1_1 x1_2 | _ => none
theorem digits_Write_l7_eq (K k : Nat) (x5 : Int) (x6 : Int) (l7 : List Int) (x8 : Int) (x1_0 : Int) (x1_1 : Int) (x1_2 : Int) : (round1 Go.Proofs.Try.prog (env_digits_size K) (digits_Write_v18 K) (lp (bodyOf Go.Proofs.Try.f62) 0) digits_Write_l7_pre (.exit 0) digits_Write_l7_post0 digits_Write_l7_dec0 (digits_Write_l7_w K k) [.i x5, .i x6, .r l7, .i x8, .i x1_0, .i x1_1, .i x1_2]).den2 = digits_Write_l7 K (k + 1) x5 x6 l7 x8 x1_0 x1_1 x1_2 := by kernel_rfl
def digits_Write_l7_s (K : Nat) : Vm.LS := .one digits_Write_l7_pre _ (.exit 0) digits_Write_l7_post0 (digits_Write_l7_w K K) digits_Write_l7_enc0
theorem digits_Write_l7_ok (K : Nat) : LoopOk Go.Proofs.Try.prog (lp (bodyOf Go.Proofs.Try.f62) 0) (digits_Write_l7_s K) := loop_one hmix (env_digits_size_ok K) (lenv := digits_Write_v18 K) (L := digits_Write_l7_w K) (enc := digits_Write_l7_enc0) (dec := digits_Write_l7_dec0) (lps_ok (l := []) (by kernel_rfl) trivial) (fun u r h => by unfold digits_Write_l7_dec0 at h; split at h; (obtain rfl := Option.some.inj h; rfl); cases h) (fun us => by unfold digits_Write_l7_w; split <;> first | rfl | (simp only [digits_Write_l7])) (fun k us r h => by unfold digits_Write_l7_w at h; split at h; exact ((den2_eq _).symm.trans (digits_Write_l7_eq K k _ _ _ _ _ _ _)).trans h; cases h) K
def digits_Write_v7 (K : Nat) : Nat → Option Vm.LS := addL (digits_Write_v18 K) 7 (digits_Write_l7_s K)
def digits_Write_dec : List U → Option (ByteArray × Int) := fun u => match u with | [.s s0, .i x1] => some (s0, x1) | _ => none
def digits_Write_enc : (ByteArray × Int) → List U := fun r => [.s r.1, .i r.2]
def digits_Write (K : Nat) (x0_0 : Int) (x0_1 : Int) (x0_2 : Int) : Option (ByteArray × Int) := ((dec_Check K x0_0 x0_1 x0_2).bind fun r0 => (bi (r0 != 0)
    (some (((ByteArray.mk #[]), r0)))
    ((digits_size K x0_0 x0_1 x0_2).bind fun r1 => ((digits_Write_l7 K K r1.fst r1.snd [] 0 x0_0 x0_1 x0_2).bind fun r2 => (bi (Decidable.decide (r2.snd.fst < 0))
    (bi (Decidable.decide (r2.fst.length + 1 ≤ 8796093022208))
    ((digits_Write_l18 K K (r2.fst ++ [45]) 0
  (Go.IntKind.i64.wrap ((↑(r2.fst ++ [45]).length : Int) - 1))).bind fun r3 => (some ((strOf r3, 0))))
    none)
    ((digits_Write_l18 K K r2.fst 0 (Go.IntKind.i64.wrap ((↑r2.fst.length : Int) - 1))).bind fun r4 => (some ((strOf r4, 0)))))))))
theorem digits_Write_eq (K : Nat) (x0_0 : Int) (x0_1 : Int) (x0_2 : Int) : (runF Go.Proofs.Try.prog (env_digits_size K) (digits_Write_v7 K) Go.Proofs.Try.f62 [.agg [.int .i64, .int .u64, .int .i64]] [.one (.str), .one (.int .i64)] digits_Write_dec [.i x0_0, .i x0_1, .i x0_2]).den2 = digits_Write K x0_0 x0_1 x0_2 := by kernel_rfl
def digits_Write_w (K : Nat) : List U → Option (ByteArray × Int) := fun us => match us with | [.i x0_0, .i x0_1, .i x0_2] => digits_Write K x0_0 x0_1 x0_2 | _ => none
def digits_Write_spec (K : Nat) : Vm.Spec := ⟨[.agg [.int .i64, .int .u64, .int .i64]], [.one (.str), .one (.int .i64)], ByteArray × Int, digits_Write_w K, digits_Write_enc⟩
theorem digits_Write_ok (K : Nat) : FnOk Go.Proofs.Try.prog 62 (digits_Write_spec K) := fn_ok' hmix (env_digits_size_ok K) (lenv := digits_Write_v7 K) (args := [.agg [.int .i64, .int .u64, .int .i64]]) (res := [.one (.str), .one (.int .i64)]) (G := digits_Write_w K) (enc := digits_Write_enc) Go.Proofs.Try.func62 (lps_fn (l := [lp (bodyOf Go.Proofs.Try.f62) 0, lp (bodyOf Go.Proofs.Try.f62) 1]) (by kernel_rfl) ⟨⟨7, digits_Write_l7_s K, by kernel_rfl, by kernel_rfl, digits_Write_l7_ok K⟩, ⟨⟨18, digits_Write_l18_s K, by kernel_rfl, by kernel_rfl, digits_Write_l18_ok K⟩, trivial⟩⟩) (dec := digits_Write_dec) (fun u r h => by unfold digits_Write_dec at h; split at h; (obtain rfl := Option.some.inj h; rfl); cases h) (fun us r h => by unfold digits_Write_w at h; split at h; exact ((den2_eq _).symm.trans (digits_Write_eq K _ _ _)).trans h; cases h)
def env_digits_Write (K : Nat) : FuncId → Option Vm.Spec := addS (env_digits_size K) 62 (digits_Write_spec K)
theorem env_digits_Write_ok (K : Nat) : EnvOk Go.Proofs.Try.prog (env_digits_Write K) := addS_ok (env_digits_size_ok K) (.inl ⟨callable Go.Proofs.Try.func62 (by kernel_rfl) (by kernel_rfl), digits_Write_ok K⟩)
-- passbook/money.name
def money_name_dec : List U → Option (ByteArray) := fun u => match u with | [.s s0] => some (s0) | _ => none
def money_name_enc : (ByteArray) → List U := fun r => [.s r]
def money_name (K : Nat) (x0 : Int) : Option (ByteArray) := (bi (x0 == 0)
    (some ((ByteArray.mk #[69, 85, 82])))
    (bi (x0 == 1)
    (some ((ByteArray.mk #[85, 83, 68])))
    (bi (x0 == 2)
    (some ((ByteArray.mk #[74, 80, 89])))
    (bi (x0 == 3)
    (some ((ByteArray.mk #[75, 87, 68])))
    (some ((ByteArray.mk #[])))))))
theorem money_name_eq (K : Nat) (x0 : Int) : (runF Go.Proofs.Try.prog (env_digits_Write K) (lenv0) Go.Proofs.Try.f47 [.one (.int .i64)] [.one (.str)] money_name_dec [.i x0]).den2 = money_name K x0 := by kernel_rfl
def money_name_w (K : Nat) : List U → Option (ByteArray) := fun us => match us with | [.i x0] => money_name K x0 | _ => none
def money_name_spec (K : Nat) : Vm.Spec := ⟨[.one (.int .i64)], [.one (.str)], ByteArray, money_name_w K, money_name_enc⟩
theorem money_name_ok (K : Nat) : FnOk Go.Proofs.Try.prog 47 (money_name_spec K) := fn_ok' hmix (env_digits_Write_ok K) (lenv := lenv0) (args := [.one (.int .i64)]) (res := [.one (.str)]) (G := money_name_w K) (enc := money_name_enc) Go.Proofs.Try.func47 (lps_fn (l := []) (by kernel_rfl) trivial) (dec := money_name_dec) (fun u r h => by unfold money_name_dec at h; split at h; (obtain rfl := Option.some.inj h; rfl); cases h) (fun us r h => by unfold money_name_w at h; split at h; exact ((den2_eq _).symm.trans (money_name_eq K _)).trans h; cases h)
def env_money_name (K : Nat) : FuncId → Option Vm.Spec := addS (env_digits_Write K) 47 (money_name_spec K)
theorem env_money_name_ok (K : Nat) : EnvOk Go.Proofs.Try.prog (env_money_name K) := addS_ok (env_digits_Write_ok K) (.inl ⟨callable Go.Proofs.Try.func47 (by kernel_rfl) (by kernel_rfl), money_name_ok K⟩)
-- passbook/money.figures
def money_figures_dec : List U → Option (Int) := fun u => match u with | [.i x0] => some (x0) | _ => none
def money_figures_enc : (Int) → List U := fun r => [.i r]
def money_figures (K : Nat) (x0 : Int) : Option (Int) := (bi (x0 == 2)
    (some (0))
    (bi (x0 == 3)
    (some (3))
    (some (2))))
theorem money_figures_eq (K : Nat) (x0 : Int) : (runF Go.Proofs.Try.prog (env_money_name K) (lenv0) Go.Proofs.Try.f48 [.one (.int .i64)] [.one (.int .i64)] money_figures_dec [.i x0]).den2 = money_figures K x0 := by kernel_rfl
def money_figures_w (K : Nat) : List U → Option (Int) := fun us => match us with | [.i x0] => money_figures K x0 | _ => none
def money_figures_spec (K : Nat) : Vm.Spec := ⟨[.one (.int .i64)], [.one (.int .i64)], Int, money_figures_w K, money_figures_enc⟩
theorem money_figures_ok (K : Nat) : FnOk Go.Proofs.Try.prog 48 (money_figures_spec K) := fn_ok' hmix (env_money_name_ok K) (lenv := lenv0) (args := [.one (.int .i64)]) (res := [.one (.int .i64)]) (G := money_figures_w K) (enc := money_figures_enc) Go.Proofs.Try.func48 (lps_fn (l := []) (by kernel_rfl) trivial) (dec := money_figures_dec) (fun u r h => by unfold money_figures_dec at h; split at h; (obtain rfl := Option.some.inj h; rfl); cases h) (fun us r h => by unfold money_figures_w at h; split at h; exact ((den2_eq _).symm.trans (money_figures_eq K _)).trans h; cases h)
def env_money_figures (K : Nat) : FuncId → Option Vm.Spec := addS (env_money_name K) 48 (money_figures_spec K)
theorem env_money_figures_ok (K : Nat) : EnvOk Go.Proofs.Try.prog (env_money_figures K) := addS_ok (env_money_name_ok K) (.inl ⟨callable Go.Proofs.Try.func48 (by kernel_rfl) (by kernel_rfl), money_figures_ok K⟩)
-- passbook/money.Digits
def money_Digits_dec : List U → Option (Int × Int) := fun u => match u with | [.i x0, .i x1] => some (x0, x1) | _ => none
def money_Digits_enc : (Int × Int) → List U := fun r => [.i r.1, .i r.2]
def money_Digits (K : Nat) (x0 : Int) : Option (Int × Int) := ((money_name K x0).bind fun r0 => (bi (sEq r0 (ByteArray.mk #[]))
    (some ((0, 1)))
    ((money_figures K x0).bind fun r1 => (some ((r1, 0))))))
theorem money_Digits_eq (K : Nat) (x0 : Int) : (runF Go.Proofs.Try.prog (env_money_figures K) (lenv0) Go.Proofs.Try.f22 [.one (.int .i64)] [.one (.int .i64), .one (.int .i64)] money_Digits_dec [.i x0]).den2 = money_Digits K x0 := by kernel_rfl
def money_Digits_w (K : Nat) : List U → Option (Int × Int) := fun us => match us with | [.i x0] => money_Digits K x0 | _ => none
def money_Digits_spec (K : Nat) : Vm.Spec := ⟨[.one (.int .i64)], [.one (.int .i64), .one (.int .i64)], Int × Int, money_Digits_w K, money_Digits_enc⟩
theorem money_Digits_ok (K : Nat) : FnOk Go.Proofs.Try.prog 22 (money_Digits_spec K) := fn_ok' hmix (env_money_figures_ok K) (lenv := lenv0) (args := [.one (.int .i64)]) (res := [.one (.int .i64), .one (.int .i64)]) (G := money_Digits_w K) (enc := money_Digits_enc) Go.Proofs.Try.func22 (lps_fn (l := []) (by kernel_rfl) trivial) (dec := money_Digits_dec) (fun u r h => by unfold money_Digits_dec at h; split at h; (obtain rfl := Option.some.inj h; rfl); cases h) (fun us r h => by unfold money_Digits_w at h; split at h; exact ((den2_eq _).symm.trans (money_Digits_eq K _)).trans h; cases h)
def env_money_Digits (K : Nat) : FuncId → Option Vm.Spec := addS (env_money_figures K) 22 (money_Digits_spec K)
theorem env_money_Digits_ok (K : Nat) : EnvOk Go.Proofs.Try.prog (env_money_Digits K) := addS_ok (env_money_figures_ok K) (.inl ⟨callable Go.Proofs.Try.func22 (by kernel_rfl) (by kernel_rfl), money_Digits_ok K⟩)
-- passbook/money.within
def money_within_dec : List U → Option (Bool) := fun u => match u with | [.b c0] => some (c0) | _ => none
def money_within_enc : (Bool) → List U := fun r => [.b r]
def money_within (K : Nat) (x0 : Int) : Option (Bool) := (bi (Decidable.decide (x0 ≥ -10000000000000))
    (some (Decidable.decide (x0 ≤ 10000000000000)))
    (some Bool.false))
theorem money_within_eq (K : Nat) (x0 : Int) : (runF Go.Proofs.Try.prog (env_money_Digits K) (lenv0) Go.Proofs.Try.f51 [.one (.int .i64)] [.one (.bool)] money_within_dec [.i x0]).den2 = money_within K x0 := by kernel_rfl
def money_within_w (K : Nat) : List U → Option (Bool) := fun us => match us with | [.i x0] => money_within K x0 | _ => none
def money_within_spec (K : Nat) : Vm.Spec := ⟨[.one (.int .i64)], [.one (.bool)], Bool, money_within_w K, money_within_enc⟩
theorem money_within_ok (K : Nat) : FnOk Go.Proofs.Try.prog 51 (money_within_spec K) := fn_ok' hmix (env_money_Digits_ok K) (lenv := lenv0) (args := [.one (.int .i64)]) (res := [.one (.bool)]) (G := money_within_w K) (enc := money_within_enc) Go.Proofs.Try.func51 (lps_fn (l := []) (by kernel_rfl) trivial) (dec := money_within_dec) (fun u r h => by unfold money_within_dec at h; split at h; (obtain rfl := Option.some.inj h; rfl); cases h) (fun us r h => by unfold money_within_w at h; split at h; exact ((den2_eq _).symm.trans (money_within_eq K _)).trans h; cases h)
def env_money_within (K : Nat) : FuncId → Option Vm.Spec := addS (env_money_Digits K) 51 (money_within_spec K)
theorem env_money_within_ok (K : Nat) : EnvOk Go.Proofs.Try.prog (env_money_within K) := addS_ok (env_money_Digits_ok K) (.inl ⟨callable Go.Proofs.Try.func51 (by kernel_rfl) (by kernel_rfl), money_within_ok K⟩)
-- passbook/money.Check
def money_Check_dec : List U → Option (Int) := fun u => match u with | [.i x0] => some (x0) | _ => none
def money_Check_enc : (Int) → List U := fun r => [.i r]
def money_Check (K : Nat) (x0_0 : Int) (x0_1 : Int) : Option (Int) := ((money_name K x0_0).bind fun r0 => (bi (sEq r0 (ByteArray.mk #[]))
    (some (3))
    ((money_within K x0_1).bind fun r1 => (bi (!r1)
    (some (3))
    (some (0))))))
theorem money_Check_eq (K : Nat) (x0_0 : Int) (x0_1 : Int) : (runF Go.Proofs.Try.prog (env_money_within K) (lenv0) Go.Proofs.Try.f24 [.agg [.int .i64, .int .i64]] [.one (.int .i64)] money_Check_dec [.i x0_0, .i x0_1]).den2 = money_Check K x0_0 x0_1 := by kernel_rfl
def money_Check_w (K : Nat) : List U → Option (Int) := fun us => match us with | [.i x0_0, .i x0_1] => money_Check K x0_0 x0_1 | _ => none
def money_Check_spec (K : Nat) : Vm.Spec := ⟨[.agg [.int .i64, .int .i64]], [.one (.int .i64)], Int, money_Check_w K, money_Check_enc⟩
theorem money_Check_ok (K : Nat) : FnOk Go.Proofs.Try.prog 24 (money_Check_spec K) := fn_ok' hmix (env_money_within_ok K) (lenv := lenv0) (args := [.agg [.int .i64, .int .i64]]) (res := [.one (.int .i64)]) (G := money_Check_w K) (enc := money_Check_enc) Go.Proofs.Try.func24 (lps_fn (l := []) (by kernel_rfl) trivial) (dec := money_Check_dec) (fun u r h => by unfold money_Check_dec at h; split at h; (obtain rfl := Option.some.inj h; rfl); cases h) (fun us r h => by unfold money_Check_w at h; split at h; exact ((den2_eq _).symm.trans (money_Check_eq K _ _)).trans h; cases h)
def env_money_Check (K : Nat) : FuncId → Option Vm.Spec := addS (env_money_within K) 24 (money_Check_spec K)
theorem env_money_Check_ok (K : Nat) : EnvOk Go.Proofs.Try.prog (env_money_Check K) := addS_ok (env_money_within_ok K) (.inl ⟨callable Go.Proofs.Try.func24 (by kernel_rfl) (by kernel_rfl), money_Check_ok K⟩)
-- passbook/money.both
def money_both_dec : List U → Option (Int) := fun u => match u with | [.i x0] => some (x0) | _ => none
def money_both_enc : (Int) → List U := fun r => [.i r]
def money_both (K : Nat) (x0_0 : Int) (x0_1 : Int) (x1_0 : Int) (x1_1 : Int) : Option (Int) := ((money_Check K x0_0 x0_1).bind fun r0 => (bi (r0 != 0)
    (some (3))
    ((money_Check K x1_0 x1_1).bind fun r1 => (bi (r1 != 0)
    (some (3))
    (bi (x0_0 != x1_0)
    (some (10))
    (some (0)))))))
theorem money_both_eq (K : Nat) (x0_0 : Int) (x0_1 : Int) (x1_0 : Int) (x1_1 : Int) : (runF Go.Proofs.Try.prog (env_money_Check K) (lenv0) Go.Proofs.Try.f43 [.agg [.int .i64, .int .i64], .agg [.int .i64, .int .i64]] [.one (.int .i64)] money_both_dec [.i x0_0, .i x0_1, .i x1_0, .i x1_1]).den2 = money_both K x0_0 x0_1 x1_0 x1_1 := by kernel_rfl
def money_both_w (K : Nat) : List U → Option (Int) := fun us => match us with | [.i x0_0, .i x0_1, .i x1_0, .i x1_1] => money_both K x0_0 x0_1 x1_0 x1_1 | _ => none
def money_both_spec (K : Nat) : Vm.Spec := ⟨[.agg [.int .i64, .int .i64], .agg [.int .i64, .int .i64]], [.one (.int .i64)], Int, money_both_w K, money_both_enc⟩
theorem money_both_ok (K : Nat) : FnOk Go.Proofs.Try.prog 43 (money_both_spec K) := fn_ok' hmix (env_money_Check_ok K) (lenv := lenv0) (args := [.agg [.int .i64, .int .i64], .agg [.int .i64, .int .i64]]) (res := [.one (.int .i64)]) (G := money_both_w K) (enc := money_both_enc) Go.Proofs.Try.func43 (lps_fn (l := []) (by kernel_rfl) trivial) (dec := money_both_dec) (fun u r h => by unfold money_both_dec at h; split at h; (obtain rfl := Option.some.inj h; rfl); cases h) (fun us r h => by unfold money_both_w at h; split at h; exact ((den2_eq _).symm.trans (money_both_eq K _ _ _ _)).trans h; cases h)
def env_money_both (K : Nat) : FuncId → Option Vm.Spec := addS (env_money_Check K) 43 (money_both_spec K)
theorem env_money_both_ok (K : Nat) : EnvOk Go.Proofs.Try.prog (env_money_both K) := addS_ok (env_money_Check_ok K) (.inl ⟨callable Go.Proofs.Try.func43 (by kernel_rfl) (by kernel_rfl), money_both_ok K⟩)
-- passbook/money.made
def money_made_dec : List U → Option (Int × Int × Int) := fun u => match u with | [.i x0_0, .i x0_1, .i x1] => some (x0_0, x0_1, x1) | _ => none
def money_made_enc : (Int × Int × Int) → List U := fun r => [.i r.1, .i r.2.1, .i r.2.2]
def money_made (K : Nat) (x0 : Int) (x1 : Int) : Option (Int × Int × Int) := ((money_within K x1).bind fun r0 => (bi (!r0)
    (some ((0, 0, 4)))
    (some ((x0, x1, 0)))))
theorem money_made_eq (K : Nat) (x0 : Int) (x1 : Int) : (runF Go.Proofs.Try.prog (env_money_both K) (lenv0) Go.Proofs.Try.f44 [.one (.int .i64), .one (.int .i64)] [.agg [.int .i64, .int .i64], .one (.int .i64)] money_made_dec [.i x0, .i x1]).den2 = money_made K x0 x1 := by kernel_rfl
def money_made_w (K : Nat) : List U → Option (Int × Int × Int) := fun us => match us with | [.i x0, .i x1] => money_made K x0 x1 | _ => none
def money_made_spec (K : Nat) : Vm.Spec := ⟨[.one (.int .i64), .one (.int .i64)], [.agg [.int .i64, .int .i64], .one (.int .i64)], Int × Int × Int, money_made_w K, money_made_enc⟩
theorem money_made_ok (K : Nat) : FnOk Go.Proofs.Try.prog 44 (money_made_spec K) := fn_ok' hmix (env_money_both_ok K) (lenv := lenv0) (args := [.one (.int .i64), .one (.int .i64)]) (res := [.agg [.int .i64, .int .i64], .one (.int .i64)]) (G := money_made_w K) (enc := money_made_enc) Go.Proofs.Try.func44 (lps_fn (l := []) (by kernel_rfl) trivial) (dec := money_made_dec) (fun u r h => by unfold money_made_dec at h; split at h; (obtain rfl := Option.some.inj h; rfl); cases h) (fun us r h => by unfold money_made_w at h; split at h; exact ((den2_eq _).symm.trans (money_made_eq K _ _)).trans h; cases h)
def env_money_made (K : Nat) : FuncId → Option Vm.Spec := addS (env_money_both K) 44 (money_made_spec K)
theorem env_money_made_ok (K : Nat) : EnvOk Go.Proofs.Try.prog (env_money_made K) := addS_ok (env_money_both_ok K) (.inl ⟨callable Go.Proofs.Try.func44 (by kernel_rfl) (by kernel_rfl), money_made_ok K⟩)
-- passbook/money.Add
def money_Add_dec : List U → Option (Int × Int × Int) := fun u => match u with | [.i x0_0, .i x0_1, .i x1] => some (x0_0, x0_1, x1) | _ => none
def money_Add_enc : (Int × Int × Int) → List U := fun r => [.i r.1, .i r.2.1, .i r.2.2]
def money_Add (K : Nat) (x0_0 : Int) (x0_1 : Int) (x1_0 : Int) (x1_1 : Int) : Option (Int × Int × Int) := ((money_both K x0_0 x0_1 x1_0 x1_1).bind fun r0 => (bi (r0 != 0)
    (some ((0, 0, r0)))
    ((money_made K x0_0 (Go.IntKind.i64.wrap (x0_1 + x1_1))).bind fun r1 => (some ((r1.fst, r1.snd.fst, r1.snd.snd))))))
theorem money_Add_eq (K : Nat) (x0_0 : Int) (x0_1 : Int) (x1_0 : Int) (x1_1 : Int) : (runF Go.Proofs.Try.prog (env_money_made K) (lenv0) Go.Proofs.Try.f17 [.agg [.int .i64, .int .i64], .agg [.int .i64, .int .i64]] [.agg [.int .i64, .int .i64], .one (.int .i64)] money_Add_dec [.i x0_0, .i x0_1, .i x1_0, .i x1_1]).den2 = money_Add K x0_0 x0_1 x1_0 x1_1 := by kernel_rfl
def money_Add_w (K : Nat) : List U → Option (Int × Int × Int) := fun us => match us with | [.i x0_0, .i x0_1, .i x1_0, .i x1_1] => money_Add K x0_0 x0_1 x1_0 x1_1 | _ => none
def money_Add_spec (K : Nat) : Vm.Spec := ⟨[.agg [.int .i64, .int .i64], .agg [.int .i64, .int .i64]], [.agg [.int .i64, .int .i64], .one (.int .i64)], Int × Int × Int, money_Add_w K, money_Add_enc⟩
theorem money_Add_ok (K : Nat) : FnOk Go.Proofs.Try.prog 17 (money_Add_spec K) := fn_ok' hmix (env_money_made_ok K) (lenv := lenv0) (args := [.agg [.int .i64, .int .i64], .agg [.int .i64, .int .i64]]) (res := [.agg [.int .i64, .int .i64], .one (.int .i64)]) (G := money_Add_w K) (enc := money_Add_enc) Go.Proofs.Try.func17 (lps_fn (l := []) (by kernel_rfl) trivial) (dec := money_Add_dec) (fun u r h => by unfold money_Add_dec at h; split at h; (obtain rfl := Option.some.inj h; rfl); cases h) (fun us r h => by unfold money_Add_w at h; split at h; exact ((den2_eq _).symm.trans (money_Add_eq K _ _ _ _)).trans h; cases h)
def env_money_Add (K : Nat) : FuncId → Option Vm.Spec := addS (env_money_made K) 17 (money_Add_spec K)
theorem env_money_Add_ok (K : Nat) : EnvOk Go.Proofs.Try.prog (env_money_Add K) := addS_ok (env_money_made_ok K) (.inl ⟨callable Go.Proofs.Try.func17 (by kernel_rfl) (by kernel_rfl), money_Add_ok K⟩)
-- passbook/money.Sub
def money_Sub_dec : List U → Option (Int × Int × Int) := fun u => match u with | [.i x0_0, .i x0_1, .i x1] => some (x0_0, x0_1, x1) | _ => none
def money_Sub_enc : (Int × Int × Int) → List U := fun r => [.i r.1, .i r.2.1, .i r.2.2]
def money_Sub (K : Nat) (x0_0 : Int) (x0_1 : Int) (x1_0 : Int) (x1_1 : Int) : Option (Int × Int × Int) := ((money_both K x0_0 x0_1 x1_0 x1_1).bind fun r0 => (bi (r0 != 0)
    (some ((0, 0, r0)))
    ((money_made K x0_0 (Go.IntKind.i64.wrap (x0_1 - x1_1))).bind fun r1 => (some ((r1.fst, r1.snd.fst, r1.snd.snd))))))
theorem money_Sub_eq (K : Nat) (x0_0 : Int) (x0_1 : Int) (x1_0 : Int) (x1_1 : Int) : (runF Go.Proofs.Try.prog (env_money_Add K) (lenv0) Go.Proofs.Try.f18 [.agg [.int .i64, .int .i64], .agg [.int .i64, .int .i64]] [.agg [.int .i64, .int .i64], .one (.int .i64)] money_Sub_dec [.i x0_0, .i x0_1, .i x1_0, .i x1_1]).den2 = money_Sub K x0_0 x0_1 x1_0 x1_1 := by kernel_rfl
def money_Sub_w (K : Nat) : List U → Option (Int × Int × Int) := fun us => match us with | [.i x0_0, .i x0_1, .i x1_0, .i x1_1] => money_Sub K x0_0 x0_1 x1_0 x1_1 | _ => none
def money_Sub_spec (K : Nat) : Vm.Spec := ⟨[.agg [.int .i64, .int .i64], .agg [.int .i64, .int .i64]], [.agg [.int .i64, .int .i64], .one (.int .i64)], Int × Int × Int, money_Sub_w K, money_Sub_enc⟩
theorem money_Sub_ok (K : Nat) : FnOk Go.Proofs.Try.prog 18 (money_Sub_spec K) := fn_ok' hmix (env_money_Add_ok K) (lenv := lenv0) (args := [.agg [.int .i64, .int .i64], .agg [.int .i64, .int .i64]]) (res := [.agg [.int .i64, .int .i64], .one (.int .i64)]) (G := money_Sub_w K) (enc := money_Sub_enc) Go.Proofs.Try.func18 (lps_fn (l := []) (by kernel_rfl) trivial) (dec := money_Sub_dec) (fun u r h => by unfold money_Sub_dec at h; split at h; (obtain rfl := Option.some.inj h; rfl); cases h) (fun us r h => by unfold money_Sub_w at h; split at h; exact ((den2_eq _).symm.trans (money_Sub_eq K _ _ _ _)).trans h; cases h)
def env_money_Sub (K : Nat) : FuncId → Option Vm.Spec := addS (env_money_Add K) 18 (money_Sub_spec K)
theorem env_money_Sub_ok (K : Nat) : EnvOk Go.Proofs.Try.prog (env_money_Sub K) := addS_ok (env_money_Add_ok K) (.inl ⟨callable Go.Proofs.Try.func18 (by kernel_rfl) (by kernel_rfl), money_Sub_ok K⟩)
-- passbook/money.Cmp
def money_Cmp_dec : List U → Option (Int × Int) := fun u => match u with | [.i x0, .i x1] => some (x0, x1) | _ => none
def money_Cmp_enc : (Int × Int) → List U := fun r => [.i r.1, .i r.2]
def money_Cmp (K : Nat) (x0_0 : Int) (x0_1 : Int) (x1_0 : Int) (x1_1 : Int) : Option (Int × Int) := ((money_both K x0_0 x0_1 x1_0 x1_1).bind fun r0 => (bi (r0 != 0)
    (some ((0, r0)))
    ((cmp_Compare_int64_ K x0_1 x1_1).bind fun r1 => (some ((r1, 0))))))
theorem money_Cmp_eq (K : Nat) (x0_0 : Int) (x0_1 : Int) (x1_0 : Int) (x1_1 : Int) : (runF Go.Proofs.Try.prog (env_money_Sub K) (lenv0) Go.Proofs.Try.f19 [.agg [.int .i64, .int .i64], .agg [.int .i64, .int .i64]] [.one (.int .i64), .one (.int .i64)] money_Cmp_dec [.i x0_0, .i x0_1, .i x1_0, .i x1_1]).den2 = money_Cmp K x0_0 x0_1 x1_0 x1_1 := by kernel_rfl
def money_Cmp_w (K : Nat) : List U → Option (Int × Int) := fun us => match us with | [.i x0_0, .i x0_1, .i x1_0, .i x1_1] => money_Cmp K x0_0 x0_1 x1_0 x1_1 | _ => none
def money_Cmp_spec (K : Nat) : Vm.Spec := ⟨[.agg [.int .i64, .int .i64], .agg [.int .i64, .int .i64]], [.one (.int .i64), .one (.int .i64)], Int × Int, money_Cmp_w K, money_Cmp_enc⟩
theorem money_Cmp_ok (K : Nat) : FnOk Go.Proofs.Try.prog 19 (money_Cmp_spec K) := fn_ok' hmix (env_money_Sub_ok K) (lenv := lenv0) (args := [.agg [.int .i64, .int .i64], .agg [.int .i64, .int .i64]]) (res := [.one (.int .i64), .one (.int .i64)]) (G := money_Cmp_w K) (enc := money_Cmp_enc) Go.Proofs.Try.func19 (lps_fn (l := []) (by kernel_rfl) trivial) (dec := money_Cmp_dec) (fun u r h => by unfold money_Cmp_dec at h; split at h; (obtain rfl := Option.some.inj h; rfl); cases h) (fun us r h => by unfold money_Cmp_w at h; split at h; exact ((den2_eq _).symm.trans (money_Cmp_eq K _ _ _ _)).trans h; cases h)
def env_money_Cmp (K : Nat) : FuncId → Option Vm.Spec := addS (env_money_Sub K) 19 (money_Cmp_spec K)
theorem env_money_Cmp_ok (K : Nat) : EnvOk Go.Proofs.Try.prog (env_money_Cmp K) := addS_ok (env_money_Sub_ok K) (.inl ⟨callable Go.Proofs.Try.func19 (by kernel_rfl) (by kernel_rfl), money_Cmp_ok K⟩)
-- passbook/money.Of
def money_Of_dec : List U → Option (Int × Int × Int) := fun u => match u with | [.i x0_0, .i x0_1, .i x1] => some (x0_0, x0_1, x1) | _ => none
def money_Of_enc : (Int × Int × Int) → List U := fun r => [.i r.1, .i r.2.1, .i r.2.2]
def money_Of (K : Nat) (x0_0 : Int) (x0_1 : Int) (x0_2 : Int) (x1 : Int) (x2 : Int) : Option (Int × Int × Int) := ((money_name K x1).bind fun r0 => (bi (sEq r0 (ByteArray.mk #[]))
    (some ((0, 0, 1)))
    (bi (Decidable.decide (x2 < 0))
    (some ((0, 0, 1)))
    (bi (Decidable.decide (x2 > 6))
    (some ((0, 0, 1)))
    ((money_figures K x1).bind fun r1 => ((dec_Rescale K x0_0 x0_1 x0_2 r1 x2).bind fun r2 => (bi (r2.snd.snd.snd != 0)
    (some ((0, 0, r2.snd.snd.snd)))
    ((dec_Int K r2.fst r2.snd.fst 0).bind fun r3 => (bi (r3.snd != 0)
    (some ((0, 0, r3.snd)))
    ((money_made K x1 r3.fst).bind fun r4 => (some ((r4.fst, r4.snd.fst, r4.snd.snd)))))))))))))
theorem money_Of_eq (K : Nat) (x0_0 : Int) (x0_1 : Int) (x0_2 : Int) (x1 : Int) (x2 : Int) : (runF Go.Proofs.Try.prog (env_money_Cmp K) (lenv0) Go.Proofs.Try.f26 [.agg [.int .i64, .int .u64, .int .i64], .one (.int .i64), .one (.int .i64)] [.agg [.int .i64, .int .i64], .one (.int .i64)] money_Of_dec [.i x0_0, .i x0_1, .i x0_2, .i x1, .i x2]).den2 = money_Of K x0_0 x0_1 x0_2 x1 x2 := by kernel_rfl
def money_Of_w (K : Nat) : List U → Option (Int × Int × Int) := fun us => match us with | [.i x0_0, .i x0_1, .i x0_2, .i x1, .i x2] => money_Of K x0_0 x0_1 x0_2 x1 x2 | _ => none
def money_Of_spec (K : Nat) : Vm.Spec := ⟨[.agg [.int .i64, .int .u64, .int .i64], .one (.int .i64), .one (.int .i64)], [.agg [.int .i64, .int .i64], .one (.int .i64)], Int × Int × Int, money_Of_w K, money_Of_enc⟩
theorem money_Of_ok (K : Nat) : FnOk Go.Proofs.Try.prog 26 (money_Of_spec K) := fn_ok' hmix (env_money_Cmp_ok K) (lenv := lenv0) (args := [.agg [.int .i64, .int .u64, .int .i64], .one (.int .i64), .one (.int .i64)]) (res := [.agg [.int .i64, .int .i64], .one (.int .i64)]) (G := money_Of_w K) (enc := money_Of_enc) Go.Proofs.Try.func26 (lps_fn (l := []) (by kernel_rfl) trivial) (dec := money_Of_dec) (fun u r h => by unfold money_Of_dec at h; split at h; (obtain rfl := Option.some.inj h; rfl); cases h) (fun us r h => by unfold money_Of_w at h; split at h; exact ((den2_eq _).symm.trans (money_Of_eq K _ _ _ _ _)).trans h; cases h)
def env_money_Of (K : Nat) : FuncId → Option Vm.Spec := addS (env_money_Cmp K) 26 (money_Of_spec K)
theorem env_money_Of_ok (K : Nat) : EnvOk Go.Proofs.Try.prog (env_money_Of K) := addS_ok (env_money_Cmp_ok K) (.inl ⟨callable Go.Proofs.Try.func26 (by kernel_rfl) (by kernel_rfl), money_Of_ok K⟩)
-- passbook/money.To
def money_To_dec : List U → Option (Int × Int × Int × Int) := fun u => match u with | [.i x0_0, .i x0_1, .i x0_2, .i x1] => some (x0_0, x0_1, x0_2, x1) | _ => none
def money_To_enc : (Int × Int × Int × Int) → List U := fun r => [.i r.1, .i r.2.1, .i r.2.2.1, .i r.2.2.2]
def money_To (K : Nat) (x0_0 : Int) (x0_1 : Int) : Option (Int × Int × Int × Int) := ((money_Check K x0_0 x0_1).bind fun r0 => (bi (r0 != 0)
    (some ((0, 0, 0, r0)))
    ((money_figures K x0_0).bind fun r1 => ((dec_Of K x0_1 r1).bind fun r2 => (some ((r2.fst, r2.snd.fst, r2.snd.snd.fst, r2.snd.snd.snd)))))))
theorem money_To_eq (K : Nat) (x0_0 : Int) (x0_1 : Int) : (runF Go.Proofs.Try.prog (env_money_Of K) (lenv0) Go.Proofs.Try.f28 [.agg [.int .i64, .int .i64]] [.agg [.int .i64, .int .u64, .int .i64], .one (.int .i64)] money_To_dec [.i x0_0, .i x0_1]).den2 = money_To K x0_0 x0_1 := by kernel_rfl
def money_To_w (K : Nat) : List U → Option (Int × Int × Int × Int) := fun us => match us with | [.i x0_0, .i x0_1] => money_To K x0_0 x0_1 | _ => none
def money_To_spec (K : Nat) : Vm.Spec := ⟨[.agg [.int .i64, .int .i64]], [.agg [.int .i64, .int .u64, .int .i64], .one (.int .i64)], Int × Int × Int × Int, money_To_w K, money_To_enc⟩
theorem money_To_ok (K : Nat) : FnOk Go.Proofs.Try.prog 28 (money_To_spec K) := fn_ok' hmix (env_money_Of_ok K) (lenv := lenv0) (args := [.agg [.int .i64, .int .i64]]) (res := [.agg [.int .i64, .int .u64, .int .i64], .one (.int .i64)]) (G := money_To_w K) (enc := money_To_enc) Go.Proofs.Try.func28 (lps_fn (l := []) (by kernel_rfl) trivial) (dec := money_To_dec) (fun u r h => by unfold money_To_dec at h; split at h; (obtain rfl := Option.some.inj h; rfl); cases h) (fun us r h => by unfold money_To_w at h; split at h; exact ((den2_eq _).symm.trans (money_To_eq K _ _)).trans h; cases h)
def env_money_To (K : Nat) : FuncId → Option Vm.Spec := addS (env_money_Of K) 28 (money_To_spec K)
theorem env_money_To_ok (K : Nat) : EnvOk Go.Proofs.Try.prog (env_money_To K) := addS_ok (env_money_Of_ok K) (.inl ⟨callable Go.Proofs.Try.func28 (by kernel_rfl) (by kernel_rfl), money_To_ok K⟩)
-- passbook/money.Write
def money_Write_dec : List U → Option (ByteArray × Int) := fun u => match u with | [.s s0, .i x1] => some (s0, x1) | _ => none
def money_Write_enc : (ByteArray × Int) → List U := fun r => [.s r.1, .i r.2]
def money_Write (K : Nat) (x0_0 : Int) (x0_1 : Int) : Option (ByteArray × Int) := ((money_To K x0_0 x0_1).bind fun r0 => (bi (r0.snd.snd.snd != 0)
    (some (((ByteArray.mk #[]), r0.snd.snd.snd)))
    ((digits_Write K r0.fst r0.snd.fst r0.snd.snd.fst).bind fun r1 => ((money_name K x0_0).bind fun r2 => (bi (Decidable.decide ((↑(ByteArray.size r2 + 1) : Int) > 9223372036854775807))
    none
    (bi (Decidable.decide ((↑((r2 ++ (ByteArray.mk #[32])).size + r1.fst.size) : Int) > 9223372036854775807))
    none
    (some ((r2 ++ (ByteArray.mk #[32]) ++ r1.fst, 0)))))))))
theorem money_Write_eq (K : Nat) (x0_0 : Int) (x0_1 : Int) : (runF Go.Proofs.Try.prog (env_money_To K) (lenv0) Go.Proofs.Try.f30 [.agg [.int .i64, .int .i64]] [.one (.str), .one (.int .i64)] money_Write_dec [.i x0_0, .i x0_1]).den2 = money_Write K x0_0 x0_1 := by kernel_rfl
def money_Write_w (K : Nat) : List U → Option (ByteArray × Int) := fun us => match us with | [.i x0_0, .i x0_1] => money_Write K x0_0 x0_1 | _ => none
def money_Write_spec (K : Nat) : Vm.Spec := ⟨[.agg [.int .i64, .int .i64]], [.one (.str), .one (.int .i64)], ByteArray × Int, money_Write_w K, money_Write_enc⟩
theorem money_Write_ok (K : Nat) : FnOk Go.Proofs.Try.prog 30 (money_Write_spec K) := fn_ok' hmix (env_money_To_ok K) (lenv := lenv0) (args := [.agg [.int .i64, .int .i64]]) (res := [.one (.str), .one (.int .i64)]) (G := money_Write_w K) (enc := money_Write_enc) Go.Proofs.Try.func30 (lps_fn (l := []) (by kernel_rfl) trivial) (dec := money_Write_dec) (fun u r h => by unfold money_Write_dec at h; split at h; (obtain rfl := Option.some.inj h; rfl); cases h) (fun us r h => by unfold money_Write_w at h; split at h; exact ((den2_eq _).symm.trans (money_Write_eq K _ _)).trans h; cases h)
def env_money_Write (K : Nat) : FuncId → Option Vm.Spec := addS (env_money_To K) 30 (money_Write_spec K)
theorem env_money_Write_ok (K : Nat) : EnvOk Go.Proofs.Try.prog (env_money_Write K) := addS_ok (env_money_To_ok K) (.inl ⟨callable Go.Proofs.Try.func30 (by kernel_rfl) (by kernel_rfl), money_Write_ok K⟩)
end Go.Proofs.Ytfeifhlnidkbbaa.F
