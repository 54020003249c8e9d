import Derived.Test.YtfeifhlnidkbbaaGreatDoorVmY
import Derived.Test.YtfeifhlnidkbbaaGreatDoorVmRc
import Derived.Test.YtfeifhlnidkbbaaGreatDoorProg
import Derived.Test.YtfeifhlnidkbbaaGreatDoorFA
namespace Go.Proofs.YtfeifhlnidkbbaaGreatDoor.F
open Go Go.Proofs.YtfeifhlnidkbbaaGreatDoor.Vm
set_option maxRecDepth 1000000
set_option linter.unusedVariables false
def cmp_isNaN_uint64__dec : List U → Option (Bool) := fun u => match u with | [.b c0] => some (c0) | _ => none
def cmp_isNaN_uint64__enc : (Bool) → List U := fun r => [.b r]
def cmp_isNaN_uint64_ (K : Nat) (x0 : Int) : Option (Bool) := (some (x0 != x0))
theorem cmp_isNaN_uint64__eq (K : Nat) (x0 : Int) : (runF Tryz.prog (env_dec_Int K) (lenv0) Tryz.f59 [.one (.int .u64)] [.one (.bool)] cmp_isNaN_uint64__dec [.i x0]).den2 = cmp_isNaN_uint64_ K x0 := by kernel_rfl
def cmp_isNaN_uint64__w (K : Nat) : List U → Option (Bool) := fun us => match us with | [.i x0] => cmp_isNaN_uint64_ K x0 | _ => none
def cmp_isNaN_uint64__spec (K : Nat) : Vm.Spec := ⟨[.one (.int .u64)], [.one (.bool)], Bool, cmp_isNaN_uint64__w K, cmp_isNaN_uint64__enc⟩
theorem cmp_isNaN_uint64__ok (K : Nat) : FnOk Tryz.prog 59 (cmp_isNaN_uint64__spec K) := fn_ok' hmix (env_dec_Int_ok K) (lenv := lenv0) (args := [.one (.int .u64)]) (res := [.one (.bool)]) (G := cmp_isNaN_uint64__w K) (enc := cmp_isNaN_uint64__enc) Tryz.func59 (lps_fn (l := []) (by kernel_rfl) trivial) (dec := cmp_isNaN_uint64__dec) (fun u r h => by unfold cmp_isNaN_uint64__dec at h; split at h; (cases h; rfl); cases h) (fun us r h => by unfold cmp_isNaN_uint64__w at h; split at h; exact ((den2_eq _).symm.trans (cmp_isNaN_uint64__eq K _)).trans h; cases h)
def env_cmp_isNaN_uint64_ (K : Nat) : FuncId → Option Vm.Spec := addS (env_dec_Int K) 59 (cmp_isNaN_uint64__spec K)
theorem env_cmp_isNaN_uint64__ok (K : Nat) : EnvOk Tryz.prog (env_cmp_isNaN_uint64_ K) := addS_ok (env_dec_Int_ok K) (.inl ⟨callable Tryz.func59 (by kernel_rfl) (by kernel_rfl), cmp_isNaN_uint64__ok K⟩)
def cmp_Compare_uint64__dec : List U → Option (Int) := fun u => match u with | [.i x0] => some (x0) | _ => none
def cmp_Compare_uint64__enc : (Int) → List U := fun r => [.i r]
def cmp_Compare_uint64_ (K : Nat) (x0 : Int) (x1 : Int) : Option (Int) := ((cmp_isNaN_uint64_ K x0).bind fun r0 => ((cmp_isNaN_uint64_ K x1).bind fun r1 => (bi (r0)
    (bi (r1)
    (some (0))
    (some (-1)))
    (bi (r1)
    (some (1))
    (bi (decide (x0 < x1))
    (some (-1))
    (bi (decide (x0 > x1))
    (some (1))
    (some (0))))))))
theorem cmp_Compare_uint64__eq (K : Nat) (x0 : Int) (x1 : Int) : (runF Tryz.prog (env_cmp_isNaN_uint64_ K) (lenv0) Tryz.f29 [.one (.int .u64), .one (.int .u64)] [.one (.int .i64)] cmp_Compare_uint64__dec [.i x0, .i x1]).den2 = cmp_Compare_uint64_ K x0 x1 := by kernel_rfl
def cmp_Compare_uint64__w (K : Nat) : List U → Option (Int) := fun us => match us with | [.i x0, .i x1] => cmp_Compare_uint64_ K x0 x1 | _ => none
def cmp_Compare_uint64__spec (K : Nat) : Vm.Spec := ⟨[.one (.int .u64), .one (.int .u64)], [.one (.int .i64)], Int, cmp_Compare_uint64__w K, cmp_Compare_uint64__enc⟩
theorem cmp_Compare_uint64__ok (K : Nat) : FnOk Tryz.prog 29 (cmp_Compare_uint64__spec K) := fn_ok' hmix (env_cmp_isNaN_uint64__ok K) (lenv := lenv0) (args := [.one (.int .u64), .one (.int .u64)]) (res := [.one (.int .i64)]) (G := cmp_Compare_uint64__w K) (enc := cmp_Compare_uint64__enc) Tryz.func29 (lps_fn (l := []) (by kernel_rfl) trivial) (dec := cmp_Compare_uint64__dec) (fun u r h => by unfold cmp_Compare_uint64__dec at h; split at h; (cases h; rfl); cases h) (fun us r h => by unfold cmp_Compare_uint64__w at h; split at h; exact ((den2_eq _).symm.trans (cmp_Compare_uint64__eq K _ _)).trans h; cases h)
def env_cmp_Compare_uint64_ (K : Nat) : FuncId → Option Vm.Spec := addS (env_cmp_isNaN_uint64_ K) 29 (cmp_Compare_uint64__spec K)
theorem env_cmp_Compare_uint64__ok (K : Nat) : EnvOk Tryz.prog (env_cmp_Compare_uint64_ K) := addS_ok (env_cmp_isNaN_uint64__ok K) (.inl ⟨callable Tryz.func29 (by kernel_rfl) (by kernel_rfl), cmp_Compare_uint64__ok K⟩)
def bits_LeadingZeros64_dec : List U → Option (Int) := fun u => match u with | [.i x0] => some (x0) | _ => none
def bits_LeadingZeros64_enc : (Int) → List U := fun r => [.i r]
def bits_LeadingZeros64 (K : Nat) (x0 : Int) : Option (Int) := ((bits_Len64 K x0).bind fun r0 => (some (IntKind.i64.wrap (64 - r0))))
theorem bits_LeadingZeros64_eq (K : Nat) (x0 : Int) : (runF Tryz.prog (env_cmp_Compare_uint64_ K) (lenv0) Tryz.f57 [.one (.int .u64)] [.one (.int .i64)] bits_LeadingZeros64_dec [.i x0]).den2 = bits_LeadingZeros64 K x0 := by kernel_rfl
def bits_LeadingZeros64_w (K : Nat) : List U → Option (Int) := fun us => match us with | [.i x0] => bits_LeadingZeros64 K x0 | _ => none
def bits_LeadingZeros64_spec (K : Nat) : Vm.Spec := ⟨[.one (.int .u64)], [.one (.int .i64)], Int, bits_LeadingZeros64_w K, bits_LeadingZeros64_enc⟩
theorem bits_LeadingZeros64_ok (K : Nat) : FnOk Tryz.prog 57 (bits_LeadingZeros64_spec K) := fn_ok' hmix (env_cmp_Compare_uint64__ok K) (lenv := lenv0) (args := [.one (.int .u64)]) (res := [.one (.int .i64)]) (G := bits_LeadingZeros64_w K) (enc := bits_LeadingZeros64_enc) Tryz.func57 (lps_fn (l := []) (by kernel_rfl) trivial) (dec := bits_LeadingZeros64_dec) (fun u r h => by unfold bits_LeadingZeros64_dec at h; split at h; (cases h; rfl); cases h) (fun us r h => by unfold bits_LeadingZeros64_w at h; split at h; exact ((den2_eq _).symm.trans (bits_LeadingZeros64_eq K _)).trans h; cases h)
def env_bits_LeadingZeros64 (K : Nat) : FuncId → Option Vm.Spec := addS (env_cmp_Compare_uint64_ K) 57 (bits_LeadingZeros64_spec K)
theorem env_bits_LeadingZeros64_ok (K : Nat) : EnvOk Tryz.prog (env_bits_LeadingZeros64 K) := addS_ok (env_cmp_Compare_uint64__ok K) (.inl ⟨callable Tryz.func57 (by kernel_rfl) (by kernel_rfl), bits_LeadingZeros64_ok K⟩)
def bits_Div64_l24_pre : Vm.Pat := ⟨135, [(2, .pv (.one (.int .u64))), (8, .pv (.one (.int .u64))), (9, .pv (.one (.int .u64))), (10, .pv (.one (.int .u64))), (14, .pv (.one (.int .u64))), (15, .pv (.one (.int .u64))), (16, .pv (.one (.int .u64))), (17, .pv (.one (.int .u64))), (18, .pv (.one (.int .u64)))], [], []⟩
def bits_Div64_l24_post0 : Vm.Pat := ⟨135, [(2, .pv (.one (.int .u64))), (8, .pv (.one (.int .u64))), (14, .pv (.one (.int .u64))), (15, .pv (.one (.int .u64))), (17, .pv (.one (.int .u64))), (18, .pv (.one (.int .u64)))], [], []⟩
def bits_Div64_l24_enc0 : Int × Int × Int × Int × Int × Int → List U := fun r => [.i r.1, .i r.2.1, .i r.2.2.1, .i r.2.2.2.1, .i r.2.2.2.2.1, .i r.2.2.2.2.2]
def bits_Div64_l24_dec0 : List U → Option (Int × Int × Int × Int × Int × Int) := fun u => match u with | [.i x2, .i x8, .i x14, .i x15, .i x17, .i x18] => some (x2, x8, x14, x15, x17, x18) | _ => none
def bits_Div64_l24 (K : Nat) : Nat → Int → Int → Int → Int → Int → Int → Int → Int → Int → Option (Int × Int × Int × Int × Int × Int)
  | 0, _, _, _, _, _, _, _, _, _ => none
  | k + 1, x2, x8, x9, x10, x14, x15, x16, x17, x18 => (bi (decide (x18 ≥ 4294967296))
    (bi (decide (IntKind.u64.wrap (x16 + x9) ≥ 4294967296))
    (some ((x2, x8, x14, x15, x17, IntKind.u64.wrap (x18 - 1))))
    (bits_Div64_l24 K k (x2) (x8) (x9) (x10) (x14) (x15) (IntKind.u64.wrap (x16 + x9)) (x17) (IntKind.u64.wrap (x18 - 1))))
    (bi (decide (IntKind.u64.wrap (x18 * x10) > IntKind.u64.wrap (IntKind.u64.wrap (4294967296 * x16) + x14)))
    (bi (decide (IntKind.u64.wrap (x16 + x9) ≥ 4294967296))
    (some ((x2, x8, x14, x15, x17, IntKind.u64.wrap (x18 - 1))))
    (bits_Div64_l24 K k (x2) (x8) (x9) (x10) (x14) (x15) (IntKind.u64.wrap (x16 + x9)) (x17) (IntKind.u64.wrap (x18 - 1))))
    (some ((x2, x8, x14, x15, x17, x18)))))
def bits_Div64_l24_w (K k : Nat) : List U → Option (Int × Int × Int × Int × Int × Int) := fun us => match us with | [.i x2, .i x8, .i x9, .i x10, .i x14, .i x15, .i x16, .i x17, .i x18] => bits_Div64_l24 K k x2 x8 x9 x10 x14 x15 x16 x17 x18 | _ => none
theorem bits_Div64_l24_eq (K k : Nat) (x2 : Int) (x8 : Int) (x9 : Int) (x10 : Int) (x14 : Int) (x15 : Int) (x16 : Int) (x17 : Int) (x18 : Int) : (round1 Tryz.prog (env_bits_LeadingZeros64 K) (lenv0) (lp (bodyOf Tryz.f26) 1) bits_Div64_l24_pre (.exit 2) bits_Div64_l24_post0 bits_Div64_l24_dec0 (bits_Div64_l24_w K k) [.i x2, .i x8, .i x9, .i x10, .i x14, .i x15, .i x16, .i x17, .i x18]).den2 = bits_Div64_l24 K (k + 1) x2 x8 x9 x10 x14 x15 x16 x17 x18 := by kernel_rfl
def bits_Div64_l24_s (K : Nat) : Vm.LS := .one bits_Div64_l24_pre _ (.exit 2) bits_Div64_l24_post0 (bits_Div64_l24_w K K) bits_Div64_l24_enc0
theorem bits_Div64_l24_ok (K : Nat) : LoopOk Tryz.prog (lp (bodyOf Tryz.f26) 1) (bits_Div64_l24_s K) := loop_one hmix (env_bits_LeadingZeros64_ok K) (lenv := lenv0) (L := bits_Div64_l24_w K) (enc := bits_Div64_l24_enc0) (dec := bits_Div64_l24_dec0) (lps_ok (l := []) (by kernel_rfl) trivial) (fun u r h => by unfold bits_Div64_l24_dec0 at h; split at h; (cases h; rfl); cases h) (fun us => by unfold bits_Div64_l24_w; split <;> first | rfl | (simp only [bits_Div64_l24])) (fun k us r h => by unfold bits_Div64_l24_w at h; split at h; exact ((den2_eq _).symm.trans (bits_Div64_l24_eq K k _ _ _ _ _ _ _ _ _)).trans h; cases h) K
def bits_Div64_v24 (K : Nat) : Nat → Option Vm.LS := addL (lenv0) 24 (bits_Div64_l24_s K)
def bits_Div64_l17_pre : Vm.Pat := ⟨135, [(2, .pv (.one (.int .u64))), (8, .pv (.one (.int .u64))), (9, .pv (.one (.int .u64))), (10, .pv (.one (.int .u64))), (11, .pv (.one (.int .u64))), (13, .pv (.one (.int .u64))), (14, .pv (.one (.int .u64))), (15, .pv (.one (.int .u64))), (16, .pv (.one (.int .u64)))], [], []⟩
def bits_Div64_l17_post0 : Vm.Pat := ⟨135, [(2, .pv (.one (.int .u64))), (8, .pv (.one (.int .u64))), (9, .pv (.one (.int .u64))), (10, .pv (.one (.int .u64))), (11, .pv (.one (.int .u64))), (13, .pv (.one (.int .u64))), (14, .pv (.one (.int .u64))), (15, .pv (.one (.int .u64)))], [], []⟩
def bits_Div64_l17_enc0 : Int × Int × Int × Int × Int × Int × Int × Int → List U := fun r => [.i r.1, .i r.2.1, .i r.2.2.1, .i r.2.2.2.1, .i r.2.2.2.2.1, .i r.2.2.2.2.2.1, .i r.2.2.2.2.2.2.1, .i r.2.2.2.2.2.2.2]
def bits_Div64_l17_dec0 : List U → Option (Int × Int × Int × Int × Int × Int × Int × Int) := fun u => match u with | [.i x2, .i x8, .i x9, .i x10, .i x11, .i x13, .i x14, .i x15] => some (x2, x8, x9, x10, x11, x13, x14, x15) | _ => none
def bits_Div64_l17 (K : Nat) : Nat → Int → Int → Int → Int → Int → Int → Int → Int → Int → Option (Int × Int × Int × Int × Int × Int × Int × Int)
  | 0, _, _, _, _, _, _, _, _, _ => none
  | k + 1, x2, x8, x9, x10, x11, x13, x14, x15, x16 => (bi (decide (x15 ≥ 4294967296))
    (bi (decide (IntKind.u64.wrap (x16 + x9) ≥ 4294967296))
    (some ((x2, x8, x9, x10, x11, x13, x14, IntKind.u64.wrap (x15 - 1))))
    (bits_Div64_l17 K k (x2) (x8) (x9) (x10) (x11) (x13) (x14) (IntKind.u64.wrap (x15 - 1)) (IntKind.u64.wrap (x16 + x9))))
    (bi (decide (IntKind.u64.wrap (x15 * x10) > IntKind.u64.wrap (IntKind.u64.wrap (4294967296 * x16) + x13)))
    (bi (decide (IntKind.u64.wrap (x16 + x9) ≥ 4294967296))
    (some ((x2, x8, x9, x10, x11, x13, x14, IntKind.u64.wrap (x15 - 1))))
    (bits_Div64_l17 K k (x2) (x8) (x9) (x10) (x11) (x13) (x14) (IntKind.u64.wrap (x15 - 1)) (IntKind.u64.wrap (x16 + x9))))
    (some ((x2, x8, x9, x10, x11, x13, x14, x15)))))
def bits_Div64_l17_w (K k : Nat) : List U → Option (Int × Int × Int × Int × Int × Int × Int × Int) := fun us => match us with | [.i x2, .i x8, .i x9, .i x10, .i x11, .i x13, .i x14, .i x15, .i x16] => bits_Div64_l17 K k x2 x8 x9 x10 x11 x13 x14 x15 x16 | _ => none
theorem bits_Div64_l17_eq (K k : Nat) (x2 : Int) (x8 : Int) (x9 : Int) (x10 : Int) (x11 : Int) (x13 : Int) (x14 : Int) (x15 : Int) (x16 : Int) : (round1 Tryz.prog (env_bits_LeadingZeros64 K) (bits_Div64_v24 K) (lp (bodyOf Tryz.f26) 0) bits_Div64_l17_pre (.exit 0) bits_Div64_l17_post0 bits_Div64_l17_dec0 (bits_Div64_l17_w K k) [.i x2, .i x8, .i x9, .i x10, .i x11, .i x13, .i x14, .i x15, .i x16]).den2 = bits_Div64_l17 K (k + 1) x2 x8 x9 x10 x11 x13 x14 x15 x16 := by kernel_rfl
def bits_Div64_l17_s (K : Nat) : Vm.LS := .one bits_Div64_l17_pre _ (.exit 0) bits_Div64_l17_post0 (bits_Div64_l17_w K K) bits_Div64_l17_enc0
theorem bits_Div64_l17_ok (K : Nat) : LoopOk Tryz.prog (lp (bodyOf Tryz.f26) 0) (bits_Div64_l17_s K) := loop_one hmix (env_bits_LeadingZeros64_ok K) (lenv := bits_Div64_v24 K) (L := bits_Div64_l17_w K) (enc := bits_Div64_l17_enc0) (dec := bits_Div64_l17_dec0) (lps_ok (l := []) (by kernel_rfl) trivial) (fun u r h => by unfold bits_Div64_l17_dec0 at h; split at h; (cases h; rfl); cases h) (fun us => by unfold bits_Div64_l17_w; split <;> first | rfl | (simp only [bits_Div64_l17])) (fun k us r h => by unfold bits_Div64_l17_w at h; split at h; exact ((den2_eq _).symm.trans (bits_Div64_l17_eq K k _ _ _ _ _ _ _ _ _)).trans h; cases h) K
def bits_Div64_v17 (K : Nat) : Nat → Option Vm.LS := addL (bits_Div64_v24 K) 17 (bits_Div64_l17_s K)
def bits_Div64_dec : List U → Option (Int × Int) := fun u => match u with | [.i x0, .i x1] => some (x0, x1) | _ => none
def bits_Div64_enc : (Int × Int) → List U := fun r => [.i r.1, .i r.2]
def bits_Div64 (K : Nat) (x0 : Int) (x1 : Int) (x2 : Int) : Option (Int × Int) := (bi (x2 == 0)
    none
    (bi (decide (x2 ≤ x0))
    none
    (bi (x0 == 0)
    (bi (decide (x2 = 0))
    none
    (bi (decide (x2 = 0))
    none
    (some ((IntKind.u64.wrap (x1.tdiv x2), x1.tmod x2)))))
    ((bits_LeadingZeros64 K x2).bind fun r0 => (bi (decide (IntKind.u64.wrap r0 < 0))
    none
    (bi (decide (IntKind.u64.wrap r0 < 0))
    none
    (bi (decide (IntKind.u64.wrap (64 - IntKind.u64.wrap r0) < 0))
    none
    (bi (decide (IntKind.u64.wrap r0 < 0))
    none
    (bi (decide ((IntKind.u64.wrap (x2 * 2 ^ Min.min (IntKind.u64.wrap r0).toNat 64)).fdiv 4294967296 = 0))
    none
    ((bits_Div64_l17 K K
  (IntKind.u64.wrap (x2 * 2 ^ Min.min (IntKind.u64.wrap r0).toNat 64)) (IntKind.u64.wrap r0)
  ((IntKind.u64.wrap (x2 * 2 ^ Min.min (IntKind.u64.wrap r0).toNat 64)).fdiv 4294967296)
  (land IntKind.u64
    (IntKind.u64.wrap (x2 * 2 ^ Min.min (IntKind.u64.wrap r0).toNat 64)) 4294967295)
  (lor IntKind.u64
    (IntKind.u64.wrap (x0 * 2 ^ Min.min (IntKind.u64.wrap r0).toNat 64))
    (x1.fdiv (2 ^ Min.min (IntKind.u64.wrap (64 - IntKind.u64.wrap r0)).toNat 64)))
  ((IntKind.u64.wrap (x1 * 2 ^ Min.min (IntKind.u64.wrap r0).toNat 64)).fdiv 4294967296)
  (land IntKind.u64
    (IntKind.u64.wrap (x1 * 2 ^ Min.min (IntKind.u64.wrap r0).toNat 64)) 4294967295)
  (IntKind.u64.wrap
    ((lor IntKind.u64
          (IntKind.u64.wrap (x0 * 2 ^ Min.min (IntKind.u64.wrap r0).toNat 64))
          (x1.fdiv (2 ^ Min.min (IntKind.u64.wrap (64 - IntKind.u64.wrap r0)).toNat 64))).tdiv
      ((IntKind.u64.wrap (x2 * 2 ^ Min.min (IntKind.u64.wrap r0).toNat 64)).fdiv 4294967296)))
  (IntKind.u64.wrap
    (lor IntKind.u64
        (IntKind.u64.wrap (x0 * 2 ^ Min.min (IntKind.u64.wrap r0).toNat 64))
        (x1.fdiv (2 ^ Min.min (IntKind.u64.wrap (64 - IntKind.u64.wrap r0)).toNat 64)) -
      IntKind.u64.wrap
        (IntKind.u64.wrap
            ((lor IntKind.u64
                  (IntKind.u64.wrap (x0 * 2 ^ Min.min (IntKind.u64.wrap r0).toNat 64))
                  (x1.fdiv (2 ^ Min.min (IntKind.u64.wrap (64 - IntKind.u64.wrap r0)).toNat 64))).tdiv
              ((IntKind.u64.wrap (x2 * 2 ^ Min.min (IntKind.u64.wrap r0).toNat 64)).fdiv 4294967296)) *
          (IntKind.u64.wrap (x2 * 2 ^ Min.min (IntKind.u64.wrap r0).toNat 64)).fdiv 4294967296)))).bind fun r1 => (bi (decide (r1.snd.snd.fst = 0))
    none
    ((bits_Div64_l24 K K r1.fst r1.snd.fst r1.snd.snd.fst r1.snd.snd.snd.fst
  r1.snd.snd.snd.snd.snd.snd.fst r1.snd.snd.snd.snd.snd.snd.snd
  (IntKind.u64.wrap
    (IntKind.u64.wrap
        (IntKind.u64.wrap (IntKind.u64.wrap (r1.snd.snd.snd.snd.fst * 4294967296) + r1.snd.snd.snd.snd.snd.fst) -
          IntKind.u64.wrap (r1.snd.snd.snd.snd.snd.snd.snd * r1.fst)) -
      IntKind.u64.wrap
        (IntKind.u64.wrap
            ((IntKind.u64.wrap
                  (IntKind.u64.wrap
                      (IntKind.u64.wrap (r1.snd.snd.snd.snd.fst * 4294967296) + r1.snd.snd.snd.snd.snd.fst) -
                    IntKind.u64.wrap (r1.snd.snd.snd.snd.snd.snd.snd * r1.fst))).tdiv
              r1.snd.snd.fst) *
          r1.snd.snd.fst)))
  (IntKind.u64.wrap
    (IntKind.u64.wrap (IntKind.u64.wrap (r1.snd.snd.snd.snd.fst * 4294967296) + r1.snd.snd.snd.snd.snd.fst) -
      IntKind.u64.wrap (r1.snd.snd.snd.snd.snd.snd.snd * r1.fst)))
  (IntKind.u64.wrap
    ((IntKind.u64.wrap
          (IntKind.u64.wrap
              (IntKind.u64.wrap (r1.snd.snd.snd.snd.fst * 4294967296) + r1.snd.snd.snd.snd.snd.fst) -
            IntKind.u64.wrap (r1.snd.snd.snd.snd.snd.snd.snd * r1.fst))).tdiv
      r1.snd.snd.fst))).bind fun r2 => (bi (decide (r2.snd.fst < 0))
    none
    (some ((IntKind.u64.wrap (IntKind.u64.wrap (r2.snd.snd.snd.fst * 4294967296) + r2.snd.snd.snd.snd.snd),
  (IntKind.u64.wrap
        (IntKind.u64.wrap (IntKind.u64.wrap (r2.snd.snd.snd.snd.fst * 4294967296) + r2.snd.snd.fst) -
          IntKind.u64.wrap (r2.snd.snd.snd.snd.snd * r2.fst))).fdiv
    (2 ^ Min.min r2.snd.fst.toNat 64)))))))))))))))))
theorem bits_Div64_eq (K : Nat) (x0 : Int) (x1 : Int) (x2 : Int) : (runF Tryz.prog (env_bits_LeadingZeros64 K) (bits_Div64_v17 K) Tryz.f26 [.one (.int .u64), .one (.int .u64), .one (.int .u64)] [.one (.int .u64), .one (.int .u64)] bits_Div64_dec [.i x0, .i x1, .i x2]).den2 = bits_Div64 K x0 x1 x2 := by kernel_rfl
def bits_Div64_w (K : Nat) : List U → Option (Int × Int) := fun us => match us with | [.i x0, .i x1, .i x2] => bits_Div64 K x0 x1 x2 | _ => none
def bits_Div64_spec (K : Nat) : Vm.Spec := ⟨[.one (.int .u64), .one (.int .u64), .one (.int .u64)], [.one (.int .u64), .one (.int .u64)], Int × Int, bits_Div64_w K, bits_Div64_enc⟩
theorem bits_Div64_ok (K : Nat) : FnOk Tryz.prog 26 (bits_Div64_spec K) := fn_ok' hmix (env_bits_LeadingZeros64_ok K) (lenv := bits_Div64_v17 K) (args := [.one (.int .u64), .one (.int .u64), .one (.int .u64)]) (res := [.one (.int .u64), .one (.int .u64)]) (G := bits_Div64_w K) (enc := bits_Div64_enc) Tryz.func26 (lps_fn (l := [lp (bodyOf Tryz.f26) 0, lp (bodyOf Tryz.f26) 1]) (by kernel_rfl) ⟨⟨17, bits_Div64_l17_s K, by kernel_rfl, by kernel_rfl, bits_Div64_l17_ok K⟩, ⟨⟨24, bits_Div64_l24_s K, by kernel_rfl, by kernel_rfl, bits_Div64_l24_ok K⟩, trivial⟩⟩) (dec := bits_Div64_dec) (fun u r h => by unfold bits_Div64_dec at h; split at h; (cases h; rfl); cases h) (fun us r h => by unfold bits_Div64_w at h; split at h; exact ((den2_eq _).symm.trans (bits_Div64_eq K _ _ _)).trans h; cases h)
def env_bits_Div64 (K : Nat) : FuncId → Option Vm.Spec := addS (env_bits_LeadingZeros64 K) 26 (bits_Div64_spec K)
theorem env_bits_Div64_ok (K : Nat) : EnvOk Tryz.prog (env_bits_Div64 K) := addS_ok (env_bits_LeadingZeros64_ok K) (.inl ⟨callable Tryz.func26 (by kernel_rfl) (by kernel_rfl), bits_Div64_ok K⟩)
def digits_size_dec : List U → Option (Int × Int) := fun u => match u with | [.i x0, .i x1] => some (x0, x1) | _ => none
def digits_size_enc : (Int × Int) → List U := fun r => [.i r.1, .i r.2]
def digits_size (K : Nat) (x0_0 : Int) (x0_1 : Int) (x0_2 : Int) : Option (Int × Int) := (bi (decide (x0_0 ≥ 0))
    (some ((IntKind.u64.wrap x0_0, x0_1)))
    (bi (IntKind.u64.wrap (0 - x0_1) == 0)
    (some ((IntKind.u64.wrap
    (lxor IntKind.u64 18446744073709551615 (IntKind.u64.wrap x0_0) + 1),
  IntKind.u64.wrap (0 - x0_1))))
    (some ((lxor IntKind.u64 18446744073709551615 (IntKind.u64.wrap x0_0),
  IntKind.u64.wrap (0 - x0_1))))))
theorem digits_size_eq (K : Nat) (x0_0 : Int) (x0_1 : Int) (x0_2 : Int) : (runF Tryz.prog (env_bits_Div64 K) (lenv0) Tryz.f32 [.agg [.int .i64, .int .u64, .int .i64]] [.one (.int .u64), .one (.int .u64)] digits_size_dec [.i x0_0, .i x0_1, .i x0_2]).den2 = digits_size K x0_0 x0_1 x0_2 := by kernel_rfl
def digits_size_w (K : Nat) : List U → Option (Int × Int) := fun us => match us with | [.i x0_0, .i x0_1, .i x0_2] => digits_size K x0_0 x0_1 x0_2 | _ => none
def digits_size_spec (K : Nat) : Vm.Spec := ⟨[.agg [.int .i64, .int .u64, .int .i64]], [.one (.int .u64), .one (.int .u64)], Int × Int, digits_size_w K, digits_size_enc⟩
theorem digits_size_ok (K : Nat) : FnOk Tryz.prog 32 (digits_size_spec K) := fn_ok' hmix (env_bits_Div64_ok K) (lenv := lenv0) (args := [.agg [.int .i64, .int .u64, .int .i64]]) (res := [.one (.int .u64), .one (.int .u64)]) (G := digits_size_w K) (enc := digits_size_enc) Tryz.func32 (lps_fn (l := []) (by kernel_rfl) trivial) (dec := digits_size_dec) (fun u r h => by unfold digits_size_dec at h; split at h; (cases h; rfl); cases h) (fun us r h => by unfold digits_size_w at h; split at h; exact ((den2_eq _).symm.trans (digits_size_eq K _ _ _)).trans h; cases h)
def env_digits_size (K : Nat) : FuncId → Option Vm.Spec := addS (env_bits_Div64 K) 32 (digits_size_spec K)
theorem env_digits_size_ok (K : Nat) : EnvOk Tryz.prog (env_digits_size K) := addS_ok (env_bits_Div64_ok K) (.inl ⟨callable Tryz.func32 (by kernel_rfl) (by kernel_rfl), digits_size_ok K⟩)
def digits_Write_l18_pre : Vm.Pat := ⟨95, [(7, .pv (.one (.row .u8 true))), (10, .pv (.one (.int .i64))), (11, .pv (.one (.int .i64)))], [], []⟩
def digits_Write_l18_post0 : Vm.Pat := ⟨95, [(7, .pv (.one (.row .u8 true)))], [], []⟩
def digits_Write_l18_enc0 : List Int → List U := fun r => [.r r]
def digits_Write_l18_dec0 : List U → Option (List Int) := fun u => match u with | [.r l7] => some (l7) | _ => none
def digits_Write_l18 (K : Nat) : Nat → List Int → Int → Int → Option (List Int)
  | 0, _, _, _ => none
  | k + 1, l7, x10, x11 => (bi (decide (x10 < x11))
    (bi (decide (0 ≤ x11) && decide (x11 < (↑l7.length : Int)))
    (bi (decide (0 ≤ x10) && decide (x10 < (↑l7.length : Int)))
    (bi (decide (0 ≤ x10) && decide (x10 < (↑l7.length : Int)))
    (bi (decide (0 ≤ x11) &&
  decide
    (x11 < (↑(l7.set x10.toNat (nth 0 l7 x11.toNat)).length : Int)))
    (digits_Write_l18 K k ((l7.set x10.toNat (nth 0 l7 x11.toNat)).set x11.toNat
  (nth 0 l7 x10.toNat)) (IntKind.i64.wrap (x10 + 1)) (IntKind.i64.wrap (x11 - 1)))
    none)
    none)
    none)
    none)
    (some l7))
def digits_Write_l18_w (K k : Nat) : List U → Option (List Int) := fun us => match us with | [.r l7, .i x10, .i x11] => digits_Write_l18 K k l7 x10 x11 | _ => none
theorem digits_Write_l18_eq (K k : Nat) (l7 : List Int) (x10 : Int) (x11 : Int) : (round1 Tryz.prog (env_digits_size K) (lenv0) (lp (bodyOf Tryz.f12) 1) digits_Write_l18_pre (.exit 2) digits_Write_l18_post0 digits_Write_l18_dec0 (digits_Write_l18_w K k) [.r l7, .i x10, .i x11]).den2 = digits_Write_l18 K (k + 1) l7 x10 x11 := by kernel_rfl
def digits_Write_l18_s (K : Nat) : Vm.LS := .one digits_Write_l18_pre _ (.exit 2) digits_Write_l18_post0 (digits_Write_l18_w K K) digits_Write_l18_enc0
theorem digits_Write_l18_ok (K : Nat) : LoopOk Tryz.prog (lp (bodyOf Tryz.f12) 1) (digits_Write_l18_s K) := loop_one hmix (env_digits_size_ok K) (lenv := lenv0) (L := digits_Write_l18_w K) (enc := digits_Write_l18_enc0) (dec := digits_Write_l18_dec0) (lps_ok (l := []) (by kernel_rfl) trivial) (fun u r h => by unfold digits_Write_l18_dec0 at h; split at h; (cases h; rfl); cases h) (fun us => by unfold digits_Write_l18_w; split <;> first | rfl | (simp only [digits_Write_l18])) (fun k us r h => by unfold digits_Write_l18_w at h; split at h; exact ((den2_eq _).symm.trans (digits_Write_l18_eq K k _ _ _)).trans h; cases h) K
def digits_Write_v18 (K : Nat) : Nat → Option Vm.LS := addL (lenv0) 18 (digits_Write_l18_s K)
def digits_Write_l7_pre : Vm.Pat := ⟨95, [(5, .pv (.one (.int .u64))), (6, .pv (.one (.int .u64))), (7, .pv (.one (.row .u8 true))), (8, .pv (.one (.int .i64))), (1, .box 0 0)], [.cells [.int .i64, .int .u64, .int .i64]], []⟩
def digits_Write_l7_post0 : Vm.Pat := ⟨95, [(7, .pv (.one (.row .u8 true))), (1, .box 0 0)], [.cells [.int .i64, .int .u64, .int .i64]], []⟩
def digits_Write_l7_enc0 : List Int × Int × Int × Int → List U := fun r => [.r r.1, .i r.2.1, .i r.2.2.1, .i r.2.2.2]
def digits_Write_l7_dec0 : List U → Option (List Int × Int × Int × Int) := fun u => match u with | [.r l7, .i x1_0, .i x1_1, .i x1_2] => some (l7, x1_0, x1_1, x1_2) | _ => none
def digits_Write_l7 (K : Nat) : Nat → Int → Int → List Int → Int → Int → Int → Int → Option (List Int × Int × Int × Int)
  | 0, _, _, _, _, _, _, _ => none
  | k + 1, x5, x6, l7, x8, x1_0, x1_1, x1_2 => (bi (decide (x5 > 0))
    (bi (x8 == x1_2)
    (bi (decide (x8 > 0))
    (bi (decide (l7.length + 1 ≤ 8796093022208))
    ((bits_Div64 K (x5.tmod 10) x6 10).bind fun r0 => (bi (decide ((l7 ++ [46]).length + 1 ≤ 8796093022208))
    (digits_Write_l7 K k (IntKind.u64.wrap (x5.tdiv 10)) (r0.fst) (l7 ++ [46] ++ [IntKind.u8.wrap (IntKind.u64.wrap (48 + r0.snd))]) (IntKind.i64.wrap (x8 + 1)) (x1_0) (x1_1) (x1_2))
    none))
    none)
    ((bits_Div64 K (x5.tmod 10) x6 10).bind fun r1 => (bi (decide (l7.length + 1 ≤ 8796093022208))
    (digits_Write_l7 K k (IntKind.u64.wrap (x5.tdiv 10)) (r1.fst) (l7 ++ [IntKind.u8.wrap (IntKind.u64.wrap (48 + r1.snd))]) (IntKind.i64.wrap (x8 + 1)) (x1_0) (x1_1) (x1_2))
    none)))
    ((bits_Div64 K (x5.tmod 10) x6 10).bind fun r2 => (bi (decide (l7.length + 1 ≤ 8796093022208))
    (digits_Write_l7 K k (IntKind.u64.wrap (x5.tdiv 10)) (r2.fst) (l7 ++ [IntKind.u8.wrap (IntKind.u64.wrap (48 + r2.snd))]) (IntKind.i64.wrap (x8 + 1)) (x1_0) (x1_1) (x1_2))
    none)))
    (bi (decide (x6 > 0))
    (bi (x8 == x1_2)
    (bi (decide (x8 > 0))
    (bi (decide (l7.length + 1 ≤ 8796093022208))
    ((bits_Div64 K (x5.tmod 10) x6 10).bind fun r3 => (bi (decide ((l7 ++ [46]).length + 1 ≤ 8796093022208))
    (digits_Write_l7 K k (IntKind.u64.wrap (x5.tdiv 10)) (r3.fst) (l7 ++ [46] ++ [IntKind.u8.wrap (IntKind.u64.wrap (48 + r3.snd))]) (IntKind.i64.wrap (x8 + 1)) (x1_0) (x1_1) (x1_2))
    none))
    none)
    ((bits_Div64 K (x5.tmod 10) x6 10).bind fun r4 => (bi (decide (l7.length + 1 ≤ 8796093022208))
    (digits_Write_l7 K k (IntKind.u64.wrap (x5.tdiv 10)) (r4.fst) (l7 ++ [IntKind.u8.wrap (IntKind.u64.wrap (48 + r4.snd))]) (IntKind.i64.wrap (x8 + 1)) (x1_0) (x1_1) (x1_2))
    none)))
    ((bits_Div64 K (x5.tmod 10) x6 10).bind fun r5 => (bi (decide (l7.length + 1 ≤ 8796093022208))
    (digits_Write_l7 K k (IntKind.u64.wrap (x5.tdiv 10)) (r5.fst) (l7 ++ [IntKind.u8.wrap (IntKind.u64.wrap (48 + r5.snd))]) (IntKind.i64.wrap (x8 + 1)) (x1_0) (x1_1) (x1_2))
    none)))
    (bi (decide (x8 ≤ x1_2))
    (bi (x8 == x1_2)
    (bi (decide (x8 > 0))
    (bi (decide (l7.length + 1 ≤ 8796093022208))
    ((bits_Div64 K (x5.tmod 10) x6 10).bind fun r6 => (bi (decide ((l7 ++ [46]).length + 1 ≤ 8796093022208))
    (digits_Write_l7 K k (IntKind.u64.wrap (x5.tdiv 10)) (r6.fst) (l7 ++ [46] ++ [IntKind.u8.wrap (IntKind.u64.wrap (48 + r6.snd))]) (IntKind.i64.wrap (x8 + 1)) (x1_0) (x1_1) (x1_2))
    none))
    none)
    ((bits_Div64 K (x5.tmod 10) x6 10).bind fun r7 => (bi (decide (l7.length + 1 ≤ 8796093022208))
    (digits_Write_l7 K k (IntKind.u64.wrap (x5.tdiv 10)) (r7.fst) (l7 ++ [IntKind.u8.wrap (IntKind.u64.wrap (48 + r7.snd))]) (IntKind.i64.wrap (x8 + 1)) (x1_0) (x1_1) (x1_2))
    none)))
    ((bits_Div64 K (x5.tmod 10) x6 10).bind fun r8 => (bi (decide (l7.length + 1 ≤ 8796093022208))
    (digits_Write_l7 K k (IntKind.u64.wrap (x5.tdiv 10)) (r8.fst) (l7 ++ [IntKind.u8.wrap (IntKind.u64.wrap (48 + r8.snd))]) (IntKind.i64.wrap (x8 + 1)) (x1_0) (x1_1) (x1_2))
    none)))
    (some ((l7, x1_0, x1_1, x1_2))))))
def digits_Write_l7_w (K k : Nat) : List U → Option (List Int × Int × Int × Int) := fun us => match us with | [.i x5, .i x6, .r l7, .i x8, .i x1_0, .i x1_1, .i x1_2] => digits_Write_l7 K k x5 x6 l7 x8 x1_0 x1_1 x1_2 | _ => none
theorem digits_Write_l7_eq (K k : Nat) (x5 : Int) (x6 : Int) (l7 : List Int) (x8 : Int) (x1_0 : Int) (x1_1 : Int) (x1_2 : Int) : (round1 Tryz.prog (env_digits_size K) (digits_Write_v18 K) (lp (bodyOf Tryz.f12) 0) digits_Write_l7_pre (.exit 0) digits_Write_l7_post0 digits_Write_l7_dec0 (digits_Write_l7_w K k) [.i x5, .i x6, .r l7, .i x8, .i x1_0, .i x1_1, .i x1_2]).den2 = digits_Write_l7 K (k + 1) x5 x6 l7 x8 x1_0 x1_1 x1_2 := by kernel_rfl
def digits_Write_l7_s (K : Nat) : Vm.LS := .one digits_Write_l7_pre _ (.exit 0) digits_Write_l7_post0 (digits_Write_l7_w K K) digits_Write_l7_enc0
theorem digits_Write_l7_ok (K : Nat) : LoopOk Tryz.prog (lp (bodyOf Tryz.f12) 0) (digits_Write_l7_s K) := loop_one hmix (env_digits_size_ok K) (lenv := digits_Write_v18 K) (L := digits_Write_l7_w K) (enc := digits_Write_l7_enc0) (dec := digits_Write_l7_dec0) (lps_ok (l := []) (by kernel_rfl) trivial) (fun u r h => by unfold digits_Write_l7_dec0 at h; split at h; (cases h; rfl); cases h) (fun us => by unfold digits_Write_l7_w; split <;> first | rfl | (simp only [digits_Write_l7])) (fun k us r h => by unfold digits_Write_l7_w at h; split at h; exact ((den2_eq _).symm.trans (digits_Write_l7_eq K k _ _ _ _ _ _ _)).trans h; cases h) K
def digits_Write_v7 (K : Nat) : Nat → Option Vm.LS := addL (digits_Write_v18 K) 7 (digits_Write_l7_s K)
def digits_Write_dec : List U → Option (ByteArray × Int) := fun u => match u with | [.s s0, .i x1] => some (s0, x1) | _ => none
def digits_Write_enc : (ByteArray × Int) → List U := fun r => [.s r.1, .i r.2]
def digits_Write (K : Nat) (x0_0 : Int) (x0_1 : Int) (x0_2 : Int) : Option (ByteArray × Int) := ((dec_Check K x0_0 x0_1 x0_2).bind fun r0 => (bi (r0 != 0)
    (some (({ data := #[] }, r0)))
    ((digits_size K x0_0 x0_1 x0_2).bind fun r1 => ((digits_Write_l7 K K r1.fst r1.snd [] 0 x0_0 x0_1 x0_2).bind fun r2 => (bi (decide (r2.snd.fst < 0))
    (bi (decide (r2.fst.length + 1 ≤ 8796093022208))
    ((digits_Write_l18 K K (r2.fst ++ [45]) 0
  (IntKind.i64.wrap ((↑(r2.fst ++ [45]).length : Int) - 1))).bind fun r3 => (some ((strOf r3, 0))))
    none)
    ((digits_Write_l18 K K r2.fst 0 (IntKind.i64.wrap ((↑r2.fst.length : Int) - 1))).bind fun r4 => (some ((strOf r4, 0)))))))))
theorem digits_Write_eq (K : Nat) (x0_0 : Int) (x0_1 : Int) (x0_2 : Int) : (runF Tryz.prog (env_digits_size K) (digits_Write_v7 K) Tryz.f12 [.agg [.int .i64, .int .u64, .int .i64]] [.one (.str), .one (.int .i64)] digits_Write_dec [.i x0_0, .i x0_1, .i x0_2]).den2 = digits_Write K x0_0 x0_1 x0_2 := by kernel_rfl
def digits_Write_w (K : Nat) : List U → Option (ByteArray × Int) := fun us => match us with | [.i x0_0, .i x0_1, .i x0_2] => digits_Write K x0_0 x0_1 x0_2 | _ => none
def digits_Write_spec (K : Nat) : Vm.Spec := ⟨[.agg [.int .i64, .int .u64, .int .i64]], [.one (.str), .one (.int .i64)], ByteArray × Int, digits_Write_w K, digits_Write_enc⟩
theorem digits_Write_ok (K : Nat) : FnOk Tryz.prog 12 (digits_Write_spec K) := fn_ok' hmix (env_digits_size_ok K) (lenv := digits_Write_v7 K) (args := [.agg [.int .i64, .int .u64, .int .i64]]) (res := [.one (.str), .one (.int .i64)]) (G := digits_Write_w K) (enc := digits_Write_enc) Tryz.func12 (lps_fn (l := [lp (bodyOf Tryz.f12) 0, lp (bodyOf Tryz.f12) 1]) (by kernel_rfl) ⟨⟨7, digits_Write_l7_s K, by kernel_rfl, by kernel_rfl, digits_Write_l7_ok K⟩, ⟨⟨18, digits_Write_l18_s K, by kernel_rfl, by kernel_rfl, digits_Write_l18_ok K⟩, trivial⟩⟩) (dec := digits_Write_dec) (fun u r h => by unfold digits_Write_dec at h; split at h; (cases h; rfl); cases h) (fun us r h => by unfold digits_Write_w at h; split at h; exact ((den2_eq _).symm.trans (digits_Write_eq K _ _ _)).trans h; cases h)
def env_digits_Write (K : Nat) : FuncId → Option Vm.Spec := addS (env_digits_size K) 12 (digits_Write_spec K)
theorem env_digits_Write_ok (K : Nat) : EnvOk Tryz.prog (env_digits_Write K) := addS_ok (env_digits_size_ok K) (.inl ⟨callable Tryz.func12 (by kernel_rfl) (by kernel_rfl), digits_Write_ok K⟩)
def strings_trimLeftByte_l1_pre : Vm.Pat := ⟨17, [(0, .pv (.one (.str))), (1, .pv (.one (.int .u8)))], [], []⟩
def strings_trimLeftByte_l1_post0 : Vm.Pat := ⟨17, [(0, .pv (.one (.str)))], [], []⟩
def strings_trimLeftByte_l1_enc0 : ByteArray → List U := fun r => [.s r]
def strings_trimLeftByte_l1_dec0 : List U → Option (ByteArray) := fun u => match u with | [.s s0] => some (s0) | _ => none
def strings_trimLeftByte_l1 (K : Nat) : Nat → ByteArray → Int → Option (ByteArray)
  | 0, _, _ => none
  | k + 1, s0, x1 => (bi (decide ((↑s0.size : Int) > 0))
    (bi (Bool.true && decide (0 < (↑s0.size : Int)))
    (bi (bt s0 0 == x1)
    (bi (Bool.true && decide (1 ≤ (↑s0.size : Int)) && decide ((↑s0.size : Int) ≤ (↑s0.size : Int)))
    (strings_trimLeftByte_l1 K k (s0.extract 1 (↑s0.size : Int).toNat) (x1))
    none)
    (some s0))
    none)
    (some s0))
def strings_trimLeftByte_l1_w (K k : Nat) : List U → Option (ByteArray) := fun us => match us with | [.s s0, .i x1] => strings_trimLeftByte_l1 K k s0 x1 | _ => none
theorem strings_trimLeftByte_l1_eq (K k : Nat) (s0 : ByteArray) (x1 : Int) : (round1 Tryz.prog (env_digits_Write K) (lenv0) (lp (bodyOf Tryz.f80) 0) strings_trimLeftByte_l1_pre (.exit 0) strings_trimLeftByte_l1_post0 strings_trimLeftByte_l1_dec0 (strings_trimLeftByte_l1_w K k) [.s s0, .i x1]).den2 = strings_trimLeftByte_l1 K (k + 1) s0 x1 := by kernel_rfl
def strings_trimLeftByte_l1_s (K : Nat) : Vm.LS := .one strings_trimLeftByte_l1_pre _ (.exit 0) strings_trimLeftByte_l1_post0 (strings_trimLeftByte_l1_w K K) strings_trimLeftByte_l1_enc0
theorem strings_trimLeftByte_l1_ok (K : Nat) : LoopOk Tryz.prog (lp (bodyOf Tryz.f80) 0) (strings_trimLeftByte_l1_s K) := loop_one hmix (env_digits_Write_ok K) (lenv := lenv0) (L := strings_trimLeftByte_l1_w K) (enc := strings_trimLeftByte_l1_enc0) (dec := strings_trimLeftByte_l1_dec0) (lps_ok (l := []) (by kernel_rfl) trivial) (fun u r h => by unfold strings_trimLeftByte_l1_dec0 at h; split at h; (cases h; rfl); cases h) (fun us => by unfold strings_trimLeftByte_l1_w; split <;> first | rfl | (simp only [strings_trimLeftByte_l1])) (fun k us r h => by unfold strings_trimLeftByte_l1_w at h; split at h; exact ((den2_eq _).symm.trans (strings_trimLeftByte_l1_eq K k _ _)).trans h; cases h) K
def strings_trimLeftByte_v1 (K : Nat) : Nat → Option Vm.LS := addL (lenv0) 1 (strings_trimLeftByte_l1_s K)
def strings_trimLeftByte_dec : List U → Option (ByteArray) := fun u => match u with | [.s s0] => some (s0) | _ => none
def strings_trimLeftByte_enc : (ByteArray) → List U := fun r => [.s r]
def strings_trimLeftByte (K : Nat) (s0 : ByteArray) (x1 : Int) : Option (ByteArray) := ((strings_trimLeftByte_l1 K K s0 x1).bind fun r0 => (some r0))
theorem strings_trimLeftByte_eq (K : Nat) (s0 : ByteArray) (x1 : Int) : (runF Tryz.prog (env_digits_Write K) (strings_trimLeftByte_v1 K) Tryz.f80 [.one (.str), .one (.int .u8)] [.one (.str)] strings_trimLeftByte_dec [.s s0, .i x1]).den2 = strings_trimLeftByte K s0 x1 := by kernel_rfl
def strings_trimLeftByte_w (K : Nat) : List U → Option (ByteArray) := fun us => match us with | [.s s0, .i x1] => strings_trimLeftByte K s0 x1 | _ => none
def strings_trimLeftByte_spec (K : Nat) : Vm.Spec := ⟨[.one (.str), .one (.int .u8)], [.one (.str)], ByteArray, strings_trimLeftByte_w K, strings_trimLeftByte_enc⟩
theorem strings_trimLeftByte_ok (K : Nat) : FnOk Tryz.prog 80 (strings_trimLeftByte_spec K) := fn_ok' hmix (env_digits_Write_ok K) (lenv := strings_trimLeftByte_v1 K) (args := [.one (.str), .one (.int .u8)]) (res := [.one (.str)]) (G := strings_trimLeftByte_w K) (enc := strings_trimLeftByte_enc) Tryz.func80 (lps_fn (l := [lp (bodyOf Tryz.f80) 0]) (by kernel_rfl) ⟨⟨1, strings_trimLeftByte_l1_s K, by kernel_rfl, by kernel_rfl, strings_trimLeftByte_l1_ok K⟩, trivial⟩) (dec := strings_trimLeftByte_dec) (fun u r h => by unfold strings_trimLeftByte_dec at h; split at h; (cases h; rfl); cases h) (fun us r h => by unfold strings_trimLeftByte_w at h; split at h; exact ((den2_eq _).symm.trans (strings_trimLeftByte_eq K _ _)).trans h; cases h)
def env_strings_trimLeftByte (K : Nat) : FuncId → Option Vm.Spec := addS (env_digits_Write K) 80 (strings_trimLeftByte_spec K)
theorem env_strings_trimLeftByte_ok (K : Nat) : EnvOk Tryz.prog (env_strings_trimLeftByte K) := addS_ok (env_digits_Write_ok K) (.inl ⟨callable Tryz.func80 (by kernel_rfl) (by kernel_rfl), strings_trimLeftByte_ok K⟩)
def strings_trimRightByte_l1_pre : Vm.Pat := ⟨23, [(0, .pv (.one (.str))), (1, .pv (.one (.int .u8)))], [], []⟩
def strings_trimRightByte_l1_post0 : Vm.Pat := ⟨23, [(0, .pv (.one (.str)))], [], []⟩
def strings_trimRightByte_l1_enc0 : ByteArray → List U := fun r => [.s r]
def strings_trimRightByte_l1_dec0 : List U → Option (ByteArray) := fun u => match u with | [.s s0] => some (s0) | _ => none
def strings_trimRightByte_l1 (K : Nat) : Nat → ByteArray → Int → Option (ByteArray)
  | 0, _, _ => none
  | k + 1, s0, x1 => (bi (decide ((↑s0.size : Int) > 0))
    (bi (decide (0 ≤ IntKind.i64.wrap ((↑s0.size : Int) - 1)) &&
  decide (IntKind.i64.wrap ((↑s0.size : Int) - 1) < (↑s0.size : Int)))
    (bi (bt s0 (IntKind.i64.wrap ((↑s0.size : Int) - 1)) == x1)
    (bi (Bool.true && decide (0 ≤ IntKind.i64.wrap ((↑s0.size : Int) - 1)) &&
  decide (IntKind.i64.wrap ((↑s0.size : Int) - 1) ≤ (↑s0.size : Int)))
    (strings_trimRightByte_l1 K k (s0.extract 0 (IntKind.i64.wrap ((↑s0.size : Int) - 1)).toNat) (x1))
    none)
    (some s0))
    none)
    (some s0))
def strings_trimRightByte_l1_w (K k : Nat) : List U → Option (ByteArray) := fun us => match us with | [.s s0, .i x1] => strings_trimRightByte_l1 K k s0 x1 | _ => none
theorem strings_trimRightByte_l1_eq (K k : Nat) (s0 : ByteArray) (x1 : Int) : (round1 Tryz.prog (env_strings_trimLeftByte K) (lenv0) (lp (bodyOf Tryz.f81) 0) strings_trimRightByte_l1_pre (.exit 0) strings_trimRightByte_l1_post0 strings_trimRightByte_l1_dec0 (strings_trimRightByte_l1_w K k) [.s s0, .i x1]).den2 = strings_trimRightByte_l1 K (k + 1) s0 x1 := by kernel_rfl
def strings_trimRightByte_l1_s (K : Nat) : Vm.LS := .one strings_trimRightByte_l1_pre _ (.exit 0) strings_trimRightByte_l1_post0 (strings_trimRightByte_l1_w K K) strings_trimRightByte_l1_enc0
theorem strings_trimRightByte_l1_ok (K : Nat) : LoopOk Tryz.prog (lp (bodyOf Tryz.f81) 0) (strings_trimRightByte_l1_s K) := loop_one hmix (env_strings_trimLeftByte_ok K) (lenv := lenv0) (L := strings_trimRightByte_l1_w K) (enc := strings_trimRightByte_l1_enc0) (dec := strings_trimRightByte_l1_dec0) (lps_ok (l := []) (by kernel_rfl) trivial) (fun u r h => by unfold strings_trimRightByte_l1_dec0 at h; split at h; (cases h; rfl); cases h) (fun us => by unfold strings_trimRightByte_l1_w; split <;> first | rfl | (simp only [strings_trimRightByte_l1])) (fun k us r h => by unfold strings_trimRightByte_l1_w at h; split at h; exact ((den2_eq _).symm.trans (strings_trimRightByte_l1_eq K k _ _)).trans h; cases h) K
def strings_trimRightByte_v1 (K : Nat) : Nat → Option Vm.LS := addL (lenv0) 1 (strings_trimRightByte_l1_s K)
def strings_trimRightByte_dec : List U → Option (ByteArray) := fun u => match u with | [.s s0] => some (s0) | _ => none
def strings_trimRightByte_enc : (ByteArray) → List U := fun r => [.s r]
def strings_trimRightByte (K : Nat) (s0 : ByteArray) (x1 : Int) : Option (ByteArray) := ((strings_trimRightByte_l1 K K s0 x1).bind fun r0 => (some r0))
theorem strings_trimRightByte_eq (K : Nat) (s0 : ByteArray) (x1 : Int) : (runF Tryz.prog (env_strings_trimLeftByte K) (strings_trimRightByte_v1 K) Tryz.f81 [.one (.str), .one (.int .u8)] [.one (.str)] strings_trimRightByte_dec [.s s0, .i x1]).den2 = strings_trimRightByte K s0 x1 := by kernel_rfl
def strings_trimRightByte_w (K : Nat) : List U → Option (ByteArray) := fun us => match us with | [.s s0, .i x1] => strings_trimRightByte K s0 x1 | _ => none
def strings_trimRightByte_spec (K : Nat) : Vm.Spec := ⟨[.one (.str), .one (.int .u8)], [.one (.str)], ByteArray, strings_trimRightByte_w K, strings_trimRightByte_enc⟩
theorem strings_trimRightByte_ok (K : Nat) : FnOk Tryz.prog 81 (strings_trimRightByte_spec K) := fn_ok' hmix (env_strings_trimLeftByte_ok K) (lenv := strings_trimRightByte_v1 K) (args := [.one (.str), .one (.int .u8)]) (res := [.one (.str)]) (G := strings_trimRightByte_w K) (enc := strings_trimRightByte_enc) Tryz.func81 (lps_fn (l := [lp (bodyOf Tryz.f81) 0]) (by kernel_rfl) ⟨⟨1, strings_trimRightByte_l1_s K, by kernel_rfl, by kernel_rfl, strings_trimRightByte_l1_ok K⟩, trivial⟩) (dec := strings_trimRightByte_dec) (fun u r h => by unfold strings_trimRightByte_dec at h; split at h; (cases h; rfl); cases h) (fun us r h => by unfold strings_trimRightByte_w at h; split at h; exact ((den2_eq _).symm.trans (strings_trimRightByte_eq K _ _)).trans h; cases h)
def env_strings_trimRightByte (K : Nat) : FuncId → Option Vm.Spec := addS (env_strings_trimLeftByte K) 81 (strings_trimRightByte_spec K)
theorem env_strings_trimRightByte_ok (K : Nat) : EnvOk Tryz.prog (env_strings_trimRightByte K) := addS_ok (env_strings_trimLeftByte_ok K) (.inl ⟨callable Tryz.func81 (by kernel_rfl) (by kernel_rfl), strings_trimRightByte_ok K⟩)
def strings_Trim_dec : List U → Option (ByteArray) := fun u => match u with | [.s s0] => some (s0) | _ => none
def strings_Trim_enc : (ByteArray) → List U := fun r => [.s r]
def strings_Trim (K : Nat) (s0 : ByteArray) (s1 : ByteArray) : Option (ByteArray) := (bi (sEq s0 { data := #[] })
    (some s0)
    (bi (sEq s1 { data := #[] })
    (some s0)
    (bi ((↑s1.size : Int) == 1)
    (bi (Bool.true && decide (0 < (↑s1.size : Int)))
    (bi (decide (bt s1 0 < 128))
    (bi (Bool.true && decide (0 < (↑s1.size : Int)))
    ((strings_trimRightByte K s0 (bt s1 0)).bind fun r0 => (bi (Bool.true && decide (0 < (↑s1.size : Int)))
    ((strings_trimLeftByte K r0 (bt s1 0)).bind fun r1 => (some r1))
    none))
    none)
    none)
    none)
    none)))
theorem strings_Trim_eq (K : Nat) (s0 : ByteArray) (s1 : ByteArray) : (runF Tryz.prog (env_strings_trimRightByte K) (lenv0) Tryz.f68 [.one (.str), .one (.str)] [.one (.str)] strings_Trim_dec [.s s0, .s s1]).den2 = strings_Trim K s0 s1 := by kernel_rfl
def strings_Trim_w (K : Nat) : List U → Option (ByteArray) := fun us => match us with | [.s s0, .s s1] => strings_Trim K s0 s1 | _ => none
def strings_Trim_spec (K : Nat) : Vm.Spec := ⟨[.one (.str), .one (.str)], [.one (.str)], ByteArray, strings_Trim_w K, strings_Trim_enc⟩
theorem strings_Trim_ok (K : Nat) : FnOk Tryz.prog 68 (strings_Trim_spec K) := fn_ok' hmix (env_strings_trimRightByte_ok K) (lenv := lenv0) (args := [.one (.str), .one (.str)]) (res := [.one (.str)]) (G := strings_Trim_w K) (enc := strings_Trim_enc) Tryz.func68 (lps_fn (l := []) (by kernel_rfl) trivial) (dec := strings_Trim_dec) (fun u r h => by unfold strings_Trim_dec at h; split at h; (cases h; rfl); cases h) (fun us r h => by unfold strings_Trim_w at h; split at h; exact ((den2_eq _).symm.trans (strings_Trim_eq K _ _)).trans h; cases h)
def env_strings_Trim (K : Nat) : FuncId → Option Vm.Spec := addS (env_strings_trimRightByte K) 68 (strings_Trim_spec K)
theorem env_strings_Trim_ok (K : Nat) : EnvOk Tryz.prog (env_strings_Trim K) := addS_ok (env_strings_trimRightByte_ok K) (.inl ⟨callable Tryz.func68 (by kernel_rfl) (by kernel_rfl), strings_Trim_ok K⟩)
def _digits_reader_is_dec : List U → Option (Bool × ByteArray × Int) := fun u => match u with | [.b c0, .s s1_0, .i x1_1] => some (c0, s1_0, x1_1) | _ => none
def _digits_reader_is_enc : (Bool × ByteArray × Int) → List U := fun r => [.b r.1, .s r.2.1, .i r.2.2]
def _digits_reader_is (K : Nat) (s0_0 : ByteArray) (x0_1 : Int) (x1 : Int) : Option (Bool × ByteArray × Int) := (bi (decide (x0_1 < (↑s0_0.size : Int)))
    (bi (decide (0 ≤ x0_1) && decide (x0_1 < (↑s0_0.size : Int)))
    (bi (bt s0_0 x0_1 == x1)
    (some ((Bool.true, s0_0, IntKind.i64.wrap (x0_1 + 1))))
    (some ((Bool.false, s0_0, x0_1))))
    none)
    (some ((Bool.false, s0_0, x0_1))))
theorem _digits_reader_is_eq (K : Nat) (s0_0 : ByteArray) (x0_1 : Int) (x1 : Int) : (runF Tryz.prog (env_strings_Trim K) (lenv0) Tryz.f66 [.ptr [.str, .int .i64], .one (.int .u8)] [.one (.bool)] _digits_reader_is_dec [.s s0_0, .i x0_1, .i x1]).den2 = _digits_reader_is K s0_0 x0_1 x1 := by kernel_rfl
def _digits_reader_is_w (K : Nat) : List U → Option (Bool × ByteArray × Int) := fun us => match us with | [.s s0_0, .i x0_1, .i x1] => _digits_reader_is K s0_0 x0_1 x1 | _ => none
def _digits_reader_is_spec (K : Nat) : Vm.Spec := ⟨[.ptr [.str, .int .i64], .one (.int .u8)], [.one (.bool)], Bool × ByteArray × Int, _digits_reader_is_w K, _digits_reader_is_enc⟩
theorem _digits_reader_is_ok (K : Nat) : FnOk Tryz.prog 66 (_digits_reader_is_spec K) := fn_ok' hmix (env_strings_Trim_ok K) (lenv := lenv0) (args := [.ptr [.str, .int .i64], .one (.int .u8)]) (res := [.one (.bool)]) (G := _digits_reader_is_w K) (enc := _digits_reader_is_enc) Tryz.func66 (lps_fn (l := []) (by kernel_rfl) trivial) (dec := _digits_reader_is_dec) (fun u r h => by unfold _digits_reader_is_dec at h; split at h; (cases h; rfl); cases h) (fun us r h => by unfold _digits_reader_is_w at h; split at h; exact ((den2_eq _).symm.trans (_digits_reader_is_eq K _ _ _)).trans h; cases h)
def env__digits_reader_is (K : Nat) : FuncId → Option Vm.Spec := addS (env_strings_Trim K) 66 (_digits_reader_is_spec K)
theorem env__digits_reader_is_ok (K : Nat) : EnvOk Tryz.prog (env__digits_reader_is K) := addS_ok (env_strings_Trim_ok K) (.inl ⟨callable Tryz.func66 (by kernel_rfl) (by kernel_rfl), _digits_reader_is_ok K⟩)
def _digits_reader_digits_l2_pre : Vm.Pat := ⟨82, [(1, .pv (.one (.int .i64))), (5, .pv (.one (.int .i64))), (0, .box 0 0)], [.cells [.str, .int .i64]], [0]⟩
def _digits_reader_digits_l2_post0 : Vm.Pat := ⟨82, [(5, .pv (.one (.int .i64))), (0, .box 0 0)], [.cells [.str, .int .i64]], [0]⟩
def _digits_reader_digits_l2_enc0 : Int × ByteArray × Int → List U := fun r => [.i r.1, .s r.2.1, .i r.2.2]
def _digits_reader_digits_l2_dec0 : List U → Option (Int × ByteArray × Int) := fun u => match u with | [.i x5, .s s0_0, .i x0_1] => some (x5, s0_0, x0_1) | _ => none
def _digits_reader_digits_l2_post1 : Vm.Pat := ⟨82, [(0, .box 0 0)], [.cells [.str, .int .i64]], [0]⟩
def _digits_reader_digits_l2_enc1 : Int × ByteArray × Int → List U := fun r => [.i r.1, .s r.2.1, .i r.2.2]
def _digits_reader_digits_l2_dec1 : List U → Option (Int × ByteArray × Int) := fun u => match u with | [.i xpn, .s s0_0, .i x0_1] => some (xpn, s0_0, x0_1) | _ => none
def _digits_reader_digits_l2 (K : Nat) : Nat → Int → Int → ByteArray → Int → Option ((Int × ByteArray × Int) ⊕ (Int × ByteArray × Int))
  | 0, _, _, _, _ => none
  | k + 1, x1, x5, s0_0, x0_1 => (bi (decide (x0_1 < (↑s0_0.size : Int)))
    (bi (decide (0 ≤ x0_1) && decide (x0_1 < (↑s0_0.size : Int)))
    (bi (decide (bt s0_0 x0_1 ≥ 48))
    (bi (decide (0 ≤ x0_1) && decide (x0_1 < (↑s0_0.size : Int)))
    (bi (decide (bt s0_0 x0_1 ≤ 57))
    (bi (IntKind.i64.wrap (x0_1 - x5) == x1)
    (some (Sum.inr (x0_1, s0_0, x0_1)))
    (_digits_reader_digits_l2 K k (x1) (x5) (s0_0) (IntKind.i64.wrap (x0_1 + 1))))
    (some (Sum.inl (x5, s0_0, x0_1))))
    none)
    (some (Sum.inl (x5, s0_0, x0_1))))
    none)
    (some (Sum.inl (x5, s0_0, x0_1))))
def _digits_reader_digits_l2_w (K k : Nat) : List U → Option ((Int × ByteArray × Int) ⊕ (Int × ByteArray × Int)) := fun us => match us with | [.i x1, .i x5, .s s0_0, .i x0_1] => _digits_reader_digits_l2 K k x1 x5 s0_0 x0_1 | _ => none
theorem _digits_reader_digits_l2_eq (K k : Nat) (x1 : Int) (x5 : Int) (s0_0 : ByteArray) (x0_1 : Int) : (round2 Tryz.prog (env__digits_reader_is K) (lenv0) (lp (bodyOf Tryz.f67) 0) _digits_reader_digits_l2_pre (.exit 0) _digits_reader_digits_l2_post0 (.pan 84 0) _digits_reader_digits_l2_post1 _digits_reader_digits_l2_dec0 _digits_reader_digits_l2_dec1 (_digits_reader_digits_l2_w K k) [.i x1, .i x5, .s s0_0, .i x0_1]).den2 = _digits_reader_digits_l2 K (k + 1) x1 x5 s0_0 x0_1 := by kernel_rfl
def _digits_reader_digits_l2_s (K : Nat) : Vm.LS := .two _digits_reader_digits_l2_pre _ _ (.exit 0) _digits_reader_digits_l2_post0 (.pan 84 0) _digits_reader_digits_l2_post1 (_digits_reader_digits_l2_w K K) _digits_reader_digits_l2_enc0 _digits_reader_digits_l2_enc1
theorem _digits_reader_digits_l2_ok (K : Nat) : LoopOk Tryz.prog (lp (bodyOf Tryz.f67) 0) (_digits_reader_digits_l2_s K) := loop_two hmix (env__digits_reader_is_ok K) (lenv := lenv0) (L := _digits_reader_digits_l2_w K) (enc := _digits_reader_digits_l2_enc0) (dec := _digits_reader_digits_l2_dec0) (enc' := _digits_reader_digits_l2_enc1) (dec' := _digits_reader_digits_l2_dec1) (lps_ok (l := []) (by kernel_rfl) trivial) (fun u r h => by unfold _digits_reader_digits_l2_dec0 at h; split at h; (cases h; rfl); cases h) (fun u r h => by unfold _digits_reader_digits_l2_dec1 at h; split at h; (cases h; rfl); cases h) (fun us => by unfold _digits_reader_digits_l2_w; split <;> first | rfl | (simp only [_digits_reader_digits_l2])) (fun k us r h => by unfold _digits_reader_digits_l2_w at h; split at h; exact ((den2_eq _).symm.trans (_digits_reader_digits_l2_eq K k _ _ _ _)).trans h; cases h) K
def _digits_reader_digits_v2 (K : Nat) : Nat → Option Vm.LS := addL (lenv0) 2 (_digits_reader_digits_l2_s K)
def _digits_reader_digits_enc0 : (ByteArray × ByteArray × Int) → List U := fun r => [.s r.1, .s r.2.1, .i r.2.2]
def _digits_reader_digits_dec : Bool → Int → List U → Option (Bool × Int × (ByteArray × ByteArray × Int)) := fun ok xpn u => match u with | [.s s0, .s s1_0, .i x1_1] => some (ok, xpn, (s0, s1_0, x1_1)) | _ => none
def _digits_reader_digits_enc : (Bool × Int × (ByteArray × ByteArray × Int)) → List U := fun r => .b r.1 :: .i 84 :: .i r.2.1 :: _digits_reader_digits_enc0 r.2.2
def _digits_reader_digits (K : Nat) (s0_0 : ByteArray) (x0_1 : Int) (x1 : Int) : Option (Bool × Int × (ByteArray × ByteArray × Int)) := (casO (_digits_reader_digits_l2 K K x1 x0_1 s0_0 x0_1) (fun r0 => (bi (r0.snd.snd == r0.fst)
    (some ((Bool.false, r0.fst, { data := #[] }, { data := #[] }, 0)))
    (bi (decide (0 ≤ r0.fst) && decide (r0.fst ≤ r0.snd.snd) &&
  decide (r0.snd.snd ≤ (↑r0.snd.fst.size : Int)))
    (some ((Bool.true, 0, r0.snd.fst.extract r0.fst.toNat r0.snd.snd.toNat, r0.snd.fst, r0.snd.snd)))
    none))) (fun r1 => (some ((Bool.false, r1.fst, { data := #[] }, { data := #[] }, 0)))))
theorem _digits_reader_digits_eq (K : Nat) (s0_0 : ByteArray) (x0_1 : Int) (x1 : Int) : (runFP Tryz.prog (env__digits_reader_is K) (_digits_reader_digits_v2 K) Tryz.f67 [.ptr [.str, .int .i64], .one (.int .i64)] [.one (.str)] 84 _digits_reader_digits_dec [.s ⟨#[]⟩, .s ⟨#[]⟩, .i 0] [.s s0_0, .i x0_1, .i x1]).den2 = _digits_reader_digits K s0_0 x0_1 x1 := by kernel_rfl
def _digits_reader_digits_w (K : Nat) : List U → Option (Bool × Int × (ByteArray × ByteArray × Int)) := fun us => match us with | [.s s0_0, .i x0_1, .i x1] => _digits_reader_digits K s0_0 x0_1 x1 | _ => none
def _digits_reader_digits_spec (K : Nat) : Vm.Spec := ⟨[.ptr [.str, .int .i64], .one (.int .i64)], [.one (.str)], Bool × Int × (ByteArray × ByteArray × Int), _digits_reader_digits_w K, _digits_reader_digits_enc⟩
theorem _digits_reader_digits_ok (K : Nat) : PFnOk Tryz.prog 67 (_digits_reader_digits_spec K) := fnP_ok' hmix (env__digits_reader_is_ok K) (lenv := _digits_reader_digits_v2 K) (args := [.ptr [.str, .int .i64], .one (.int .i64)]) (res := [.one (.str)]) (G := _digits_reader_digits_w K) (enc := _digits_reader_digits_enc) (t0 := 84) (junk := [.s ⟨#[]⟩, .s ⟨#[]⟩, .i 0]) Tryz.func67 (lps_fn (l := [lp (bodyOf Tryz.f67) 0]) (by kernel_rfl) ⟨⟨2, _digits_reader_digits_l2_s K, by kernel_rfl, by kernel_rfl, _digits_reader_digits_l2_ok K⟩, trivial⟩) (dec := _digits_reader_digits_dec) (fun ok n u r h => by unfold _digits_reader_digits_dec at h; split at h; (cases h; rfl); cases h) (fun us r h => by unfold _digits_reader_digits_w at h; split at h; exact ((den2_eq _).symm.trans (_digits_reader_digits_eq K _ _ _)).trans h; cases h)
def env__digits_reader_digits (K : Nat) : FuncId → Option Vm.Spec := addP (env__digits_reader_is K) 67 (_digits_reader_digits_spec K)
theorem env__digits_reader_digits_ok (K : Nat) : EnvOk Tryz.prog (env__digits_reader_digits K) := addP_ok (env__digits_reader_is_ok K) ⟨callable Tryz.func67 (by kernel_rfl) (by kernel_rfl), _digits_reader_digits_ok K⟩
def _digits_reader_read_enc0 : (Bool × ByteArray × Int × ByteArray × Int) → List U := fun r => [.b r.1, .s r.2.1, .i r.2.2.1, .s r.2.2.2.1, .i r.2.2.2.2]
def _digits_reader_read_dec : Bool → Int → List U → Option (Bool × Int × (Bool × ByteArray × Int × ByteArray × Int)) := fun ok xpn u => match u with | [.b c0, .s s1, .i x2, .s s3_0, .i x3_1] => some (ok, xpn, (c0, s1, x2, s3_0, x3_1)) | _ => none
def _digits_reader_read_enc : (Bool × Int × (Bool × ByteArray × Int × ByteArray × Int)) → List U := fun r => .b r.1 :: .i 84 :: .i r.2.1 :: _digits_reader_read_enc0 r.2.2
def _digits_reader_read (K : Nat) (s0_0 : ByteArray) (x0_1 : Int) : Option (Bool × Int × (Bool × ByteArray × Int × ByteArray × Int)) := ((_digits_reader_is K s0_0 x0_1 45).bind fun r0 => ((_digits_reader_digits K r0.snd.fst r0.snd.snd (↑r0.snd.fst.size : Int)).bind fun r1 => (bi (r1.fst)
    (bi (decide ((↑r1.snd.snd.fst.size : Int) > 1))
    (bi (Bool.true && decide (0 < (↑r1.snd.snd.fst.size : Int)))
    (bi (bt r1.snd.snd.fst 0 == 48)
    (some ((Bool.false, IntKind.i64.wrap (r0.snd.snd + 1), Bool.false, { data := #[] }, 0, { data := #[] }, 0)))
    ((_digits_reader_is K r1.snd.snd.snd.fst r1.snd.snd.snd.snd 46).bind fun r2 => (bi (r2.fst)
    ((_digits_reader_digits K r2.snd.fst r2.snd.snd 18).bind fun r3 => (bi (r3.fst)
    (bi (decide (r3.snd.snd.snd.snd < (↑r3.snd.snd.snd.fst.size : Int)))
    (some ((Bool.false, r3.snd.snd.snd.snd, Bool.false, { data := #[] }, 0, { data := #[] }, 0)))
    (bi (decide ((↑(r1.snd.snd.fst.size + r3.snd.snd.fst.size) : Int) > 9223372036854775807))
    none
    (bi (r0.fst)
    ((strings_Trim K (r1.snd.snd.fst ++ r3.snd.snd.fst) { data := #[48] }).bind fun r4 => (bi (sEq r4 { data := #[] })
    (some ((Bool.false, 0, Bool.false, { data := #[] }, 0, { data := #[] }, 0)))
    (some ((Bool.true, 0, r0.fst, r1.snd.snd.fst ++ r3.snd.snd.fst, (↑r3.snd.snd.fst.size : Int), r3.snd.snd.snd.fst,
  r3.snd.snd.snd.snd)))))
    (some ((Bool.true, 0, r0.fst, r1.snd.snd.fst ++ r3.snd.snd.fst, (↑r3.snd.snd.fst.size : Int), r3.snd.snd.snd.fst,
  r3.snd.snd.snd.snd))))))
    (some ((Bool.false, r3.snd.fst, Bool.false, { data := #[] }, 0, { data := #[] }, 0)))))
    (bi (decide (r2.snd.snd < (↑r2.snd.fst.size : Int)))
    (some ((Bool.false, r2.snd.snd, Bool.false, { data := #[] }, 0, { data := #[] }, 0)))
    (bi (decide ((↑(r1.snd.snd.fst.size + 0) : Int) > 9223372036854775807))
    none
    (bi (r0.fst)
    ((strings_Trim K (r1.snd.snd.fst ++ { data := #[] }) { data := #[48] }).bind fun r5 => (bi (sEq r5 { data := #[] })
    (some ((Bool.false, 0, Bool.false, { data := #[] }, 0, { data := #[] }, 0)))
    (some ((Bool.true, 0, r0.fst, r1.snd.snd.fst ++ { data := #[] }, 0, r2.snd.fst, r2.snd.snd)))))
    (some ((Bool.true, 0, r0.fst, r1.snd.snd.fst ++ { data := #[] }, 0, r2.snd.fst, r2.snd.snd)))))))))
    none)
    ((_digits_reader_is K r1.snd.snd.snd.fst r1.snd.snd.snd.snd 46).bind fun r6 => (bi (r6.fst)
    ((_digits_reader_digits K r6.snd.fst r6.snd.snd 18).bind fun r7 => (bi (r7.fst)
    (bi (decide (r7.snd.snd.snd.snd < (↑r7.snd.snd.snd.fst.size : Int)))
    (some ((Bool.false, r7.snd.snd.snd.snd, Bool.false, { data := #[] }, 0, { data := #[] }, 0)))
    (bi (decide ((↑(r1.snd.snd.fst.size + r7.snd.snd.fst.size) : Int) > 9223372036854775807))
    none
    (bi (r0.fst)
    ((strings_Trim K (r1.snd.snd.fst ++ r7.snd.snd.fst) { data := #[48] }).bind fun r8 => (bi (sEq r8 { data := #[] })
    (some ((Bool.false, 0, Bool.false, { data := #[] }, 0, { data := #[] }, 0)))
    (some ((Bool.true, 0, r0.fst, r1.snd.snd.fst ++ r7.snd.snd.fst, (↑r7.snd.snd.fst.size : Int), r7.snd.snd.snd.fst,
  r7.snd.snd.snd.snd)))))
    (some ((Bool.true, 0, r0.fst, r1.snd.snd.fst ++ r7.snd.snd.fst, (↑r7.snd.snd.fst.size : Int), r7.snd.snd.snd.fst,
  r7.snd.snd.snd.snd))))))
    (some ((Bool.false, r7.snd.fst, Bool.false, { data := #[] }, 0, { data := #[] }, 0)))))
    (bi (decide (r6.snd.snd < (↑r6.snd.fst.size : Int)))
    (some ((Bool.false, r6.snd.snd, Bool.false, { data := #[] }, 0, { data := #[] }, 0)))
    (bi (decide ((↑(r1.snd.snd.fst.size + 0) : Int) > 9223372036854775807))
    none
    (bi (r0.fst)
    ((strings_Trim K (r1.snd.snd.fst ++ { data := #[] }) { data := #[48] }).bind fun r9 => (bi (sEq r9 { data := #[] })
    (some ((Bool.false, 0, Bool.false, { data := #[] }, 0, { data := #[] }, 0)))
    (some ((Bool.true, 0, r0.fst, r1.snd.snd.fst ++ { data := #[] }, 0, r6.snd.fst, r6.snd.snd)))))
    (some ((Bool.true, 0, r0.fst, r1.snd.snd.fst ++ { data := #[] }, 0, r6.snd.fst, r6.snd.snd)))))))))
    (some ((Bool.false, r1.snd.fst, Bool.false, { data := #[] }, 0, { data := #[] }, 0))))))
theorem _digits_reader_read_eq (K : Nat) (s0_0 : ByteArray) (x0_1 : Int) : (runFP Tryz.prog (env__digits_reader_digits K) (lenv0) Tryz.f42 [.ptr [.str, .int .i64]] [.one (.bool), .one (.str), .one (.int .i64)] 84 _digits_reader_read_dec [.b false, .s ⟨#[]⟩, .i 0, .s ⟨#[]⟩, .i 0] [.s s0_0, .i x0_1]).den2 = _digits_reader_read K s0_0 x0_1 := by kernel_rfl
def _digits_reader_read_w (K : Nat) : List U → Option (Bool × Int × (Bool × ByteArray × Int × ByteArray × Int)) := fun us => match us with | [.s s0_0, .i x0_1] => _digits_reader_read K s0_0 x0_1 | _ => none
def _digits_reader_read_spec (K : Nat) : Vm.Spec := ⟨[.ptr [.str, .int .i64]], [.one (.bool), .one (.str), .one (.int .i64)], Bool × Int × (Bool × ByteArray × Int × ByteArray × Int), _digits_reader_read_w K, _digits_reader_read_enc⟩
theorem _digits_reader_read_ok (K : Nat) : PFnOk Tryz.prog 42 (_digits_reader_read_spec K) := fnP_ok' hmix (env__digits_reader_digits_ok K) (lenv := lenv0) (args := [.ptr [.str, .int .i64]]) (res := [.one (.bool), .one (.str), .one (.int .i64)]) (G := _digits_reader_read_w K) (enc := _digits_reader_read_enc) (t0 := 84) (junk := [.b false, .s ⟨#[]⟩, .i 0, .s ⟨#[]⟩, .i 0]) Tryz.func42 (lps_fn (l := []) (by kernel_rfl) trivial) (dec := _digits_reader_read_dec) (fun ok n u r h => by unfold _digits_reader_read_dec at h; split at h; (cases h; rfl); cases h) (fun us r h => by unfold _digits_reader_read_w at h; split at h; exact ((den2_eq _).symm.trans (_digits_reader_read_eq K _ _)).trans h; cases h)
def env__digits_reader_read (K : Nat) : FuncId → Option Vm.Spec := addP (env__digits_reader_digits K) 42 (_digits_reader_read_spec K)
theorem env__digits_reader_read_ok (K : Nat) : EnvOk Tryz.prog (env__digits_reader_read K) := addP_ok (env__digits_reader_digits_ok K) ⟨callable Tryz.func42 (by kernel_rfl) (by kernel_rfl), _digits_reader_read_ok K⟩
end Go.Proofs.YtfeifhlnidkbbaaGreatDoor.F
