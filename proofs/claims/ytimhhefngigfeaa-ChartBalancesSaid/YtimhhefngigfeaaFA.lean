import Derived.Test.YtimhhefngigfeaaVmY
import Derived.Test.YtimhhefngigfeaaVmRc
import Derived.Test.YtimhhefngigfeaaProg
namespace Go.Proofs.Ytimhhefngigfeaa.F
open Go Go.Proofs.Ytimhhefngigfeaa.Vm
set_option maxRecDepth 1000000
set_option linter.unusedVariables false
set_option linter.unusedSimpArgs false
theorem hmix : Try.prog.follows .mixedOrders = true := by kernel_rfl
def e0 (K : Nat) : FuncId → Option Vm.Spec := addS (addS env0 74 add64S) 75 sub64S
theorem e0_ok (K : Nat) : EnvOk Try.prog (e0 K) :=
 addS_ok (addS_ok env0_ok (.inr (add64_ext Try.func74 (by kernel_rfl) (by kernel_rfl) (by kernel_rfl) (by kernel_rfl)))) (.inr (sub64_ext Try.func75 (by kernel_rfl) (by kernel_rfl) (by kernel_rfl) (by kernel_rfl)))
def bits_Len64_dec : List U → Option (Int) := fun | [.i x0] => some (x0) | _ => none
def bits_Len64_enc : (Int) → List U := fun r => [.i r]
def bits_Len64 (K : Nat) (x0 : Int) : Option (Int) := (if (decide (x0 ≥ 4294967296)) = true then
 (if (decide (x0.fdiv 4294967296 ≥ 65536)) = true then
 (if (decide ((x0.fdiv 4294967296).fdiv 65536 ≥ 256)) = true then
 (if (decide (0 ≤ IntKind.u8.wrap (((x0.fdiv 4294967296).fdiv 65536).fdiv 256)) &&
 decide (IntKind.u8.wrap (((x0.fdiv 4294967296).fdiv 65536).fdiv 256) < 256)) = true then
 (some (IntKind.i64.wrap
 (56 +
 IntKind.i64.wrap
 (bt len8tab
 (IntKind.u8.wrap (((x0.fdiv 4294967296).fdiv 65536).fdiv 256))))))
 else none)
 else (if (decide (0 ≤ IntKind.u8.wrap ((x0.fdiv 4294967296).fdiv 65536)) &&
 decide (IntKind.u8.wrap ((x0.fdiv 4294967296).fdiv 65536) < 256)) = true then
 (some (IntKind.i64.wrap
 (48 +
 IntKind.i64.wrap
 (bt len8tab
 (IntKind.u8.wrap ((x0.fdiv 4294967296).fdiv 65536))))))
 else none))
 else (if (decide (x0.fdiv 4294967296 ≥ 256)) = true then
 (if (decide (0 ≤ IntKind.u8.wrap ((x0.fdiv 4294967296).fdiv 256)) &&
 decide (IntKind.u8.wrap ((x0.fdiv 4294967296).fdiv 256) < 256)) = true then
 (some (IntKind.i64.wrap
 (40 +
 IntKind.i64.wrap
 (bt len8tab
 (IntKind.u8.wrap ((x0.fdiv 4294967296).fdiv 256))))))
 else none)
 else (if (decide (0 ≤ IntKind.u8.wrap (x0.fdiv 4294967296)) &&
 decide (IntKind.u8.wrap (x0.fdiv 4294967296) < 256)) = true then
 (some (IntKind.i64.wrap
 (32 +
 IntKind.i64.wrap
 (bt len8tab
 (IntKind.u8.wrap (x0.fdiv 4294967296))))))
 else none)))
 else (if (decide (x0 ≥ 65536)) = true then
 (if (decide (x0.fdiv 65536 ≥ 256)) = true then
 (if (decide (0 ≤ IntKind.u8.wrap ((x0.fdiv 65536).fdiv 256)) &&
 decide (IntKind.u8.wrap ((x0.fdiv 65536).fdiv 256) < 256)) = true then
 (some (IntKind.i64.wrap
 (24 +
 IntKind.i64.wrap
 (bt len8tab
 (IntKind.u8.wrap ((x0.fdiv 65536).fdiv 256))))))
 else none)
 else (if (decide (0 ≤ IntKind.u8.wrap (x0.fdiv 65536)) && decide (IntKind.u8.wrap (x0.fdiv 65536) < 256)) = true then
 (some (IntKind.i64.wrap
 (16 +
 IntKind.i64.wrap
 (bt len8tab (IntKind.u8.wrap (x0.fdiv 65536))))))
 else none))
 else (if (decide (x0 ≥ 256)) = true then
 (if (decide (0 ≤ IntKind.u8.wrap (x0.fdiv 256)) && decide (IntKind.u8.wrap (x0.fdiv 256) < 256)) = true then
 (some (IntKind.i64.wrap
 (8 +
 IntKind.i64.wrap
 (bt len8tab (IntKind.u8.wrap (x0.fdiv 256))))))
 else none)
 else (if (decide (0 ≤ IntKind.u8.wrap x0) && decide (IntKind.u8.wrap x0 < 256)) = true then
 (some (IntKind.i64.wrap
 (0 +
 IntKind.i64.wrap
 (bt len8tab (IntKind.u8.wrap x0)))))
 else none))))
theorem bits_Len64_eq (K : Nat) (x0 : Int) : (runF Try.prog (e0 K) (lenv0) Try.f68 [.one (.int .u64)] [.one (.int .i64)] bits_Len64_dec [.i x0]).den = bits_Len64 K x0 := by kernel_rfl
def bits_Len64_w (K : Nat) : List U → Option (Int) := fun | [.i x0] => bits_Len64 K x0 | _ => none
def bits_Len64_spec (K : Nat) : Vm.Spec := ⟨[.one (.int .u64)], [.one (.int .i64)], Int, bits_Len64_w K, bits_Len64_enc⟩
theorem bits_Len64_ok (K : Nat) : FnOk Try.prog 68 (bits_Len64_spec K) := fn_ok' hmix (e0_ok K) (lenv := lenv0) (args := [.one (.int .u64)]) (res := [.one (.int .i64)]) (G := bits_Len64_w K) (enc := bits_Len64_enc) Try.func68 (lps_fn (l := []) (by kernel_rfl) trivial) (dec := bits_Len64_dec) (fun u r h => by unfold bits_Len64_dec at h; split at h; (cases h; rfl); cases h) (fun us r h => by unfold bits_Len64_w at h; split at h; exact (bits_Len64_eq K _).trans h; cases h)
def env_bits_Len64 (K : Nat) : FuncId → Option Vm.Spec := addS (e0 K) 68 (bits_Len64_spec K)
theorem env_bits_Len64_ok (K : Nat) : EnvOk Try.prog (env_bits_Len64 K) := addS_ok (e0_ok K) (.inl ⟨callable Try.func68 (by kernel_rfl) (by kernel_rfl), bits_Len64_ok K⟩)
def bits_Mul64_dec : List U → Option (Int × Int) := fun | [.i x0, .i x1] => some (x0, x1) | _ => none
def bits_Mul64_enc : (Int × Int) → List U := fun r => [.i r.1, .i r.2]
def bits_Mul64 (K : Nat) (x0 : Int) (x1 : Int) : Option (Int × Int) := (some ((IntKind.u64.wrap
 (IntKind.u64.wrap
 (IntKind.u64.wrap (x0.fdiv 4294967296 * x1.fdiv 4294967296) +
 (IntKind.u64.wrap
 (IntKind.u64.wrap
 (x0.fdiv 4294967296 * land IntKind.u64 x1 4294967295) +
 (IntKind.u64.wrap
 (land IntKind.u64 x0 4294967295 *
 land IntKind.u64 x1 4294967295)).fdiv
 4294967296)).fdiv
 4294967296) +
 (IntKind.u64.wrap
 (land IntKind.u64
 (IntKind.u64.wrap
 (IntKind.u64.wrap
 (x0.fdiv 4294967296 * land IntKind.u64 x1 4294967295) +
 (IntKind.u64.wrap
 (land IntKind.u64 x0 4294967295 *
 land IntKind.u64 x1 4294967295)).fdiv
 4294967296))
 4294967295 +
 IntKind.u64.wrap
 (land IntKind.u64 x0 4294967295 * x1.fdiv 4294967296))).fdiv
 4294967296),
 IntKind.u64.wrap (x0 * x1))))
theorem bits_Mul64_eq (K : Nat) (x0 : Int) (x1 : Int) : (runF Try.prog (env_bits_Len64 K) (lenv0) Try.f73 [.one (.int .u64), .one (.int .u64)] [.one (.int .u64), .one (.int .u64)] bits_Mul64_dec [.i x0, .i x1]).den = bits_Mul64 K x0 x1 := by kernel_rfl
def bits_Mul64_w (K : Nat) : List U → Option (Int × Int) := fun | [.i x0, .i x1] => bits_Mul64 K x0 x1 | _ => none
def bits_Mul64_spec (K : Nat) : Vm.Spec := ⟨[.one (.int .u64), .one (.int .u64)], [.one (.int .u64), .one (.int .u64)], Int × Int, bits_Mul64_w K, bits_Mul64_enc⟩
theorem bits_Mul64_ok (K : Nat) : FnOk Try.prog 73 (bits_Mul64_spec K) := fn_ok' hmix (env_bits_Len64_ok K) (lenv := lenv0) (args := [.one (.int .u64), .one (.int .u64)]) (res := [.one (.int .u64), .one (.int .u64)]) (G := bits_Mul64_w K) (enc := bits_Mul64_enc) Try.func73 (lps_fn (l := []) (by kernel_rfl) trivial) (dec := bits_Mul64_dec) (fun u r h => by unfold bits_Mul64_dec at h; split at h; (cases h; rfl); cases h) (fun us r h => by unfold bits_Mul64_w at h; split at h; exact (bits_Mul64_eq K _ _).trans h; cases h)
def env_bits_Mul64 (K : Nat) : FuncId → Option Vm.Spec := addS (env_bits_Len64 K) 73 (bits_Mul64_spec K)
theorem env_bits_Mul64_ok (K : Nat) : EnvOk Try.prog (env_bits_Mul64 K) := addS_ok (env_bits_Len64_ok K) (.inl ⟨callable Try.func73 (by kernel_rfl) (by kernel_rfl), bits_Mul64_ok K⟩)
def wide_Of_dec : List U → Option (Int × Int × Int × Int × Int × Int) := fun | [.i x0_0, .i x0_1, .i x0_2, .i x0_3, .i x0_4, .i x0_5] => some (x0_0, x0_1, x0_2, x0_3, x0_4, x0_5) | _ => none
def wide_Of_enc : (Int × Int × Int × Int × Int × Int) → List U := fun r => [.i r.1, .i r.2.1, .i r.2.2.1, .i r.2.2.2.1, .i r.2.2.2.2.1, .i r.2.2.2.2.2]
def wide_Of (K : Nat) (x0 : Int) (x1 : Int) : Option (Int × Int × Int × Int × Int × Int) := (some ((x1, x0, 0, 0, 0, 0)))
theorem wide_Of_eq (K : Nat) (x0 : Int) (x1 : Int) : (runF Try.prog (env_bits_Mul64 K) (lenv0) Try.f54 [.one (.int .u64), .one (.int .u64)] [.agg [.int .u64, .int .u64, .int .u64, .int .u64, .int .u64, .int .u64]] wide_Of_dec [.i x0, .i x1]).den = wide_Of K x0 x1 := by kernel_rfl
def wide_Of_w (K : Nat) : List U → Option (Int × Int × Int × Int × Int × Int) := fun | [.i x0, .i x1] => wide_Of K x0 x1 | _ => none
def wide_Of_spec (K : Nat) : Vm.Spec := ⟨[.one (.int .u64), .one (.int .u64)], [.agg [.int .u64, .int .u64, .int .u64, .int .u64, .int .u64, .int .u64]], Int × Int × Int × Int × Int × Int, wide_Of_w K, wide_Of_enc⟩
theorem wide_Of_ok (K : Nat) : FnOk Try.prog 54 (wide_Of_spec K) := fn_ok' hmix (env_bits_Mul64_ok K) (lenv := lenv0) (args := [.one (.int .u64), .one (.int .u64)]) (res := [.agg [.int .u64, .int .u64, .int .u64, .int .u64, .int .u64, .int .u64]]) (G := wide_Of_w K) (enc := wide_Of_enc) Try.func54 (lps_fn (l := []) (by kernel_rfl) trivial) (dec := wide_Of_dec) (fun u r h => by unfold wide_Of_dec at h; split at h; (cases h; rfl); cases h) (fun us r h => by unfold wide_Of_w at h; split at h; exact (wide_Of_eq K _ _).trans h; cases h)
def env_wide_Of (K : Nat) : FuncId → Option Vm.Spec := addS (env_bits_Mul64 K) 54 (wide_Of_spec K)
theorem env_wide_Of_ok (K : Nat) : EnvOk Try.prog (env_wide_Of K) := addS_ok (env_bits_Mul64_ok K) (.inl ⟨callable Try.func54 (by kernel_rfl) (by kernel_rfl), wide_Of_ok K⟩)
def wI_Cmp_l2_pre : Vm.Pat := ⟨26, [(5, .pv (.one (.int .i64))), (2, .arr 0), (3, .arr 1)], [.row .u64, .row .u64], []⟩
def wI_Cmp_l2_post0 : Vm.Pat := ⟨26, [], [], []⟩
def wI_Cmp_l2_enc0 : Unit → List U := fun _ => []
def wI_Cmp_l2_dec0 : List U → Option (Unit) := fun | [] => some () | _ => none
def wI_Cmp_l2_post1 : Vm.Pat := ⟨26, [(4, .pv (.one (.int .i64)))], [], []⟩
def wI_Cmp_l2_enc1 : Int → List U := fun r => [.i r]
def wI_Cmp_l2_dec1 : List U → Option (Int) := fun | [.i x4] => some (x4) | _ => none
def wI_Cmp_l2 (K : Nat) : Nat → Int → List Int → List Int → Option ((Unit) ⊕ (Int))
 | 0, _, _, _ => none
 | k + 1, x5, l2, l3 => (if (decide (x5 ≥ 0)) = true then
 (if (decide (0 ≤ x5) && decide (x5 < 6) && decide (x5.toNat < l2.length)) = true then
 (if (decide (0 ≤ x5) && decide (x5 < 6) && decide (x5.toNat < l3.length)) = true then
 (if (decide (nth 0 l2 x5.toNat < nth 0 l3 x5.toNat)) = true then
 (some (Sum.inr (-1)))
 else (if (decide (0 ≤ x5) && decide (x5 < 6) && decide (x5.toNat < l2.length)) = true then
 (if (decide (0 ≤ x5) && decide (x5 < 6) && decide (x5.toNat < l3.length)) = true then
 (if (decide (nth 0 l2 x5.toNat > nth 0 l3 x5.toNat)) = true then
 (some (Sum.inr 1))
 else (wI_Cmp_l2 K k (IntKind.i64.wrap (x5 - 1)) (l2) (l3)))
 else none)
 else none))
 else none)
 else none)
 else (some (Sum.inl ())))
def wI_Cmp_l2_w (K k : Nat) : List U → Option ((Unit) ⊕ (Int)) := fun | [.i x5, .r l2, .r l3] => wI_Cmp_l2 K k x5 l2 l3 | _ => none
theorem wI_Cmp_l2_eq (K k : Nat) (x5 : Int) (l2 : List Int) (l3 : List Int) : (round2 Try.prog (env_wide_Of K) (lenv0) (lp (bodyOf Try.f61) 0) wI_Cmp_l2_pre (.exit 0) wI_Cmp_l2_post0 .ret wI_Cmp_l2_post1 wI_Cmp_l2_dec0 wI_Cmp_l2_dec1 (wI_Cmp_l2_w K k) [.i x5, .r l2, .r l3]).den = wI_Cmp_l2 K (k + 1) x5 l2 l3 := by kernel_rfl
def wI_Cmp_l2_s (K : Nat) : Vm.LS := .two wI_Cmp_l2_pre _ _ (.exit 0) wI_Cmp_l2_post0 .ret wI_Cmp_l2_post1 (wI_Cmp_l2_w K K) wI_Cmp_l2_enc0 wI_Cmp_l2_enc1
theorem wI_Cmp_l2_ok (K : Nat) : LoopOk Try.prog (lp (bodyOf Try.f61) 0) (wI_Cmp_l2_s K) := loop_two hmix (env_wide_Of_ok K) (lenv := lenv0) (L := wI_Cmp_l2_w K) (enc := wI_Cmp_l2_enc0) (dec := wI_Cmp_l2_dec0) (enc' := wI_Cmp_l2_enc1) (dec' := wI_Cmp_l2_dec1) (lps_ok (l := []) (by kernel_rfl) trivial) (fun u r h => by unfold wI_Cmp_l2_dec0 at h; split at h; (cases h; rfl); cases h) (fun u r h => by unfold wI_Cmp_l2_dec1 at h; split at h; (cases h; rfl); cases h) (fun us => by unfold wI_Cmp_l2_w; split <;> first | rfl | (simp only [wI_Cmp_l2])) (fun k us r h => by unfold wI_Cmp_l2_w at h; split at h; exact (wI_Cmp_l2_eq K k _ _ _).trans h; cases h) K
def wI_Cmp_v2 (K : Nat) : Nat → Option Vm.LS := addL (lenv0) 2 (wI_Cmp_l2_s K)
def wI_Cmp_dec : List U → Option (Int) := fun | [.i x0] => some (x0) | _ => none
def wI_Cmp_enc : (Int) → List U := fun r => [.i r]
def wI_Cmp (K : Nat) (x0_0 : Int) (x0_1 : Int) (x0_2 : Int) (x0_3 : Int) (x0_4 : Int) (x0_5 : Int) (x1_0 : Int) (x1_1 : Int) (x1_2 : Int) (x1_3 : Int) (x1_4 : Int) (x1_5 : Int) : Option (Int) := (casO (wI_Cmp_l2 K K 5 [x0_0, x0_1, x0_2, x0_3, x0_4, x0_5]
 [x1_0, x1_1, x1_2, x1_3, x1_4, x1_5]) (fun r0 => (some (0))) (fun r1 => (some r1)))
theorem wI_Cmp_eq (K : Nat) (x0_0 : Int) (x0_1 : Int) (x0_2 : Int) (x0_3 : Int) (x0_4 : Int) (x0_5 : Int) (x1_0 : Int) (x1_1 : Int) (x1_2 : Int) (x1_3 : Int) (x1_4 : Int) (x1_5 : Int) : (runF Try.prog (env_wide_Of K) (wI_Cmp_v2 K) Try.f61 [.agg [.int .u64, .int .u64, .int .u64, .int .u64, .int .u64, .int .u64], .agg [.int .u64, .int .u64, .int .u64, .int .u64, .int .u64, .int .u64]] [.one (.int .i64)] wI_Cmp_dec [.i x0_0, .i x0_1, .i x0_2, .i x0_3, .i x0_4, .i x0_5, .i x1_0, .i x1_1, .i x1_2, .i x1_3, .i x1_4, .i x1_5]).den = wI_Cmp K x0_0 x0_1 x0_2 x0_3 x0_4 x0_5 x1_0 x1_1 x1_2 x1_3 x1_4 x1_5 := by kernel_rfl
def wI_Cmp_w (K : Nat) : List U → Option (Int) := fun | [.i x0_0, .i x0_1, .i x0_2, .i x0_3, .i x0_4, .i x0_5, .i x1_0, .i x1_1, .i x1_2, .i x1_3, .i x1_4, .i x1_5] => wI_Cmp K x0_0 x0_1 x0_2 x0_3 x0_4 x0_5 x1_0 x1_1 x1_2 x1_3 x1_4 x1_5 | _ => none
def wI_Cmp_spec (K : Nat) : Vm.Spec := ⟨[.agg [.int .u64, .int .u64, .int .u64, .int .u64, .int .u64, .int .u64], .agg [.int .u64, .int .u64, .int .u64, .int .u64, .int .u64, .int .u64]], [.one (.int .i64)], Int, wI_Cmp_w K, wI_Cmp_enc⟩
theorem wI_Cmp_ok (K : Nat) : FnOk Try.prog 61 (wI_Cmp_spec K) := fn_ok' hmix (env_wide_Of_ok K) (lenv := wI_Cmp_v2 K) (args := [.agg [.int .u64, .int .u64, .int .u64, .int .u64, .int .u64, .int .u64], .agg [.int .u64, .int .u64, .int .u64, .int .u64, .int .u64, .int .u64]]) (res := [.one (.int .i64)]) (G := wI_Cmp_w K) (enc := wI_Cmp_enc) Try.func61 (lps_fn (l := [lp (bodyOf Try.f61) 0]) (by kernel_rfl) ⟨⟨2, wI_Cmp_l2_s K, by kernel_rfl, by kernel_rfl, wI_Cmp_l2_ok K⟩, trivial⟩) (dec := wI_Cmp_dec) (fun u r h => by unfold wI_Cmp_dec at h; split at h; (cases h; rfl); cases h) (fun us r h => by unfold wI_Cmp_w at h; split at h; exact (wI_Cmp_eq K _ _ _ _ _ _ _ _ _ _ _ _).trans h; cases h)
def env_wI_Cmp (K : Nat) : FuncId → Option Vm.Spec := addS (env_wide_Of K) 61 (wI_Cmp_spec K)
theorem env_wI_Cmp_ok (K : Nat) : EnvOk Try.prog (env_wI_Cmp K) := addS_ok (env_wide_Of_ok K) (.inl ⟨callable Try.func61 (by kernel_rfl) (by kernel_rfl), wI_Cmp_ok K⟩)
def wI_Add_l3_pre : Vm.Pat := ⟨25, [(5, .pv (.one (.int .u64))), (7, .pv (.one (.int .i64))), (2, .arr 0), (3, .arr 1), (4, .arr 2)], [.row .u64, .row .u64, .row .u64], []⟩
def wI_Add_l3_post0 : Vm.Pat := ⟨25, [(2, .arr 0), (4, .arr 1)], [.row .u64, .row .u64], []⟩
def wI_Add_l3_enc0 : List Int × List Int → List U := fun r => [.r r.1, .r r.2]
def wI_Add_l3_dec0 : List U → Option (List Int × List Int) := fun | [.r l2, .r l4] => some (l2, l4) | _ => none
def wI_Add_l3 (K : Nat) : Nat → Int → Int → List Int → List Int → List Int → Option (List Int × List Int)
 | 0, _, _, _, _, _ => none
 | k + 1, x5, x7, l2, l3, l4 => (if (decide (x7 < 6)) = true then
 (if (decide (0 ≤ x7) && decide (x7 < 6) && decide (x7.toNat < l2.length)) = true then
 (if (decide (0 ≤ x7) && decide (x7 < 6) && decide (x7.toNat < l3.length)) = true then
 ((add64 (nth 0 l2 x7.toNat)
 (nth 0 l3 x7.toNat) x5).bind fun r0 => (if (decide (0 ≤ x7) && decide (x7 < 6) && decide (x7.toNat < l2.length)) = true then
 (wI_Add_l3 K k (r0.snd) (IntKind.i64.wrap (x7 + 1)) (l2.set x7.toNat r0.fst) (l3) (l4))
 else none))
 else none)
 else none)
 else (some ((l2, l4))))
def wI_Add_l3_w (K k : Nat) : List U → Option (List Int × List Int) := fun | [.i x5, .i x7, .r l2, .r l3, .r l4] => wI_Add_l3 K k x5 x7 l2 l3 l4 | _ => none
theorem wI_Add_l3_eq (K k : Nat) (x5 : Int) (x7 : Int) (l2 : List Int) (l3 : List Int) (l4 : List Int) : (round1 Try.prog (env_wI_Cmp K) (lenv0) (lp (bodyOf Try.f60) 0) wI_Add_l3_pre (.exit 0) wI_Add_l3_post0 wI_Add_l3_dec0 (wI_Add_l3_w K k) [.i x5, .i x7, .r l2, .r l3, .r l4]).den = wI_Add_l3 K (k + 1) x5 x7 l2 l3 l4 := by kernel_rfl
def wI_Add_l3_s (K : Nat) : Vm.LS := .one wI_Add_l3_pre _ (.exit 0) wI_Add_l3_post0 (wI_Add_l3_w K K) wI_Add_l3_enc0
theorem wI_Add_l3_ok (K : Nat) : LoopOk Try.prog (lp (bodyOf Try.f60) 0) (wI_Add_l3_s K) := loop_one hmix (env_wI_Cmp_ok K) (lenv := lenv0) (L := wI_Add_l3_w K) (enc := wI_Add_l3_enc0) (dec := wI_Add_l3_dec0) (lps_ok (l := []) (by kernel_rfl) trivial) (fun u r h => by unfold wI_Add_l3_dec0 at h; split at h; (cases h; rfl); cases h) (fun us => by unfold wI_Add_l3_w; split <;> first | rfl | (simp only [wI_Add_l3])) (fun k us r h => by unfold wI_Add_l3_w at h; split at h; exact (wI_Add_l3_eq K k _ _ _ _ _).trans h; cases h) K
def wI_Add_v3 (K : Nat) : Nat → Option Vm.LS := addL (lenv0) 3 (wI_Add_l3_s K)
def wI_Add_dec : List U → Option (Int × Int × Int × Int × Int × Int) := fun | [.i x0_0, .i x0_1, .i x0_2, .i x0_3, .i x0_4, .i x0_5] => some (x0_0, x0_1, x0_2, x0_3, x0_4, x0_5) | _ => none
def wI_Add_enc : (Int × Int × Int × Int × Int × Int) → List U := fun r => [.i r.1, .i r.2.1, .i r.2.2.1, .i r.2.2.2.1, .i r.2.2.2.2.1, .i r.2.2.2.2.2]
def wI_Add (K : Nat) (x0_0 : Int) (x0_1 : Int) (x0_2 : Int) (x0_3 : Int) (x0_4 : Int) (x0_5 : Int) (x1_0 : Int) (x1_1 : Int) (x1_2 : Int) (x1_3 : Int) (x1_4 : Int) (x1_5 : Int) : Option (Int × Int × Int × Int × Int × Int) := ((wI_Add_l3 K K 0 0 [x0_0, x0_1, x0_2, x0_3, x0_4, x0_5]
 [x1_0, x1_1, x1_2, x1_3, x1_4, x1_5] [0, 0, 0, 0, 0, 0]).bind fun r0 => (if (decide (6 ≤ r0.fst.length)) = true then
 (if (decide (r0.snd.length = 6)) = true then
 (some ((nth 0 r0.fst 0, nth 0 r0.fst 1,
 nth 0 r0.fst 2, nth 0 r0.fst 3,
 nth 0 r0.fst 4, nth 0 r0.fst 5)))
 else none)
 else none))
theorem wI_Add_eq (K : Nat) (x0_0 : Int) (x0_1 : Int) (x0_2 : Int) (x0_3 : Int) (x0_4 : Int) (x0_5 : Int) (x1_0 : Int) (x1_1 : Int) (x1_2 : Int) (x1_3 : Int) (x1_4 : Int) (x1_5 : Int) : (runF Try.prog (env_wI_Cmp K) (wI_Add_v3 K) Try.f60 [.agg [.int .u64, .int .u64, .int .u64, .int .u64, .int .u64, .int .u64], .agg [.int .u64, .int .u64, .int .u64, .int .u64, .int .u64, .int .u64]] [.agg [.int .u64, .int .u64, .int .u64, .int .u64, .int .u64, .int .u64]] wI_Add_dec [.i x0_0, .i x0_1, .i x0_2, .i x0_3, .i x0_4, .i x0_5, .i x1_0, .i x1_1, .i x1_2, .i x1_3, .i x1_4, .i x1_5]).den = wI_Add K x0_0 x0_1 x0_2 x0_3 x0_4 x0_5 x1_0 x1_1 x1_2 x1_3 x1_4 x1_5 := by kernel_rfl
def wI_Add_w (K : Nat) : List U → Option (Int × Int × Int × Int × Int × Int) := fun | [.i x0_0, .i x0_1, .i x0_2, .i x0_3, .i x0_4, .i x0_5, .i x1_0, .i x1_1, .i x1_2, .i x1_3, .i x1_4, .i x1_5] => wI_Add K x0_0 x0_1 x0_2 x0_3 x0_4 x0_5 x1_0 x1_1 x1_2 x1_3 x1_4 x1_5 | _ => none
def wI_Add_spec (K : Nat) : Vm.Spec := ⟨[.agg [.int .u64, .int .u64, .int .u64, .int .u64, .int .u64, .int .u64], .agg [.int .u64, .int .u64, .int .u64, .int .u64, .int .u64, .int .u64]], [.agg [.int .u64, .int .u64, .int .u64, .int .u64, .int .u64, .int .u64]], Int × Int × Int × Int × Int × Int, wI_Add_w K, wI_Add_enc⟩
theorem wI_Add_ok (K : Nat) : FnOk Try.prog 60 (wI_Add_spec K) := fn_ok' hmix (env_wI_Cmp_ok K) (lenv := wI_Add_v3 K) (args := [.agg [.int .u64, .int .u64, .int .u64, .int .u64, .int .u64, .int .u64], .agg [.int .u64, .int .u64, .int .u64, .int .u64, .int .u64, .int .u64]]) (res := [.agg [.int .u64, .int .u64, .int .u64, .int .u64, .int .u64, .int .u64]]) (G := wI_Add_w K) (enc := wI_Add_enc) Try.func60 (lps_fn (l := [lp (bodyOf Try.f60) 0]) (by kernel_rfl) ⟨⟨3, wI_Add_l3_s K, by kernel_rfl, by kernel_rfl, wI_Add_l3_ok K⟩, trivial⟩) (dec := wI_Add_dec) (fun u r h => by unfold wI_Add_dec at h; split at h; (cases h; rfl); cases h) (fun us r h => by unfold wI_Add_w at h; split at h; exact (wI_Add_eq K _ _ _ _ _ _ _ _ _ _ _ _).trans h; cases h)
def env_wI_Add (K : Nat) : FuncId → Option Vm.Spec := addS (env_wI_Cmp K) 60 (wI_Add_spec K)
theorem env_wI_Add_ok (K : Nat) : EnvOk Try.prog (env_wI_Add K) := addS_ok (env_wI_Cmp_ok K) (.inl ⟨callable Try.func60 (by kernel_rfl) (by kernel_rfl), wI_Add_ok K⟩)
def wI_Sub_l3_pre : Vm.Pat := ⟨25, [(5, .pv (.one (.int .u64))), (7, .pv (.one (.int .i64))), (2, .arr 0), (3, .arr 1), (4, .arr 2)], [.row .u64, .row .u64, .row .u64], []⟩
def wI_Sub_l3_post0 : Vm.Pat := ⟨25, [(2, .arr 0), (4, .arr 1)], [.row .u64, .row .u64], []⟩
def wI_Sub_l3_enc0 : List Int × List Int → List U := fun r => [.r r.1, .r r.2]
def wI_Sub_l3_dec0 : List U → Option (List Int × List Int) := fun | [.r l2, .r l4] => some (l2, l4) | _ => none
def wI_Sub_l3 (K : Nat) : Nat → Int → Int → List Int → List Int → List Int → Option (List Int × List Int)
 | 0, _, _, _, _, _ => none
 | k + 1, x5, x7, l2, l3, l4 => (if (decide (x7 < 6)) = true then
 (if (decide (0 ≤ x7) && decide (x7 < 6) && decide (x7.toNat < l2.length)) = true then
 (if (decide (0 ≤ x7) && decide (x7 < 6) && decide (x7.toNat < l3.length)) = true then
 ((sub64 (nth 0 l2 x7.toNat)
 (nth 0 l3 x7.toNat) x5).bind fun r0 => (if (decide (0 ≤ x7) && decide (x7 < 6) && decide (x7.toNat < l2.length)) = true then
 (wI_Sub_l3 K k (r0.snd) (IntKind.i64.wrap (x7 + 1)) (l2.set x7.toNat r0.fst) (l3) (l4))
 else none))
 else none)
 else none)
 else (some ((l2, l4))))
def wI_Sub_l3_w (K k : Nat) : List U → Option (List Int × List Int) := fun | [.i x5, .i x7, .r l2, .r l3, .r l4] => wI_Sub_l3 K k x5 x7 l2 l3 l4 | _ => none
theorem wI_Sub_l3_eq (K k : Nat) (x5 : Int) (x7 : Int) (l2 : List Int) (l3 : List Int) (l4 : List Int) : (round1 Try.prog (env_wI_Add K) (lenv0) (lp (bodyOf Try.f62) 0) wI_Sub_l3_pre (.exit 0) wI_Sub_l3_post0 wI_Sub_l3_dec0 (wI_Sub_l3_w K k) [.i x5, .i x7, .r l2, .r l3, .r l4]).den = wI_Sub_l3 K (k + 1) x5 x7 l2 l3 l4 := by kernel_rfl
def wI_Sub_l3_s (K : Nat) : Vm.LS := .one wI_Sub_l3_pre _ (.exit 0) wI_Sub_l3_post0 (wI_Sub_l3_w K K) wI_Sub_l3_enc0
theorem wI_Sub_l3_ok (K : Nat) : LoopOk Try.prog (lp (bodyOf Try.f62) 0) (wI_Sub_l3_s K) := loop_one hmix (env_wI_Add_ok K) (lenv := lenv0) (L := wI_Sub_l3_w K) (enc := wI_Sub_l3_enc0) (dec := wI_Sub_l3_dec0) (lps_ok (l := []) (by kernel_rfl) trivial) (fun u r h => by unfold wI_Sub_l3_dec0 at h; split at h; (cases h; rfl); cases h) (fun us => by unfold wI_Sub_l3_w; split <;> first | rfl | (simp only [wI_Sub_l3])) (fun k us r h => by unfold wI_Sub_l3_w at h; split at h; exact (wI_Sub_l3_eq K k _ _ _ _ _).trans h; cases h) K
def wI_Sub_v3 (K : Nat) : Nat → Option Vm.LS := addL (lenv0) 3 (wI_Sub_l3_s K)
def wI_Sub_dec : List U → Option (Int × Int × Int × Int × Int × Int) := fun | [.i x0_0, .i x0_1, .i x0_2, .i x0_3, .i x0_4, .i x0_5] => some (x0_0, x0_1, x0_2, x0_3, x0_4, x0_5) | _ => none
def wI_Sub_enc : (Int × Int × Int × Int × Int × Int) → List U := fun r => [.i r.1, .i r.2.1, .i r.2.2.1, .i r.2.2.2.1, .i r.2.2.2.2.1, .i r.2.2.2.2.2]
def wI_Sub (K : Nat) (x0_0 : Int) (x0_1 : Int) (x0_2 : Int) (x0_3 : Int) (x0_4 : Int) (x0_5 : Int) (x1_0 : Int) (x1_1 : Int) (x1_2 : Int) (x1_3 : Int) (x1_4 : Int) (x1_5 : Int) : Option (Int × Int × Int × Int × Int × Int) := ((wI_Sub_l3 K K 0 0 [x0_0, x0_1, x0_2, x0_3, x0_4, x0_5]
 [x1_0, x1_1, x1_2, x1_3, x1_4, x1_5] [0, 0, 0, 0, 0, 0]).bind fun r0 => (if (decide (6 ≤ r0.fst.length)) = true then
 (if (decide (r0.snd.length = 6)) = true then
 (some ((nth 0 r0.fst 0, nth 0 r0.fst 1,
 nth 0 r0.fst 2, nth 0 r0.fst 3,
 nth 0 r0.fst 4, nth 0 r0.fst 5)))
 else none)
 else none))
theorem wI_Sub_eq (K : Nat) (x0_0 : Int) (x0_1 : Int) (x0_2 : Int) (x0_3 : Int) (x0_4 : Int) (x0_5 : Int) (x1_0 : Int) (x1_1 : Int) (x1_2 : Int) (x1_3 : Int) (x1_4 : Int) (x1_5 : Int) : (runF Try.prog (env_wI_Add K) (wI_Sub_v3 K) Try.f62 [.agg [.int .u64, .int .u64, .int .u64, .int .u64, .int .u64, .int .u64], .agg [.int .u64, .int .u64, .int .u64, .int .u64, .int .u64, .int .u64]] [.agg [.int .u64, .int .u64, .int .u64, .int .u64, .int .u64, .int .u64]] wI_Sub_dec [.i x0_0, .i x0_1, .i x0_2, .i x0_3, .i x0_4, .i x0_5, .i x1_0, .i x1_1, .i x1_2, .i x1_3, .i x1_4, .i x1_5]).den = wI_Sub K x0_0 x0_1 x0_2 x0_3 x0_4 x0_5 x1_0 x1_1 x1_2 x1_3 x1_4 x1_5 := by kernel_rfl
def wI_Sub_w (K : Nat) : List U → Option (Int × Int × Int × Int × Int × Int) := fun | [.i x0_0, .i x0_1, .i x0_2, .i x0_3, .i x0_4, .i x0_5, .i x1_0, .i x1_1, .i x1_2, .i x1_3, .i x1_4, .i x1_5] => wI_Sub K x0_0 x0_1 x0_2 x0_3 x0_4 x0_5 x1_0 x1_1 x1_2 x1_3 x1_4 x1_5 | _ => none
def wI_Sub_spec (K : Nat) : Vm.Spec := ⟨[.agg [.int .u64, .int .u64, .int .u64, .int .u64, .int .u64, .int .u64], .agg [.int .u64, .int .u64, .int .u64, .int .u64, .int .u64, .int .u64]], [.agg [.int .u64, .int .u64, .int .u64, .int .u64, .int .u64, .int .u64]], Int × Int × Int × Int × Int × Int, wI_Sub_w K, wI_Sub_enc⟩
theorem wI_Sub_ok (K : Nat) : FnOk Try.prog 62 (wI_Sub_spec K) := fn_ok' hmix (env_wI_Add_ok K) (lenv := wI_Sub_v3 K) (args := [.agg [.int .u64, .int .u64, .int .u64, .int .u64, .int .u64, .int .u64], .agg [.int .u64, .int .u64, .int .u64, .int .u64, .int .u64, .int .u64]]) (res := [.agg [.int .u64, .int .u64, .int .u64, .int .u64, .int .u64, .int .u64]]) (G := wI_Sub_w K) (enc := wI_Sub_enc) Try.func62 (lps_fn (l := [lp (bodyOf Try.f62) 0]) (by kernel_rfl) ⟨⟨3, wI_Sub_l3_s K, by kernel_rfl, by kernel_rfl, wI_Sub_l3_ok K⟩, trivial⟩) (dec := wI_Sub_dec) (fun u r h => by unfold wI_Sub_dec at h; split at h; (cases h; rfl); cases h) (fun us r h => by unfold wI_Sub_w at h; split at h; exact (wI_Sub_eq K _ _ _ _ _ _ _ _ _ _ _ _).trans h; cases h)
def env_wI_Sub (K : Nat) : FuncId → Option Vm.Spec := addS (env_wI_Add K) 62 (wI_Sub_spec K)
theorem env_wI_Sub_ok (K : Nat) : EnvOk Try.prog (env_wI_Sub K) := addS_ok (env_wI_Add_ok K) (.inl ⟨callable Try.func62 (by kernel_rfl) (by kernel_rfl), wI_Sub_ok K⟩)
def wI_Mul_l7_pre : Vm.Pat := ⟨61, [(6, .pv (.one (.int .i64))), (7, .pv (.one (.int .u64))), (8, .pv (.one (.int .u64))), (9, .pv (.one (.int .i64))), (13, .pv (.agg [.int .u64, .int .u64, .int .u64, .int .u64, .int .u64, .int .u64])), (14, .pv (.one (.int .i64))), (3, .arr 0), (4, .arr 1), (5, .arr 2)], [.row .u64, .row .u64, .row .u64], []⟩
def wI_Mul_l7_post0 : Vm.Pat := ⟨61, [(13, .pv (.agg [.int .u64, .int .u64, .int .u64, .int .u64, .int .u64, .int .u64])), (14, .pv (.one (.int .i64))), (3, .arr 0), (4, .arr 1), (5, .arr 2)], [.row .u64, .row .u64, .row .u64], []⟩
def wI_Mul_l7_enc0 : Int × Int × Int × Int × Int × Int × Int × List Int × List Int × List Int → List U := fun r => [.i r.1, .i r.2.1, .i r.2.2.1, .i r.2.2.2.1, .i r.2.2.2.2.1, .i r.2.2.2.2.2.1, .i r.2.2.2.2.2.2.1, .r r.2.2.2.2.2.2.2.1, .r r.2.2.2.2.2.2.2.2.1, .r r.2.2.2.2.2.2.2.2.2]
def wI_Mul_l7_dec0 : List U → Option (Int × Int × Int × Int × Int × Int × Int × List Int × List Int × List Int) := fun | [.i x13_0, .i x13_1, .i x13_2, .i x13_3, .i x13_4, .i x13_5, .i x14, .r l3, .r l4, .r l5] => some (x13_0, x13_1, x13_2, x13_3, x13_4, x13_5, x14, l3, l4, l5) | _ => none
def wI_Mul_l7 (K : Nat) : Nat → Int → Int → Int → Int → Int → Int → Int → Int → Int → Int → Int → List Int → List Int → List Int → Option (Int × Int × Int × Int × Int × Int × Int × List Int × List Int × List Int)
 | 0, _, _, _, _, _, _, _, _, _, _, _, _, _, _ => none
 | k + 1, x6, x7, x8, x9, x13_0, x13_1, x13_2, x13_3, x13_4, x13_5, x14, l3, l4, l5 => (if (decide (IntKind.i64.wrap (x6 + x9) < 6)) = true then
 (if (decide (0 ≤ x9) && decide (x9 < 6) && decide (x9.toNat < l3.length)) = true then
 ((bits_Mul64 K x7 (nth 0 l3 x9.toNat)).bind fun r0 => (if (decide (0 ≤ IntKind.i64.wrap (x6 + x9)) && decide (IntKind.i64.wrap (x6 + x9) < 6) &&
 decide ((IntKind.i64.wrap (x6 + x9)).toNat < l5.length)) = true then
 ((add64 r0.snd
 (nth 0 l5 (IntKind.i64.wrap (x6 + x9)).toNat) 0).bind fun r1 => ((add64 r1.fst x8 0).bind fun r2 => (if (decide (0 ≤ IntKind.i64.wrap (x6 + x9)) && decide (IntKind.i64.wrap (x6 + x9) < 6) &&
 decide ((IntKind.i64.wrap (x6 + x9)).toNat < l5.length)) = true then
 (wI_Mul_l7 K k (x6) (x7) (IntKind.u64.wrap (IntKind.u64.wrap (r0.fst + r1.snd) + r2.snd)) (IntKind.i64.wrap (x9 + 1)) (x13_0) (x13_1) (x13_2) (x13_3) (x13_4) (x13_5) (x14) (l3) (l4) (l5.set (IntKind.i64.wrap (x6 + x9)).toNat r2.fst))
 else none)))
 else none))
 else none)
 else (some ((x13_0, x13_1, x13_2, x13_3, x13_4, x13_5, x14, l3, l4, l5))))
def wI_Mul_l7_w (K k : Nat) : List U → Option (Int × Int × Int × Int × Int × Int × Int × List Int × List Int × List Int) := fun | [.i x6, .i x7, .i x8, .i x9, .i x13_0, .i x13_1, .i x13_2, .i x13_3, .i x13_4, .i x13_5, .i x14, .r l3, .r l4, .r l5] => wI_Mul_l7 K k x6 x7 x8 x9 x13_0 x13_1 x13_2 x13_3 x13_4 x13_5 x14 l3 l4 l5 | _ => none
theorem wI_Mul_l7_eq (K k : Nat) (x6 : Int) (x7 : Int) (x8 : Int) (x9 : Int) (x13_0 : Int) (x13_1 : Int) (x13_2 : Int) (x13_3 : Int) (x13_4 : Int) (x13_5 : Int) (x14 : Int) (l3 : List Int) (l4 : List Int) (l5 : List Int) : (round1 Try.prog (env_wI_Sub K) (lenv0) (lp (lp (bodyOf Try.f58) 0) 0) wI_Mul_l7_pre (.exit 2) wI_Mul_l7_post0 wI_Mul_l7_dec0 (wI_Mul_l7_w K k) [.i x6, .i x7, .i x8, .i x9, .i x13_0, .i x13_1, .i x13_2, .i x13_3, .i x13_4, .i x13_5, .i x14, .r l3, .r l4, .r l5]).den = wI_Mul_l7 K (k + 1) x6 x7 x8 x9 x13_0 x13_1 x13_2 x13_3 x13_4 x13_5 x14 l3 l4 l5 := by kernel_rfl
def wI_Mul_l7_s (K : Nat) : Vm.LS := .one wI_Mul_l7_pre _ (.exit 2) wI_Mul_l7_post0 (wI_Mul_l7_w K K) wI_Mul_l7_enc0
theorem wI_Mul_l7_ok (K : Nat) : LoopOk Try.prog (lp (lp (bodyOf Try.f58) 0) 0) (wI_Mul_l7_s K) := loop_one hmix (env_wI_Sub_ok K) (lenv := lenv0) (L := wI_Mul_l7_w K) (enc := wI_Mul_l7_enc0) (dec := wI_Mul_l7_dec0) (lps_ok (l := []) (by kernel_rfl) trivial) (fun u r h => by unfold wI_Mul_l7_dec0 at h; split at h; (cases h; rfl); cases h) (fun us => by unfold wI_Mul_l7_w; split <;> first | rfl | (simp only [wI_Mul_l7])) (fun k us r h => by unfold wI_Mul_l7_w at h; split at h; exact (wI_Mul_l7_eq K k _ _ _ _ _ _ _ _ _ _ _ _ _ _).trans h; cases h) K
def wI_Mul_v7 (K : Nat) : Nat → Option Vm.LS := addL (lenv0) 7 (wI_Mul_l7_s K)
def wI_Mul_l3_pre : Vm.Pat := ⟨61, [(13, .pv (.agg [.int .u64, .int .u64, .int .u64, .int .u64, .int .u64, .int .u64])), (14, .pv (.one (.int .i64))), (3, .arr 0), (4, .arr 1), (5, .arr 2)], [.row .u64, .row .u64, .row .u64], []⟩
def wI_Mul_l3_post0 : Vm.Pat := ⟨61, [(4, .arr 0), (5, .arr 1)], [.row .u64, .row .u64], []⟩
def wI_Mul_l3_enc0 : List Int × List Int → List U := fun r => [.r r.1, .r r.2]
def wI_Mul_l3_dec0 : List U → Option (List Int × List Int) := fun | [.r l4, .r l5] => some (l4, l5) | _ => none
def wI_Mul_l3 (K : Nat) : Nat → Int → Int → Int → Int → Int → Int → Int → List Int → List Int → List Int → Option (List Int × List Int)
 | 0, _, _, _, _, _, _, _, _, _, _ => none
 | k + 1, x13_0, x13_1, x13_2, x13_3, x13_4, x13_5, x14, l3, l4, l5 => (if (decide (x14 < 6)) = true then
 (if (decide (0 ≤ x14) && decide (x14 < 6)) = true then
 ((wI_Mul_l7 K K x14
 (nth 0 [x13_0, x13_1, x13_2, x13_3, x13_4, x13_5] x14.toNat) 0 0 x13_0 x13_1 x13_2 x13_3
 x13_4 x13_5 x14 l3 l4 l5).bind fun r0 => (wI_Mul_l3 K k (r0.fst) (r0.snd.fst) (r0.snd.snd.fst) (r0.snd.snd.snd.fst) (r0.snd.snd.snd.snd.fst) (r0.snd.snd.snd.snd.snd.fst) (IntKind.i64.wrap (r0.snd.snd.snd.snd.snd.snd.fst + 1)) (r0.snd.snd.snd.snd.snd.snd.snd.fst) (r0.snd.snd.snd.snd.snd.snd.snd.snd.fst) (r0.snd.snd.snd.snd.snd.snd.snd.snd.snd)))
 else none)
 else (some ((l4, l5))))
def wI_Mul_l3_w (K k : Nat) : List U → Option (List Int × List Int) := fun | [.i x13_0, .i x13_1, .i x13_2, .i x13_3, .i x13_4, .i x13_5, .i x14, .r l3, .r l4, .r l5] => wI_Mul_l3 K k x13_0 x13_1 x13_2 x13_3 x13_4 x13_5 x14 l3 l4 l5 | _ => none
theorem wI_Mul_l3_eq (K k : Nat) (x13_0 : Int) (x13_1 : Int) (x13_2 : Int) (x13_3 : Int) (x13_4 : Int) (x13_5 : Int) (x14 : Int) (l3 : List Int) (l4 : List Int) (l5 : List Int) : (round1 Try.prog (env_wI_Sub K) (wI_Mul_v7 K) (lp (bodyOf Try.f58) 0) wI_Mul_l3_pre (.exit 0) wI_Mul_l3_post0 wI_Mul_l3_dec0 (wI_Mul_l3_w K k) [.i x13_0, .i x13_1, .i x13_2, .i x13_3, .i x13_4, .i x13_5, .i x14, .r l3, .r l4, .r l5]).den = wI_Mul_l3 K (k + 1) x13_0 x13_1 x13_2 x13_3 x13_4 x13_5 x14 l3 l4 l5 := by kernel_rfl
def wI_Mul_l3_s (K : Nat) : Vm.LS := .one wI_Mul_l3_pre _ (.exit 0) wI_Mul_l3_post0 (wI_Mul_l3_w K K) wI_Mul_l3_enc0
theorem wI_Mul_l3_ok (K : Nat) : LoopOk Try.prog (lp (bodyOf Try.f58) 0) (wI_Mul_l3_s K) := loop_one hmix (env_wI_Sub_ok K) (lenv := wI_Mul_v7 K) (L := wI_Mul_l3_w K) (enc := wI_Mul_l3_enc0) (dec := wI_Mul_l3_dec0) (lps_ok (l := [lp (lp (bodyOf Try.f58) 0) 0]) (by kernel_rfl) ⟨⟨7, wI_Mul_l7_s K, by kernel_rfl, by kernel_rfl, wI_Mul_l7_ok K⟩, trivial⟩) (fun u r h => by unfold wI_Mul_l3_dec0 at h; split at h; (cases h; rfl); cases h) (fun us => by unfold wI_Mul_l3_w; split <;> first | rfl | (simp only [wI_Mul_l3])) (fun k us r h => by unfold wI_Mul_l3_w at h; split at h; exact (wI_Mul_l3_eq K k _ _ _ _ _ _ _ _ _ _).trans h; cases h) K
def wI_Mul_v3 (K : Nat) : Nat → Option Vm.LS := addL (wI_Mul_v7 K) 3 (wI_Mul_l3_s K)
def wI_Mul_dec : List U → Option (Int × Int × Int × Int × Int × Int) := fun | [.i x0_0, .i x0_1, .i x0_2, .i x0_3, .i x0_4, .i x0_5] => some (x0_0, x0_1, x0_2, x0_3, x0_4, x0_5) | _ => none
def wI_Mul_enc : (Int × Int × Int × Int × Int × Int) → List U := fun r => [.i r.1, .i r.2.1, .i r.2.2.1, .i r.2.2.2.1, .i r.2.2.2.2.1, .i r.2.2.2.2.2]
def wI_Mul (K : Nat) (x0_0 : Int) (x0_1 : Int) (x0_2 : Int) (x0_3 : Int) (x0_4 : Int) (x0_5 : Int) (x1_0 : Int) (x1_1 : Int) (x1_2 : Int) (x1_3 : Int) (x1_4 : Int) (x1_5 : Int) : Option (Int × Int × Int × Int × Int × Int) := ((wI_Mul_l3 K K x0_0 x0_1 x0_2 x0_3 x0_4 x0_5 0 [x1_0, x1_1, x1_2, x1_3, x1_4, x1_5]
 [0, 0, 0, 0, 0, 0] [0, 0, 0, 0, 0, 0]).bind fun r0 => (if (decide (6 ≤ r0.snd.length)) = true then
 (if (decide (r0.fst.length = 6)) = true then
 (some ((nth 0 r0.snd 0, nth 0 r0.snd 1,
 nth 0 r0.snd 2, nth 0 r0.snd 3,
 nth 0 r0.snd 4, nth 0 r0.snd 5)))
 else none)
 else none))
theorem wI_Mul_eq (K : Nat) (x0_0 : Int) (x0_1 : Int) (x0_2 : Int) (x0_3 : Int) (x0_4 : Int) (x0_5 : Int) (x1_0 : Int) (x1_1 : Int) (x1_2 : Int) (x1_3 : Int) (x1_4 : Int) (x1_5 : Int) : (runF Try.prog (env_wI_Sub K) (wI_Mul_v3 K) Try.f58 [.agg [.int .u64, .int .u64, .int .u64, .int .u64, .int .u64, .int .u64], .agg [.int .u64, .int .u64, .int .u64, .int .u64, .int .u64, .int .u64]] [.agg [.int .u64, .int .u64, .int .u64, .int .u64, .int .u64, .int .u64]] wI_Mul_dec [.i x0_0, .i x0_1, .i x0_2, .i x0_3, .i x0_4, .i x0_5, .i x1_0, .i x1_1, .i x1_2, .i x1_3, .i x1_4, .i x1_5]).den = wI_Mul K x0_0 x0_1 x0_2 x0_3 x0_4 x0_5 x1_0 x1_1 x1_2 x1_3 x1_4 x1_5 := by kernel_rfl
def wI_Mul_w (K : Nat) : List U → Option (Int × Int × Int × Int × Int × Int) := fun | [.i x0_0, .i x0_1, .i x0_2, .i x0_3, .i x0_4, .i x0_5, .i x1_0, .i x1_1, .i x1_2, .i x1_3, .i x1_4, .i x1_5] => wI_Mul K x0_0 x0_1 x0_2 x0_3 x0_4 x0_5 x1_0 x1_1 x1_2 x1_3 x1_4 x1_5 | _ => none
def wI_Mul_spec (K : Nat) : Vm.Spec := ⟨[.agg [.int .u64, .int .u64, .int .u64, .int .u64, .int .u64, .int .u64], .agg [.int .u64, .int .u64, .int .u64, .int .u64, .int .u64, .int .u64]], [.agg [.int .u64, .int .u64, .int .u64, .int .u64, .int .u64, .int .u64]], Int × Int × Int × Int × Int × Int, wI_Mul_w K, wI_Mul_enc⟩
theorem wI_Mul_ok (K : Nat) : FnOk Try.prog 58 (wI_Mul_spec K) := fn_ok' hmix (env_wI_Sub_ok K) (lenv := wI_Mul_v3 K) (args := [.agg [.int .u64, .int .u64, .int .u64, .int .u64, .int .u64, .int .u64], .agg [.int .u64, .int .u64, .int .u64, .int .u64, .int .u64, .int .u64]]) (res := [.agg [.int .u64, .int .u64, .int .u64, .int .u64, .int .u64, .int .u64]]) (G := wI_Mul_w K) (enc := wI_Mul_enc) Try.func58 (lps_fn (l := [lp (bodyOf Try.f58) 0]) (by kernel_rfl) ⟨⟨3, wI_Mul_l3_s K, by kernel_rfl, by kernel_rfl, wI_Mul_l3_ok K⟩, trivial⟩) (dec := wI_Mul_dec) (fun u r h => by unfold wI_Mul_dec at h; split at h; (cases h; rfl); cases h) (fun us r h => by unfold wI_Mul_w at h; split at h; exact (wI_Mul_eq K _ _ _ _ _ _ _ _ _ _ _ _).trans h; cases h)
def env_wI_Mul (K : Nat) : FuncId → Option Vm.Spec := addS (env_wI_Sub K) 58 (wI_Mul_spec K)
theorem env_wI_Mul_ok (K : Nat) : EnvOk Try.prog (env_wI_Mul K) := addS_ok (env_wI_Sub_ok K) (.inl ⟨callable Try.func58 (by kernel_rfl) (by kernel_rfl), wI_Mul_ok K⟩)
def wI_Len_l2_pre : Vm.Pat := ⟨19, [(3, .pv (.one (.int .i64))), (1, .arr 0)], [.row .u64], []⟩
def wI_Len_l2_post0 : Vm.Pat := ⟨19, [], [], []⟩
def wI_Len_l2_enc0 : Unit → List U := fun _ => []
def wI_Len_l2_dec0 : List U → Option (Unit) := fun | [] => some () | _ => none
def wI_Len_l2_post1 : Vm.Pat := ⟨19, [(2, .pv (.one (.int .i64)))], [], []⟩
def wI_Len_l2_enc1 : Int → List U := fun r => [.i r]
def wI_Len_l2_dec1 : List U → Option (Int) := fun | [.i x2] => some (x2) | _ => none
def wI_Len_l2 (K : Nat) : Nat → Int → List Int → Option ((Unit) ⊕ (Int))
 | 0, _, _ => none
 | k + 1, x3, l1 => (if (decide (x3 ≥ 0)) = true then
 (if (decide (0 ≤ x3) && decide (x3 < 6) && decide (x3.toNat < l1.length)) = true then
 (if (decide (nth 0 l1 x3.toNat > 0)) = true then
 (if (decide (0 ≤ x3) && decide (x3 < 6) && decide (x3.toNat < l1.length)) = true then
 ((bits_Len64 K (nth 0 l1 x3.toNat)).bind fun r0 => (some (Sum.inr (IntKind.i64.wrap (IntKind.i64.wrap (64 * x3) + r0)))))
 else none)
 else (wI_Len_l2 K k (IntKind.i64.wrap (x3 - 1)) (l1)))
 else none)
 else (some (Sum.inl ())))
def wI_Len_l2_w (K k : Nat) : List U → Option ((Unit) ⊕ (Int)) := fun | [.i x3, .r l1] => wI_Len_l2 K k x3 l1 | _ => none
theorem wI_Len_l2_eq (K k : Nat) (x3 : Int) (l1 : List Int) : (round2 Try.prog (env_wI_Mul K) (lenv0) (lp (bodyOf Try.f55) 0) wI_Len_l2_pre (.exit 0) wI_Len_l2_post0 .ret wI_Len_l2_post1 wI_Len_l2_dec0 wI_Len_l2_dec1 (wI_Len_l2_w K k) [.i x3, .r l1]).den = wI_Len_l2 K (k + 1) x3 l1 := by kernel_rfl
def wI_Len_l2_s (K : Nat) : Vm.LS := .two wI_Len_l2_pre _ _ (.exit 0) wI_Len_l2_post0 .ret wI_Len_l2_post1 (wI_Len_l2_w K K) wI_Len_l2_enc0 wI_Len_l2_enc1
theorem wI_Len_l2_ok (K : Nat) : LoopOk Try.prog (lp (bodyOf Try.f55) 0) (wI_Len_l2_s K) := loop_two hmix (env_wI_Mul_ok K) (lenv := lenv0) (L := wI_Len_l2_w K) (enc := wI_Len_l2_enc0) (dec := wI_Len_l2_dec0) (enc' := wI_Len_l2_enc1) (dec' := wI_Len_l2_dec1) (lps_ok (l := []) (by kernel_rfl) trivial) (fun u r h => by unfold wI_Len_l2_dec0 at h; split at h; (cases h; rfl); cases h) (fun u r h => by unfold wI_Len_l2_dec1 at h; split at h; (cases h; rfl); cases h) (fun us => by unfold wI_Len_l2_w; split <;> first | rfl | (simp only [wI_Len_l2])) (fun k us r h => by unfold wI_Len_l2_w at h; split at h; exact (wI_Len_l2_eq K k _ _).trans h; cases h) K
def wI_Len_v2 (K : Nat) : Nat → Option Vm.LS := addL (lenv0) 2 (wI_Len_l2_s K)
def wI_Len_dec : List U → Option (Int) := fun | [.i x0] => some (x0) | _ => none
def wI_Len_enc : (Int) → List U := fun r => [.i r]
def wI_Len (K : Nat) (x0_0 : Int) (x0_1 : Int) (x0_2 : Int) (x0_3 : Int) (x0_4 : Int) (x0_5 : Int) : Option (Int) := (casO (wI_Len_l2 K K 5 [x0_0, x0_1, x0_2, x0_3, x0_4, x0_5]) (fun r0 => (some (0))) (fun r1 => (some r1)))
theorem wI_Len_eq (K : Nat) (x0_0 : Int) (x0_1 : Int) (x0_2 : Int) (x0_3 : Int) (x0_4 : Int) (x0_5 : Int) : (runF Try.prog (env_wI_Mul K) (wI_Len_v2 K) Try.f55 [.agg [.int .u64, .int .u64, .int .u64, .int .u64, .int .u64, .int .u64]] [.one (.int .i64)] wI_Len_dec [.i x0_0, .i x0_1, .i x0_2, .i x0_3, .i x0_4, .i x0_5]).den = wI_Len K x0_0 x0_1 x0_2 x0_3 x0_4 x0_5 := by kernel_rfl
def wI_Len_w (K : Nat) : List U → Option (Int) := fun | [.i x0_0, .i x0_1, .i x0_2, .i x0_3, .i x0_4, .i x0_5] => wI_Len K x0_0 x0_1 x0_2 x0_3 x0_4 x0_5 | _ => none
def wI_Len_spec (K : Nat) : Vm.Spec := ⟨[.agg [.int .u64, .int .u64, .int .u64, .int .u64, .int .u64, .int .u64]], [.one (.int .i64)], Int, wI_Len_w K, wI_Len_enc⟩
theorem wI_Len_ok (K : Nat) : FnOk Try.prog 55 (wI_Len_spec K) := fn_ok' hmix (env_wI_Mul_ok K) (lenv := wI_Len_v2 K) (args := [.agg [.int .u64, .int .u64, .int .u64, .int .u64, .int .u64, .int .u64]]) (res := [.one (.int .i64)]) (G := wI_Len_w K) (enc := wI_Len_enc) Try.func55 (lps_fn (l := [lp (bodyOf Try.f55) 0]) (by kernel_rfl) ⟨⟨2, wI_Len_l2_s K, by kernel_rfl, by kernel_rfl, wI_Len_l2_ok K⟩, trivial⟩) (dec := wI_Len_dec) (fun u r h => by unfold wI_Len_dec at h; split at h; (cases h; rfl); cases h) (fun us r h => by unfold wI_Len_w at h; split at h; exact (wI_Len_eq K _ _ _ _ _ _).trans h; cases h)
def env_wI_Len (K : Nat) : FuncId → Option Vm.Spec := addS (env_wI_Mul K) 55 (wI_Len_spec K)
theorem env_wI_Len_ok (K : Nat) : EnvOk Try.prog (env_wI_Len K) := addS_ok (env_wI_Mul_ok K) (.inl ⟨callable Try.func55 (by kernel_rfl) (by kernel_rfl), wI_Len_ok K⟩)
def wI_Left_l4_pre : Vm.Pat := ⟨50, [(6, .pv (.one (.int .i64))), (7, .pv (.one (.int .u64))), (8, .pv (.one (.int .i64))), (2, .arr 0), (4, .arr 1), (5, .arr 2)], [.row .u64, .row .u64, .row .u64], []⟩
def wI_Left_l4_post0 : Vm.Pat := ⟨50, [(4, .arr 0), (5, .arr 1)], [.row .u64, .row .u64], []⟩
def wI_Left_l4_enc0 : List Int × List Int → List U := fun r => [.r r.1, .r r.2]
def wI_Left_l4_dec0 : List U → Option (List Int × List Int) := fun | [.r l4, .r l5] => some (l4, l5) | _ => none
def wI_Left_l4 (K : Nat) : Nat → Int → Int → Int → List Int → List Int → List Int → Option (List Int × List Int)
 | 0, _, _, _, _, _, _ => none
 | k + 1, x6, x7, x8, l2, l4, l5 => (if (decide (x8 ≥ x6)) = true then
 (if (decide (0 ≤ IntKind.i64.wrap (x8 - x6)) && decide (IntKind.i64.wrap (x8 - x6) < 6) &&
 decide ((IntKind.i64.wrap (x8 - x6)).toNat < l2.length)) = true then
 (if (decide (x7 < 0)) = true then
 none
 else (if (decide (0 ≤ x8) && decide (x8 < 6) && decide (x8.toNat < l5.length)) = true then
 (if (decide (x7 > 0)) = true then
 (if (decide (x8 > x6)) = true then
 (if (decide (0 ≤ x8) && decide (x8 < 6) &&
 decide
 (x8.toNat <
 (l5.set x8.toNat
 (IntKind.u64.wrap
 (nth 0 l2 (IntKind.i64.wrap (x8 - x6)).toNat *
 2 ^ Min.min x7.toNat 64))).length)) = true then
 (if (decide (0 ≤ IntKind.i64.wrap (IntKind.i64.wrap (x8 - x6) - 1)) &&
 decide (IntKind.i64.wrap (IntKind.i64.wrap (x8 - x6) - 1) < 6) &&
 decide ((IntKind.i64.wrap (IntKind.i64.wrap (x8 - x6) - 1)).toNat < l2.length)) = true then
 (if (decide (IntKind.u64.wrap (64 - x7) < 0)) = true then
 none
 else (if (decide (0 ≤ x8) && decide (x8 < 6) &&
 decide
 (x8.toNat <
 (l5.set x8.toNat
 (IntKind.u64.wrap
 (nth 0 l2 (IntKind.i64.wrap (x8 - x6)).toNat *
 2 ^ Min.min x7.toNat 64))).length)) = true then
 (wI_Left_l4 K k (x6) (x7) (IntKind.i64.wrap (x8 - 1)) (l2) (l4) ((l5.set x8.toNat
 (IntKind.u64.wrap
 (nth 0 l2 (IntKind.i64.wrap (x8 - x6)).toNat * 2 ^ Min.min x7.toNat 64))).set
 x8.toNat
 (lor IntKind.u64
 (nth 0
 (l5.set x8.toNat
 (IntKind.u64.wrap
 (nth 0 l2 (IntKind.i64.wrap (x8 - x6)).toNat * 2 ^ Min.min x7.toNat 64)))
 x8.toNat)
 ((nth 0 l2 (IntKind.i64.wrap (IntKind.i64.wrap (x8 - x6) - 1)).toNat).fdiv
 (2 ^ Min.min (IntKind.u64.wrap (64 - x7)).toNat 64)))))
 else none))
 else none)
 else none)
 else (wI_Left_l4 K k (x6) (x7) (IntKind.i64.wrap (x8 - 1)) (l2) (l4) (l5.set x8.toNat
 (IntKind.u64.wrap
 (nth 0 l2 (IntKind.i64.wrap (x8 - x6)).toNat * 2 ^ Min.min x7.toNat 64)))))
 else (wI_Left_l4 K k (x6) (x7) (IntKind.i64.wrap (x8 - 1)) (l2) (l4) (l5.set x8.toNat
 (IntKind.u64.wrap
 (nth 0 l2 (IntKind.i64.wrap (x8 - x6)).toNat * 2 ^ Min.min x7.toNat 64)))))
 else none))
 else none)
 else (some ((l4, l5))))
def wI_Left_l4_w (K k : Nat) : List U → Option (List Int × List Int) := fun | [.i x6, .i x7, .i x8, .r l2, .r l4, .r l5] => wI_Left_l4 K k x6 x7 x8 l2 l4 l5 | _ => none
theorem wI_Left_l4_eq (K k : Nat) (x6 : Int) (x7 : Int) (x8 : Int) (l2 : List Int) (l4 : List Int) (l5 : List Int) : (round1 Try.prog (env_wI_Len K) (lenv0) (lp (bodyOf Try.f82) 0) wI_Left_l4_pre (.exit 0) wI_Left_l4_post0 wI_Left_l4_dec0 (wI_Left_l4_w K k) [.i x6, .i x7, .i x8, .r l2, .r l4, .r l5]).den = wI_Left_l4 K (k + 1) x6 x7 x8 l2 l4 l5 := by kernel_rfl
def wI_Left_l4_s (K : Nat) : Vm.LS := .one wI_Left_l4_pre _ (.exit 0) wI_Left_l4_post0 (wI_Left_l4_w K K) wI_Left_l4_enc0
theorem wI_Left_l4_ok (K : Nat) : LoopOk Try.prog (lp (bodyOf Try.f82) 0) (wI_Left_l4_s K) := loop_one hmix (env_wI_Len_ok K) (lenv := lenv0) (L := wI_Left_l4_w K) (enc := wI_Left_l4_enc0) (dec := wI_Left_l4_dec0) (lps_ok (l := []) (by kernel_rfl) trivial) (fun u r h => by unfold wI_Left_l4_dec0 at h; split at h; (cases h; rfl); cases h) (fun us => by unfold wI_Left_l4_w; split <;> first | rfl | (simp only [wI_Left_l4])) (fun k us r h => by unfold wI_Left_l4_w at h; split at h; exact (wI_Left_l4_eq K k _ _ _ _ _ _).trans h; cases h) K
def wI_Left_v4 (K : Nat) : Nat → Option Vm.LS := addL (lenv0) 4 (wI_Left_l4_s K)
def wI_Left_dec : List U → Option (Int × Int × Int × Int × Int × Int) := fun | [.i x0_0, .i x0_1, .i x0_2, .i x0_3, .i x0_4, .i x0_5] => some (x0_0, x0_1, x0_2, x0_3, x0_4, x0_5) | _ => none
def wI_Left_enc : (Int × Int × Int × Int × Int × Int) → List U := fun r => [.i r.1, .i r.2.1, .i r.2.2.1, .i r.2.2.2.1, .i r.2.2.2.2.1, .i r.2.2.2.2.2]
def wI_Left (K : Nat) (x0_0 : Int) (x0_1 : Int) (x0_2 : Int) (x0_3 : Int) (x0_4 : Int) (x0_5 : Int) (x1 : Int) : Option (Int × Int × Int × Int × Int × Int) := ((wI_Left_l4 K K (x1.fdiv 64)
 (IntKind.u64.wrap (land IntKind.i64 x1 63)) 5 [x0_0, x0_1, x0_2, x0_3, x0_4, x0_5]
 [0, 0, 0, 0, 0, 0] [0, 0, 0, 0, 0, 0]).bind fun r0 => (if (decide (6 ≤ r0.snd.length)) = true then
 (if (decide (r0.fst.length = 6)) = true then
 (some ((nth 0 r0.snd 0, nth 0 r0.snd 1,
 nth 0 r0.snd 2, nth 0 r0.snd 3,
 nth 0 r0.snd 4, nth 0 r0.snd 5)))
 else none)
 else none))
theorem wI_Left_eq (K : Nat) (x0_0 : Int) (x0_1 : Int) (x0_2 : Int) (x0_3 : Int) (x0_4 : Int) (x0_5 : Int) (x1 : Int) : (runF Try.prog (env_wI_Len K) (wI_Left_v4 K) Try.f82 [.agg [.int .u64, .int .u64, .int .u64, .int .u64, .int .u64, .int .u64], .one (.int .i64)] [.agg [.int .u64, .int .u64, .int .u64, .int .u64, .int .u64, .int .u64]] wI_Left_dec [.i x0_0, .i x0_1, .i x0_2, .i x0_3, .i x0_4, .i x0_5, .i x1]).den = wI_Left K x0_0 x0_1 x0_2 x0_3 x0_4 x0_5 x1 := by kernel_rfl
def wI_Left_w (K : Nat) : List U → Option (Int × Int × Int × Int × Int × Int) := fun | [.i x0_0, .i x0_1, .i x0_2, .i x0_3, .i x0_4, .i x0_5, .i x1] => wI_Left K x0_0 x0_1 x0_2 x0_3 x0_4 x0_5 x1 | _ => none
def wI_Left_spec (K : Nat) : Vm.Spec := ⟨[.agg [.int .u64, .int .u64, .int .u64, .int .u64, .int .u64, .int .u64], .one (.int .i64)], [.agg [.int .u64, .int .u64, .int .u64, .int .u64, .int .u64, .int .u64]], Int × Int × Int × Int × Int × Int, wI_Left_w K, wI_Left_enc⟩
theorem wI_Left_ok (K : Nat) : FnOk Try.prog 82 (wI_Left_spec K) := fn_ok' hmix (env_wI_Len_ok K) (lenv := wI_Left_v4 K) (args := [.agg [.int .u64, .int .u64, .int .u64, .int .u64, .int .u64, .int .u64], .one (.int .i64)]) (res := [.agg [.int .u64, .int .u64, .int .u64, .int .u64, .int .u64, .int .u64]]) (G := wI_Left_w K) (enc := wI_Left_enc) Try.func82 (lps_fn (l := [lp (bodyOf Try.f82) 0]) (by kernel_rfl) ⟨⟨4, wI_Left_l4_s K, by kernel_rfl, by kernel_rfl, wI_Left_l4_ok K⟩, trivial⟩) (dec := wI_Left_dec) (fun u r h => by unfold wI_Left_dec at h; split at h; (cases h; rfl); cases h) (fun us r h => by unfold wI_Left_w at h; split at h; exact (wI_Left_eq K _ _ _ _ _ _ _).trans h; cases h)
def env_wI_Left (K : Nat) : FuncId → Option Vm.Spec := addS (env_wI_Len K) 82 (wI_Left_spec K)
theorem env_wI_Left_ok (K : Nat) : EnvOk Try.prog (env_wI_Left K) := addS_ok (env_wI_Len_ok K) (.inl ⟨callable Try.func82 (by kernel_rfl) (by kernel_rfl), wI_Left_ok K⟩)
def wI_Quo_l3_pre : Vm.Pat := ⟨40, [(7, .pv (.one (.int .i64))), (2, .arr 0), (3, .arr 1), (4, .arr 2), (5, .arr 3), (6, .arr 4)], [.row .u64, .row .u64, .row .u64, .row .u64, .row .u64], []⟩
def wI_Quo_l3_post0 : Vm.Pat := ⟨40, [(2, .arr 0), (4, .arr 1), (5, .arr 2), (6, .arr 3)], [.row .u64, .row .u64, .row .u64, .row .u64], []⟩
def wI_Quo_l3_enc0 : List Int × List Int × List Int × List Int → List U := fun r => [.r r.1, .r r.2.1, .r r.2.2.1, .r r.2.2.2]
def wI_Quo_l3_dec0 : List U → Option (List Int × List Int × List Int × List Int) := fun | [.r l2, .r l4, .r l5, .r l6] => some (l2, l4, l5, l6) | _ => none
def wI_Quo_l3 (K : Nat) : Nat → Int → List Int → List Int → List Int → List Int → List Int → Option (List Int × List Int × List Int × List Int)
 | 0, _, _, _, _, _, _ => none
 | k + 1, x7, l2, l3, l4, l5, l6 => (if (decide (x7 ≥ 0)) = true then
 (if (decide (6 ≤ l3.length)) = true then
 ((wI_Left K (nth 0 l3 0)
 (nth 0 l3 1) (nth 0 l3 2)
 (nth 0 l3 3) (nth 0 l3 4)
 (nth 0 l3 5) x7).bind fun r0 => (if (decide (6 ≤ l2.length)) = true then
 ((wI_Cmp K (nth 0 l2 0)
 (nth 0 l2 1) (nth 0 l2 2)
 (nth 0 l2 3) (nth 0 l2 4)
 (nth 0 l2 5) r0.fst r0.snd.fst r0.snd.snd.fst r0.snd.snd.snd.fst r0.snd.snd.snd.snd.fst
 r0.snd.snd.snd.snd.snd).bind fun r1 => (if (decide (r1 ≥ 0)) = true then
 (if (decide (6 ≤ l2.length)) = true then
 ((wI_Sub K (nth 0 l2 0)
 (nth 0 l2 1) (nth 0 l2 2)
 (nth 0 l2 3) (nth 0 l2 4)
 (nth 0 l2 5) r0.fst r0.snd.fst r0.snd.snd.fst r0.snd.snd.snd.fst r0.snd.snd.snd.snd.fst
 r0.snd.snd.snd.snd.snd).bind fun r2 => (if (decide (l2.length = 6)) = true then
 (if (decide (0 ≤ x7.fdiv 64) && decide (x7.fdiv 64 < 6) &&
 decide ((x7.fdiv 64).toNat < l6.length)) = true then
 (if (decide (IntKind.u64.wrap (land IntKind.i64 x7 63) < 0)) = true then
 none
 else (if (decide (0 ≤ x7.fdiv 64) && decide (x7.fdiv 64 < 6) &&
 decide ((x7.fdiv 64).toNat < l6.length)) = true then
 (wI_Quo_l3 K k (IntKind.i64.wrap (x7 - 1)) ([r2.fst, r2.snd.fst, r2.snd.snd.fst, r2.snd.snd.snd.fst, r2.snd.snd.snd.snd.fst, r2.snd.snd.snd.snd.snd]) (l3) (l4) (l5) (l6.set (x7.fdiv 64).toNat
 (lor IntKind.u64 (nth 0 l6 (x7.fdiv 64).toNat)
 (IntKind.u64.wrap
 (1 * 2 ^ Min.min (IntKind.u64.wrap (land IntKind.i64 x7 63)).toNat 64)))))
 else none))
 else none)
 else none))
 else none)
 else (wI_Quo_l3 K k (IntKind.i64.wrap (x7 - 1)) (l2) (l3) (l4) (l5) (l6))))
 else none))
 else none)
 else (some ((l2, l4, l5, l6))))
def wI_Quo_l3_w (K k : Nat) : List U → Option (List Int × List Int × List Int × List Int) := fun | [.i x7, .r l2, .r l3, .r l4, .r l5, .r l6] => wI_Quo_l3 K k x7 l2 l3 l4 l5 l6 | _ => none
theorem wI_Quo_l3_eq (K k : Nat) (x7 : Int) (l2 : List Int) (l3 : List Int) (l4 : List Int) (l5 : List Int) (l6 : List Int) : (round1 Try.prog (env_wI_Left K) (lenv0) (lp (bodyOf Try.f80) 0) wI_Quo_l3_pre (.exit 0) wI_Quo_l3_post0 wI_Quo_l3_dec0 (wI_Quo_l3_w K k) [.i x7, .r l2, .r l3, .r l4, .r l5, .r l6]).den = wI_Quo_l3 K (k + 1) x7 l2 l3 l4 l5 l6 := by kernel_rfl
def wI_Quo_l3_s (K : Nat) : Vm.LS := .one wI_Quo_l3_pre _ (.exit 0) wI_Quo_l3_post0 (wI_Quo_l3_w K K) wI_Quo_l3_enc0
theorem wI_Quo_l3_ok (K : Nat) : LoopOk Try.prog (lp (bodyOf Try.f80) 0) (wI_Quo_l3_s K) := loop_one hmix (env_wI_Left_ok K) (lenv := lenv0) (L := wI_Quo_l3_w K) (enc := wI_Quo_l3_enc0) (dec := wI_Quo_l3_dec0) (lps_ok (l := []) (by kernel_rfl) trivial) (fun u r h => by unfold wI_Quo_l3_dec0 at h; split at h; (cases h; rfl); cases h) (fun us => by unfold wI_Quo_l3_w; split <;> first | rfl | (simp only [wI_Quo_l3])) (fun k us r h => by unfold wI_Quo_l3_w at h; split at h; exact (wI_Quo_l3_eq K k _ _ _ _ _ _).trans h; cases h) K
def wI_Quo_v3 (K : Nat) : Nat → Option Vm.LS := addL (lenv0) 3 (wI_Quo_l3_s K)
def wI_Quo_dec : List U → Option (Int × Int × Int × Int × Int × Int × Int × Int × Int × Int × Int × Int) := fun | [.i x0_0, .i x0_1, .i x0_2, .i x0_3, .i x0_4, .i x0_5, .i x1_0, .i x1_1, .i x1_2, .i x1_3, .i x1_4, .i x1_5] => some (x0_0, x0_1, x0_2, x0_3, x0_4, x0_5, x1_0, x1_1, x1_2, x1_3, x1_4, x1_5) | _ => none
def wI_Quo_enc : (Int × Int × Int × Int × Int × Int × Int × Int × Int × Int × Int × Int) → List U := fun r => [.i r.1, .i r.2.1, .i r.2.2.1, .i r.2.2.2.1, .i r.2.2.2.2.1, .i r.2.2.2.2.2.1, .i r.2.2.2.2.2.2.1, .i r.2.2.2.2.2.2.2.1, .i r.2.2.2.2.2.2.2.2.1, .i r.2.2.2.2.2.2.2.2.2.1, .i r.2.2.2.2.2.2.2.2.2.2.1, .i r.2.2.2.2.2.2.2.2.2.2.2]
def wI_Quo (K : Nat) (x0_0 : Int) (x0_1 : Int) (x0_2 : Int) (x0_3 : Int) (x0_4 : Int) (x0_5 : Int) (x1_0 : Int) (x1_1 : Int) (x1_2 : Int) (x1_3 : Int) (x1_4 : Int) (x1_5 : Int) : Option (Int × Int × Int × Int × Int × Int × Int × Int × Int × Int × Int × Int) := ((wI_Len K x0_0 x0_1 x0_2 x0_3 x0_4 x0_5).bind fun r0 => ((wI_Len K x1_0 x1_1 x1_2 x1_3 x1_4 x1_5).bind fun r1 => ((wI_Quo_l3 K K (IntKind.i64.wrap (r0 - r1)) [x0_0, x0_1, x0_2, x0_3, x0_4, x0_5]
 [x1_0, x1_1, x1_2, x1_3, x1_4, x1_5] [0, 0, 0, 0, 0, 0] [0, 0, 0, 0, 0, 0] [0, 0, 0, 0, 0, 0]).bind fun r2 => (if (decide (6 ≤ r2.snd.snd.snd.length)) = true then
 (if (decide (6 ≤ r2.fst.length)) = true then
 (if (decide (r2.snd.fst.length = 6)) = true then
 (if (decide (r2.snd.snd.fst.length = 6)) = true then
 (some ((nth 0 r2.snd.snd.snd 0, nth 0 r2.snd.snd.snd 1,
 nth 0 r2.snd.snd.snd 2, nth 0 r2.snd.snd.snd 3,
 nth 0 r2.snd.snd.snd 4, nth 0 r2.snd.snd.snd 5,
 nth 0 r2.fst 0, nth 0 r2.fst 1,
 nth 0 r2.fst 2, nth 0 r2.fst 3,
 nth 0 r2.fst 4, nth 0 r2.fst 5)))
 else none)
 else none)
 else none)
 else none))))
theorem wI_Quo_eq (K : Nat) (x0_0 : Int) (x0_1 : Int) (x0_2 : Int) (x0_3 : Int) (x0_4 : Int) (x0_5 : Int) (x1_0 : Int) (x1_1 : Int) (x1_2 : Int) (x1_3 : Int) (x1_4 : Int) (x1_5 : Int) : (runF Try.prog (env_wI_Left K) (wI_Quo_v3 K) Try.f80 [.agg [.int .u64, .int .u64, .int .u64, .int .u64, .int .u64, .int .u64], .agg [.int .u64, .int .u64, .int .u64, .int .u64, .int .u64, .int .u64]] [.agg [.int .u64, .int .u64, .int .u64, .int .u64, .int .u64, .int .u64], .agg [.int .u64, .int .u64, .int .u64, .int .u64, .int .u64, .int .u64]] wI_Quo_dec [.i x0_0, .i x0_1, .i x0_2, .i x0_3, .i x0_4, .i x0_5, .i x1_0, .i x1_1, .i x1_2, .i x1_3, .i x1_4, .i x1_5]).den = wI_Quo K x0_0 x0_1 x0_2 x0_3 x0_4 x0_5 x1_0 x1_1 x1_2 x1_3 x1_4 x1_5 := by kernel_rfl
def wI_Quo_w (K : Nat) : List U → Option (Int × Int × Int × Int × Int × Int × Int × Int × Int × Int × Int × Int) := fun | [.i x0_0, .i x0_1, .i x0_2, .i x0_3, .i x0_4, .i x0_5, .i x1_0, .i x1_1, .i x1_2, .i x1_3, .i x1_4, .i x1_5] => wI_Quo K x0_0 x0_1 x0_2 x0_3 x0_4 x0_5 x1_0 x1_1 x1_2 x1_3 x1_4 x1_5 | _ => none
def wI_Quo_spec (K : Nat) : Vm.Spec := ⟨[.agg [.int .u64, .int .u64, .int .u64, .int .u64, .int .u64, .int .u64], .agg [.int .u64, .int .u64, .int .u64, .int .u64, .int .u64, .int .u64]], [.agg [.int .u64, .int .u64, .int .u64, .int .u64, .int .u64, .int .u64], .agg [.int .u64, .int .u64, .int .u64, .int .u64, .int .u64, .int .u64]], Int × Int × Int × Int × Int × Int × Int × Int × Int × Int × Int × Int, wI_Quo_w K, wI_Quo_enc⟩
theorem wI_Quo_ok (K : Nat) : FnOk Try.prog 80 (wI_Quo_spec K) := fn_ok' hmix (env_wI_Left_ok K) (lenv := wI_Quo_v3 K) (args := [.agg [.int .u64, .int .u64, .int .u64, .int .u64, .int .u64, .int .u64], .agg [.int .u64, .int .u64, .int .u64, .int .u64, .int .u64, .int .u64]]) (res := [.agg [.int .u64, .int .u64, .int .u64, .int .u64, .int .u64, .int .u64], .agg [.int .u64, .int .u64, .int .u64, .int .u64, .int .u64, .int .u64]]) (G := wI_Quo_w K) (enc := wI_Quo_enc) Try.func80 (lps_fn (l := [lp (bodyOf Try.f80) 0]) (by kernel_rfl) ⟨⟨3, wI_Quo_l3_s K, by kernel_rfl, by kernel_rfl, wI_Quo_l3_ok K⟩, trivial⟩) (dec := wI_Quo_dec) (fun u r h => by unfold wI_Quo_dec at h; split at h; (cases h; rfl); cases h) (fun us r h => by unfold wI_Quo_w at h; split at h; exact (wI_Quo_eq K _ _ _ _ _ _ _ _ _ _ _ _).trans h; cases h)
def env_wI_Quo (K : Nat) : FuncId → Option Vm.Spec := addS (env_wI_Left K) 80 (wI_Quo_spec K)
theorem env_wI_Quo_ok (K : Nat) : EnvOk Try.prog (env_wI_Quo K) := addS_ok (env_wI_Left_ok K) (.inl ⟨callable Try.func80 (by kernel_rfl) (by kernel_rfl), wI_Quo_ok K⟩)
def wide_Ten_l3_pre : Vm.Pat := ⟨13, [(5, .pv (.one (.int .i64))), (6, .pv (.one (.int .i64))), (2, .arr 0), (3, .arr 1)], [.row .u64, .row .u64], []⟩
def wide_Ten_l3_post0 : Vm.Pat := ⟨13, [(2, .arr 0), (3, .arr 1)], [.row .u64, .row .u64], []⟩
def wide_Ten_l3_enc0 : List Int × List Int → List U := fun r => [.r r.1, .r r.2]
def wide_Ten_l3_dec0 : List U → Option (List Int × List Int) := fun | [.r l2, .r l3] => some (l2, l3) | _ => none
def wide_Ten_l3 (K : Nat) : Nat → Int → Int → List Int → List Int → Option (List Int × List Int)
 | 0, _, _, _, _ => none
 | k + 1, x5, x6, l2, l3 => (if (decide (x6 < x5)) = true then
 (if (decide (6 ≤ l3.length)) = true then
 ((wI_Mul K (nth 0 l3 0)
 (nth 0 l3 1) (nth 0 l3 2)
 (nth 0 l3 3) (nth 0 l3 4)
 (nth 0 l3 5) 10 0 0 0 0 0).bind fun r0 => (if (decide (l3.length = 6)) = true then
 (wide_Ten_l3 K k (x5) (IntKind.i64.wrap (x6 + 1)) (l2) ([r0.fst, r0.snd.fst, r0.snd.snd.fst, r0.snd.snd.snd.fst, r0.snd.snd.snd.snd.fst, r0.snd.snd.snd.snd.snd]))
 else none))
 else none)
 else (some ((l2, l3))))
def wide_Ten_l3_w (K k : Nat) : List U → Option (List Int × List Int) := fun | [.i x5, .i x6, .r l2, .r l3] => wide_Ten_l3 K k x5 x6 l2 l3 | _ => none
theorem wide_Ten_l3_eq (K k : Nat) (x5 : Int) (x6 : Int) (l2 : List Int) (l3 : List Int) : (round1 Try.prog (env_wI_Quo K) (lenv0) (lp (bodyOf Try.f59) 0) wide_Ten_l3_pre (.exit 0) wide_Ten_l3_post0 wide_Ten_l3_dec0 (wide_Ten_l3_w K k) [.i x5, .i x6, .r l2, .r l3]).den = wide_Ten_l3 K (k + 1) x5 x6 l2 l3 := by kernel_rfl
def wide_Ten_l3_s (K : Nat) : Vm.LS := .one wide_Ten_l3_pre _ (.exit 0) wide_Ten_l3_post0 (wide_Ten_l3_w K K) wide_Ten_l3_enc0
theorem wide_Ten_l3_ok (K : Nat) : LoopOk Try.prog (lp (bodyOf Try.f59) 0) (wide_Ten_l3_s K) := loop_one hmix (env_wI_Quo_ok K) (lenv := lenv0) (L := wide_Ten_l3_w K) (enc := wide_Ten_l3_enc0) (dec := wide_Ten_l3_dec0) (lps_ok (l := []) (by kernel_rfl) trivial) (fun u r h => by unfold wide_Ten_l3_dec0 at h; split at h; (cases h; rfl); cases h) (fun us => by unfold wide_Ten_l3_w; split <;> first | rfl | (simp only [wide_Ten_l3])) (fun k us r h => by unfold wide_Ten_l3_w at h; split at h; exact (wide_Ten_l3_eq K k _ _ _ _).trans h; cases h) K
def wide_Ten_v3 (K : Nat) : Nat → Option Vm.LS := addL (lenv0) 3 (wide_Ten_l3_s K)
def wide_Ten_dec : List U → Option (Int × Int × Int × Int × Int × Int) := fun | [.i x0_0, .i x0_1, .i x0_2, .i x0_3, .i x0_4, .i x0_5] => some (x0_0, x0_1, x0_2, x0_3, x0_4, x0_5) | _ => none
def wide_Ten_enc : (Int × Int × Int × Int × Int × Int) → List U := fun r => [.i r.1, .i r.2.1, .i r.2.2.1, .i r.2.2.2.1, .i r.2.2.2.2.1, .i r.2.2.2.2.2]
def wide_Ten (K : Nat) (x0 : Int) : Option (Int × Int × Int × Int × Int × Int) := ((wide_Ten_l3 K K x0 0 [0, 0, 0, 0, 0, 0] [1, 0, 0, 0, 0, 0]).bind fun r0 => (if (decide (6 ≤ r0.snd.length)) = true then
 (if (decide (r0.fst.length = 6)) = true then
 (some ((nth 0 r0.snd 0, nth 0 r0.snd 1,
 nth 0 r0.snd 2, nth 0 r0.snd 3,
 nth 0 r0.snd 4, nth 0 r0.snd 5)))
 else none)
 else none))
theorem wide_Ten_eq (K : Nat) (x0 : Int) : (runF Try.prog (env_wI_Quo K) (wide_Ten_v3 K) Try.f59 [.one (.int .i64)] [.agg [.int .u64, .int .u64, .int .u64, .int .u64, .int .u64, .int .u64]] wide_Ten_dec [.i x0]).den = wide_Ten K x0 := by kernel_rfl
def wide_Ten_w (K : Nat) : List U → Option (Int × Int × Int × Int × Int × Int) := fun | [.i x0] => wide_Ten K x0 | _ => none
def wide_Ten_spec (K : Nat) : Vm.Spec := ⟨[.one (.int .i64)], [.agg [.int .u64, .int .u64, .int .u64, .int .u64, .int .u64, .int .u64]], Int × Int × Int × Int × Int × Int, wide_Ten_w K, wide_Ten_enc⟩
theorem wide_Ten_ok (K : Nat) : FnOk Try.prog 59 (wide_Ten_spec K) := fn_ok' hmix (env_wI_Quo_ok K) (lenv := wide_Ten_v3 K) (args := [.one (.int .i64)]) (res := [.agg [.int .u64, .int .u64, .int .u64, .int .u64, .int .u64, .int .u64]]) (G := wide_Ten_w K) (enc := wide_Ten_enc) Try.func59 (lps_fn (l := [lp (bodyOf Try.f59) 0]) (by kernel_rfl) ⟨⟨3, wide_Ten_l3_s K, by kernel_rfl, by kernel_rfl, wide_Ten_l3_ok K⟩, trivial⟩) (dec := wide_Ten_dec) (fun u r h => by unfold wide_Ten_dec at h; split at h; (cases h; rfl); cases h) (fun us r h => by unfold wide_Ten_w at h; split at h; exact (wide_Ten_eq K _).trans h; cases h)
def env_wide_Ten (K : Nat) : FuncId → Option Vm.Spec := addS (env_wI_Quo K) 59 (wide_Ten_spec K)
theorem env_wide_Ten_ok (K : Nat) : EnvOk Try.prog (env_wide_Ten K) := addS_ok (env_wI_Quo_ok K) (.inl ⟨callable Try.func59 (by kernel_rfl) (by kernel_rfl), wide_Ten_ok K⟩)
def dec_more_dec : List U → Option (Bool) := fun | [.b c0] => some (c0) | _ => none
def dec_more_enc : (Bool) → List U := fun r => [.b r]
def dec_more (K : Nat) (x0 : Int) (c1 : Bool) (x2_0 : Int) (x2_1 : Int) (x2_2 : Int) (x2_3 : Int) (x2_4 : Int) (x2_5 : Int) (x3_0 : Int) (x3_1 : Int) (x3_2 : Int) (x3_3 : Int) (x3_4 : Int) (x3_5 : Int) (x4_0 : Int) (x4_1 : Int) (x4_2 : Int) (x4_3 : Int) (x4_4 : Int) (x4_5 : Int) : Option (Bool) := ((wI_Len K x3_0 x3_1 x3_2 x3_3 x3_4 x3_5).bind fun r0 => (if (r0 == 0) = true then
 (some false)
 else ((wI_Left K x3_0 x3_1 x3_2 x3_3 x3_4 x3_5 1).bind fun r1 => ((wI_Cmp K r1.fst r1.snd.fst r1.snd.snd.fst r1.snd.snd.snd.fst r1.snd.snd.snd.snd.fst
 r1.snd.snd.snd.snd.snd x4_0 x4_1 x4_2 x4_3 x4_4 x4_5).bind fun r2 => (if (x0 == 0) = true then
 (some false)
 else (if (x0 == 1) = true then
 (some true)
 else (if (x0 == 2) = true then
 (some c1)
 else (if (x0 == 3) = true then
 (some (!c1))
 else (if (x0 == 4) = true then
 (some (decide (r2 ≥ 0)))
 else (if (x0 == 5) = true then
 (some (decide (r2 > 0)))
 else (if (decide (r2 > 0)) = true then
 (some true)
 else (if (r2 == 0) = true then
 (some (land IntKind.u64 x2_0 1 == 1))
 else (some false)))))))))))))
theorem dec_more_eq (K : Nat) (x0 : Int) (c1 : Bool) (x2_0 : Int) (x2_1 : Int) (x2_2 : Int) (x2_3 : Int) (x2_4 : Int) (x2_5 : Int) (x3_0 : Int) (x3_1 : Int) (x3_2 : Int) (x3_3 : Int) (x3_4 : Int) (x3_5 : Int) (x4_0 : Int) (x4_1 : Int) (x4_2 : Int) (x4_3 : Int) (x4_4 : Int) (x4_5 : Int) : (runF Try.prog (env_wide_Ten K) (lenv0) Try.f81 [.one (.int .i64), .one (.bool), .agg [.int .u64, .int .u64, .int .u64, .int .u64, .int .u64, .int .u64], .agg [.int .u64, .int .u64, .int .u64, .int .u64, .int .u64, .int .u64], .agg [.int .u64, .int .u64, .int .u64, .int .u64, .int .u64, .int .u64]] [.one (.bool)] dec_more_dec [.i x0, .b c1, .i x2_0, .i x2_1, .i x2_2, .i x2_3, .i x2_4, .i x2_5, .i x3_0, .i x3_1, .i x3_2, .i x3_3, .i x3_4, .i x3_5, .i x4_0, .i x4_1, .i x4_2, .i x4_3, .i x4_4, .i x4_5]).den = dec_more K x0 c1 x2_0 x2_1 x2_2 x2_3 x2_4 x2_5 x3_0 x3_1 x3_2 x3_3 x3_4 x3_5 x4_0 x4_1 x4_2 x4_3 x4_4 x4_5 := by kernel_rfl
def dec_more_w (K : Nat) : List U → Option (Bool) := fun | [.i x0, .b c1, .i x2_0, .i x2_1, .i x2_2, .i x2_3, .i x2_4, .i x2_5, .i x3_0, .i x3_1, .i x3_2, .i x3_3, .i x3_4, .i x3_5, .i x4_0, .i x4_1, .i x4_2, .i x4_3, .i x4_4, .i x4_5] => dec_more K x0 c1 x2_0 x2_1 x2_2 x2_3 x2_4 x2_5 x3_0 x3_1 x3_2 x3_3 x3_4 x3_5 x4_0 x4_1 x4_2 x4_3 x4_4 x4_5 | _ => none
def dec_more_spec (K : Nat) : Vm.Spec := ⟨[.one (.int .i64), .one (.bool), .agg [.int .u64, .int .u64, .int .u64, .int .u64, .int .u64, .int .u64], .agg [.int .u64, .int .u64, .int .u64, .int .u64, .int .u64, .int .u64], .agg [.int .u64, .int .u64, .int .u64, .int .u64, .int .u64, .int .u64]], [.one (.bool)], Bool, dec_more_w K, dec_more_enc⟩
theorem dec_more_ok (K : Nat) : FnOk Try.prog 81 (dec_more_spec K) := fn_ok' hmix (env_wide_Ten_ok K) (lenv := lenv0) (args := [.one (.int .i64), .one (.bool), .agg [.int .u64, .int .u64, .int .u64, .int .u64, .int .u64, .int .u64], .agg [.int .u64, .int .u64, .int .u64, .int .u64, .int .u64, .int .u64], .agg [.int .u64, .int .u64, .int .u64, .int .u64, .int .u64, .int .u64]]) (res := [.one (.bool)]) (G := dec_more_w K) (enc := dec_more_enc) Try.func81 (lps_fn (l := []) (by kernel_rfl) trivial) (dec := dec_more_dec) (fun u r h => by unfold dec_more_dec at h; split at h; (cases h; rfl); cases h) (fun us r h => by unfold dec_more_w at h; split at h; exact (dec_more_eq K _ _ _ _ _ _ _ _ _ _ _ _ _ _ _ _ _ _ _ _).trans h; cases h)
def env_dec_more (K : Nat) : FuncId → Option Vm.Spec := addS (env_wide_Ten K) 81 (dec_more_spec K)
theorem env_dec_more_ok (K : Nat) : EnvOk Try.prog (env_dec_more K) := addS_ok (env_wide_Ten_ok K) (.inl ⟨callable Try.func81 (by kernel_rfl) (by kernel_rfl), dec_more_ok K⟩)
def dec_apart_dec : List U → Option (Bool × Int × Int × Int × Int × Int × Int × Int) := fun | [.b c0_0, .i x0_1, .i x0_2, .i x0_3, .i x0_4, .i x0_5, .i x0_6, .i x0_7] => some (c0_0, x0_1, x0_2, x0_3, x0_4, x0_5, x0_6, x0_7) | _ => none
def dec_apart_enc : (Bool × Int × Int × Int × Int × Int × Int × Int) → List U := fun r => [.b r.1, .i r.2.1, .i r.2.2.1, .i r.2.2.2.1, .i r.2.2.2.2.1, .i r.2.2.2.2.2.1, .i r.2.2.2.2.2.2.1, .i r.2.2.2.2.2.2.2]
def dec_apart (K : Nat) (x0_0 : Int) (x0_1 : Int) (x0_2 : Int) : Option (Bool × Int × Int × Int × Int × Int × Int × Int) := (if (decide (x0_0 < 0)) = true then
 (if (IntKind.u64.wrap (0 - x0_1) == 0) = true then
 ((wide_Of K
 (IntKind.u64.wrap
 (lxor IntKind.u64 18446744073709551615 (IntKind.u64.wrap x0_0) + 1))
 (IntKind.u64.wrap (0 - x0_1))).bind fun r0 => (some ((decide (x0_0 < 0), r0.fst, r0.snd.fst, r0.snd.snd.fst, r0.snd.snd.snd.fst, r0.snd.snd.snd.snd.fst,
 r0.snd.snd.snd.snd.snd, x0_2))))
 else ((wide_Of K
 (lxor IntKind.u64 18446744073709551615 (IntKind.u64.wrap x0_0))
 (IntKind.u64.wrap (0 - x0_1))).bind fun r1 => (some ((decide (x0_0 < 0), r1.fst, r1.snd.fst, r1.snd.snd.fst, r1.snd.snd.snd.fst, r1.snd.snd.snd.snd.fst,
 r1.snd.snd.snd.snd.snd, x0_2)))))
 else ((wide_Of K (IntKind.u64.wrap x0_0) x0_1).bind fun r2 => (some ((decide (x0_0 < 0), r2.fst, r2.snd.fst, r2.snd.snd.fst, r2.snd.snd.snd.fst, r2.snd.snd.snd.snd.fst,
 r2.snd.snd.snd.snd.snd, x0_2)))))
theorem dec_apart_eq (K : Nat) (x0_0 : Int) (x0_1 : Int) (x0_2 : Int) : (runF Try.prog (env_dec_more K) (lenv0) Try.f37 [.agg [.int .i64, .int .u64, .int .i64]] [.agg [.bool, .int .u64, .int .u64, .int .u64, .int .u64, .int .u64, .int .u64, .int .i64]] dec_apart_dec [.i x0_0, .i x0_1, .i x0_2]).den = dec_apart K x0_0 x0_1 x0_2 := by kernel_rfl
def dec_apart_w (K : Nat) : List U → Option (Bool × Int × Int × Int × Int × Int × Int × Int) := fun | [.i x0_0, .i x0_1, .i x0_2] => dec_apart K x0_0 x0_1 x0_2 | _ => none
def dec_apart_spec (K : Nat) : Vm.Spec := ⟨[.agg [.int .i64, .int .u64, .int .i64]], [.agg [.bool, .int .u64, .int .u64, .int .u64, .int .u64, .int .u64, .int .u64, .int .i64]], Bool × Int × Int × Int × Int × Int × Int × Int, dec_apart_w K, dec_apart_enc⟩
theorem dec_apart_ok (K : Nat) : FnOk Try.prog 37 (dec_apart_spec K) := fn_ok' hmix (env_dec_more_ok K) (lenv := lenv0) (args := [.agg [.int .i64, .int .u64, .int .i64]]) (res := [.agg [.bool, .int .u64, .int .u64, .int .u64, .int .u64, .int .u64, .int .u64, .int .i64]]) (G := dec_apart_w K) (enc := dec_apart_enc) Try.func37 (lps_fn (l := []) (by kernel_rfl) trivial) (dec := dec_apart_dec) (fun u r h => by unfold dec_apart_dec at h; split at h; (cases h; rfl); cases h) (fun us r h => by unfold dec_apart_w at h; split at h; exact (dec_apart_eq K _ _ _).trans h; cases h)
def env_dec_apart (K : Nat) : FuncId → Option Vm.Spec := addS (env_dec_more K) 37 (dec_apart_spec K)
theorem env_dec_apart_ok (K : Nat) : EnvOk Try.prog (env_dec_apart K) := addS_ok (env_dec_more_ok K) (.inl ⟨callable Try.func37 (by kernel_rfl) (by kernel_rfl), dec_apart_ok K⟩)
def dec_together_dec : List U → Option (Int × Int × Int × Int) := fun | [.i x0_0, .i x0_1, .i x0_2, .i x1] => some (x0_0, x0_1, x0_2, x1) | _ => none
def dec_together_enc : (Int × Int × Int × Int) → List U := fun r => [.i r.1, .i r.2.1, .i r.2.2.1, .i r.2.2.2]
def dec_together (K : Nat) (c0_0 : Bool) (x0_1 : Int) (x0_2 : Int) (x0_3 : Int) (x0_4 : Int) (x0_5 : Int) (x0_6 : Int) (x0_7 : Int) : Option (Int × Int × Int × Int) := ((wI_Len K x0_1 x0_2 x0_3 x0_4 x0_5 x0_6).bind fun r0 => (if (decide (r0 > 127)) = true then
 (some ((0, 0, 0, 4)))
 else (if (c0_0) = true then
 (if (IntKind.u64.wrap (0 - x0_1) == 0) = true then
 (some ((IntKind.i64.wrap
 (IntKind.u64.wrap (lxor IntKind.u64 18446744073709551615 x0_2 + 1)),
 IntKind.u64.wrap (0 - x0_1), x0_7, 0)))
 else (some ((IntKind.i64.wrap (lxor IntKind.u64 18446744073709551615 x0_2),
 IntKind.u64.wrap (0 - x0_1), x0_7, 0))))
 else (some ((IntKind.i64.wrap x0_2, x0_1, x0_7, 0))))))
theorem dec_together_eq (K : Nat) (c0_0 : Bool) (x0_1 : Int) (x0_2 : Int) (x0_3 : Int) (x0_4 : Int) (x0_5 : Int) (x0_6 : Int) (x0_7 : Int) : (runF Try.prog (env_dec_apart K) (lenv0) Try.f38 [.agg [.bool, .int .u64, .int .u64, .int .u64, .int .u64, .int .u64, .int .u64, .int .i64]] [.agg [.int .i64, .int .u64, .int .i64], .one (.int .i64)] dec_together_dec [.b c0_0, .i x0_1, .i x0_2, .i x0_3, .i x0_4, .i x0_5, .i x0_6, .i x0_7]).den = dec_together K c0_0 x0_1 x0_2 x0_3 x0_4 x0_5 x0_6 x0_7 := by kernel_rfl
def dec_together_w (K : Nat) : List U → Option (Int × Int × Int × Int) := fun | [.b c0_0, .i x0_1, .i x0_2, .i x0_3, .i x0_4, .i x0_5, .i x0_6, .i x0_7] => dec_together K c0_0 x0_1 x0_2 x0_3 x0_4 x0_5 x0_6 x0_7 | _ => none
def dec_together_spec (K : Nat) : Vm.Spec := ⟨[.agg [.bool, .int .u64, .int .u64, .int .u64, .int .u64, .int .u64, .int .u64, .int .i64]], [.agg [.int .i64, .int .u64, .int .i64], .one (.int .i64)], Int × Int × Int × Int, dec_together_w K, dec_together_enc⟩
theorem dec_together_ok (K : Nat) : FnOk Try.prog 38 (dec_together_spec K) := fn_ok' hmix (env_dec_apart_ok K) (lenv := lenv0) (args := [.agg [.bool, .int .u64, .int .u64, .int .u64, .int .u64, .int .u64, .int .u64, .int .i64]]) (res := [.agg [.int .i64, .int .u64, .int .i64], .one (.int .i64)]) (G := dec_together_w K) (enc := dec_together_enc) Try.func38 (lps_fn (l := []) (by kernel_rfl) trivial) (dec := dec_together_dec) (fun u r h => by unfold dec_together_dec at h; split at h; (cases h; rfl); cases h) (fun us r h => by unfold dec_together_w at h; split at h; exact (dec_together_eq K _ _ _ _ _ _ _ _).trans h; cases h)
def env_dec_together (K : Nat) : FuncId → Option Vm.Spec := addS (env_dec_apart K) 38 (dec_together_spec K)
theorem env_dec_together_ok (K : Nat) : EnvOk Try.prog (env_dec_together K) := addS_ok (env_dec_apart_ok K) (.inl ⟨callable Try.func38 (by kernel_rfl) (by kernel_rfl), dec_together_ok K⟩)
def dec_rounded_dec : List U → Option (Int × Int × Int × Int) := fun | [.i x0_0, .i x0_1, .i x0_2, .i x1] => some (x0_0, x0_1, x0_2, x1) | _ => none
def dec_rounded_enc : (Int × Int × Int × Int) → List U := fun r => [.i r.1, .i r.2.1, .i r.2.2.1, .i r.2.2.2]
def dec_rounded (K : Nat) (c0 : Bool) (x1_0 : Int) (x1_1 : Int) (x1_2 : Int) (x1_3 : Int) (x1_4 : Int) (x1_5 : Int) (x2_0 : Int) (x2_1 : Int) (x2_2 : Int) (x2_3 : Int) (x2_4 : Int) (x2_5 : Int) (x3 : Int) (x4 : Int) : Option (Int × Int × Int × Int) := ((wI_Quo K x1_0 x1_1 x1_2 x1_3 x1_4 x1_5 x2_0 x2_1 x2_2 x2_3 x2_4 x2_5).bind fun r0 => ((dec_more K x4 c0 r0.fst r0.snd.fst r0.snd.snd.fst r0.snd.snd.snd.fst r0.snd.snd.snd.snd.fst
 r0.snd.snd.snd.snd.snd.fst r0.snd.snd.snd.snd.snd.snd.fst r0.snd.snd.snd.snd.snd.snd.snd.fst
 r0.snd.snd.snd.snd.snd.snd.snd.snd.fst r0.snd.snd.snd.snd.snd.snd.snd.snd.snd.fst
 r0.snd.snd.snd.snd.snd.snd.snd.snd.snd.snd.fst r0.snd.snd.snd.snd.snd.snd.snd.snd.snd.snd.snd x2_0 x2_1 x2_2 x2_3 x2_4
 x2_5).bind fun r1 => (if (r1) = true then
 ((wI_Add K r0.fst r0.snd.fst r0.snd.snd.fst r0.snd.snd.snd.fst r0.snd.snd.snd.snd.fst
 r0.snd.snd.snd.snd.snd.fst 1 0 0 0 0 0).bind fun r2 => ((dec_together K c0 r2.fst r2.snd.fst r2.snd.snd.fst r2.snd.snd.snd.fst
 r2.snd.snd.snd.snd.fst r2.snd.snd.snd.snd.snd x3).bind fun r3 => (some ((r3.fst, r3.snd.fst, r3.snd.snd.fst, r3.snd.snd.snd)))))
 else ((dec_together K c0 r0.fst r0.snd.fst r0.snd.snd.fst r0.snd.snd.snd.fst
 r0.snd.snd.snd.snd.fst r0.snd.snd.snd.snd.snd.fst x3).bind fun r4 => (some ((r4.fst, r4.snd.fst, r4.snd.snd.fst, r4.snd.snd.snd)))))))
theorem dec_rounded_eq (K : Nat) (c0 : Bool) (x1_0 : Int) (x1_1 : Int) (x1_2 : Int) (x1_3 : Int) (x1_4 : Int) (x1_5 : Int) (x2_0 : Int) (x2_1 : Int) (x2_2 : Int) (x2_3 : Int) (x2_4 : Int) (x2_5 : Int) (x3 : Int) (x4 : Int) : (runF Try.prog (env_dec_together K) (lenv0) Try.f79 [.one (.bool), .agg [.int .u64, .int .u64, .int .u64, .int .u64, .int .u64, .int .u64], .agg [.int .u64, .int .u64, .int .u64, .int .u64, .int .u64, .int .u64], .one (.int .i64), .one (.int .i64)] [.agg [.int .i64, .int .u64, .int .i64], .one (.int .i64)] dec_rounded_dec [.b c0, .i x1_0, .i x1_1, .i x1_2, .i x1_3, .i x1_4, .i x1_5, .i x2_0, .i x2_1, .i x2_2, .i x2_3, .i x2_4, .i x2_5, .i x3, .i x4]).den = dec_rounded K c0 x1_0 x1_1 x1_2 x1_3 x1_4 x1_5 x2_0 x2_1 x2_2 x2_3 x2_4 x2_5 x3 x4 := by kernel_rfl
def dec_rounded_w (K : Nat) : List U → Option (Int × Int × Int × Int) := fun | [.b c0, .i x1_0, .i x1_1, .i x1_2, .i x1_3, .i x1_4, .i x1_5, .i x2_0, .i x2_1, .i x2_2, .i x2_3, .i x2_4, .i x2_5, .i x3, .i x4] => dec_rounded K c0 x1_0 x1_1 x1_2 x1_3 x1_4 x1_5 x2_0 x2_1 x2_2 x2_3 x2_4 x2_5 x3 x4 | _ => none
def dec_rounded_spec (K : Nat) : Vm.Spec := ⟨[.one (.bool), .agg [.int .u64, .int .u64, .int .u64, .int .u64, .int .u64, .int .u64], .agg [.int .u64, .int .u64, .int .u64, .int .u64, .int .u64, .int .u64], .one (.int .i64), .one (.int .i64)], [.agg [.int .i64, .int .u64, .int .i64], .one (.int .i64)], Int × Int × Int × Int, dec_rounded_w K, dec_rounded_enc⟩
theorem dec_rounded_ok (K : Nat) : FnOk Try.prog 79 (dec_rounded_spec K) := fn_ok' hmix (env_dec_together_ok K) (lenv := lenv0) (args := [.one (.bool), .agg [.int .u64, .int .u64, .int .u64, .int .u64, .int .u64, .int .u64], .agg [.int .u64, .int .u64, .int .u64, .int .u64, .int .u64, .int .u64], .one (.int .i64), .one (.int .i64)]) (res := [.agg [.int .i64, .int .u64, .int .i64], .one (.int .i64)]) (G := dec_rounded_w K) (enc := dec_rounded_enc) Try.func79 (lps_fn (l := []) (by kernel_rfl) trivial) (dec := dec_rounded_dec) (fun u r h => by unfold dec_rounded_dec at h; split at h; (cases h; rfl); cases h) (fun us r h => by unfold dec_rounded_w at h; split at h; exact (dec_rounded_eq K _ _ _ _ _ _ _ _ _ _ _ _ _ _ _).trans h; cases h)
def env_dec_rounded (K : Nat) : FuncId → Option Vm.Spec := addS (env_dec_together K) 79 (dec_rounded_spec K)
theorem env_dec_rounded_ok (K : Nat) : EnvOk Try.prog (env_dec_rounded K) := addS_ok (env_dec_together_ok K) (.inl ⟨callable Try.func79 (by kernel_rfl) (by kernel_rfl), dec_rounded_ok K⟩)
def dec_scaled_dec : List U → Option (Int × Int × Int × Int) := fun | [.i x0_0, .i x0_1, .i x0_2, .i x1] => some (x0_0, x0_1, x0_2, x1) | _ => none
def dec_scaled_enc : (Int × Int × Int × Int) → List U := fun r => [.i r.1, .i r.2.1, .i r.2.2.1, .i r.2.2.2]
def dec_scaled (K : Nat) (c0 : Bool) (x1_0 : Int) (x1_1 : Int) (x1_2 : Int) (x1_3 : Int) (x1_4 : Int) (x1_5 : Int) (x2 : Int) (x3 : Int) (x4 : Int) : Option (Int × Int × Int × Int) := (if (decide (x3 ≥ x2)) = true then
 ((wide_Ten K (IntKind.i64.wrap (x3 - x2))).bind fun r0 => ((wI_Mul K x1_0 x1_1 x1_2 x1_3 x1_4 x1_5 r0.fst r0.snd.fst r0.snd.snd.fst
 r0.snd.snd.snd.fst r0.snd.snd.snd.snd.fst r0.snd.snd.snd.snd.snd).bind fun r1 => ((dec_rounded K c0 r1.fst r1.snd.fst r1.snd.snd.fst r1.snd.snd.snd.fst r1.snd.snd.snd.snd.fst
 r1.snd.snd.snd.snd.snd 1 0 0 0 0 0 x3 x4).bind fun r2 => (some ((r2.fst, r2.snd.fst, r2.snd.snd.fst, r2.snd.snd.snd))))))
 else ((wide_Ten K (IntKind.i64.wrap (x2 - x3))).bind fun r3 => ((dec_rounded K c0 x1_0 x1_1 x1_2 x1_3 x1_4 x1_5 r3.fst r3.snd.fst r3.snd.snd.fst
 r3.snd.snd.snd.fst r3.snd.snd.snd.snd.fst r3.snd.snd.snd.snd.snd x3 x4).bind fun r4 => (some ((r4.fst, r4.snd.fst, r4.snd.snd.fst, r4.snd.snd.snd))))))
theorem dec_scaled_eq (K : Nat) (c0 : Bool) (x1_0 : Int) (x1_1 : Int) (x1_2 : Int) (x1_3 : Int) (x1_4 : Int) (x1_5 : Int) (x2 : Int) (x3 : Int) (x4 : Int) : (runF Try.prog (env_dec_rounded K) (lenv0) Try.f77 [.one (.bool), .agg [.int .u64, .int .u64, .int .u64, .int .u64, .int .u64, .int .u64], .one (.int .i64), .one (.int .i64), .one (.int .i64)] [.agg [.int .i64, .int .u64, .int .i64], .one (.int .i64)] dec_scaled_dec [.b c0, .i x1_0, .i x1_1, .i x1_2, .i x1_3, .i x1_4, .i x1_5, .i x2, .i x3, .i x4]).den = dec_scaled K c0 x1_0 x1_1 x1_2 x1_3 x1_4 x1_5 x2 x3 x4 := by kernel_rfl
def dec_scaled_w (K : Nat) : List U → Option (Int × Int × Int × Int) := fun | [.b c0, .i x1_0, .i x1_1, .i x1_2, .i x1_3, .i x1_4, .i x1_5, .i x2, .i x3, .i x4] => dec_scaled K c0 x1_0 x1_1 x1_2 x1_3 x1_4 x1_5 x2 x3 x4 | _ => none
def dec_scaled_spec (K : Nat) : Vm.Spec := ⟨[.one (.bool), .agg [.int .u64, .int .u64, .int .u64, .int .u64, .int .u64, .int .u64], .one (.int .i64), .one (.int .i64), .one (.int .i64)], [.agg [.int .i64, .int .u64, .int .i64], .one (.int .i64)], Int × Int × Int × Int, dec_scaled_w K, dec_scaled_enc⟩
theorem dec_scaled_ok (K : Nat) : FnOk Try.prog 77 (dec_scaled_spec K) := fn_ok' hmix (env_dec_rounded_ok K) (lenv := lenv0) (args := [.one (.bool), .agg [.int .u64, .int .u64, .int .u64, .int .u64, .int .u64, .int .u64], .one (.int .i64), .one (.int .i64), .one (.int .i64)]) (res := [.agg [.int .i64, .int .u64, .int .i64], .one (.int .i64)]) (G := dec_scaled_w K) (enc := dec_scaled_enc) Try.func77 (lps_fn (l := []) (by kernel_rfl) trivial) (dec := dec_scaled_dec) (fun u r h => by unfold dec_scaled_dec at h; split at h; (cases h; rfl); cases h) (fun us r h => by unfold dec_scaled_w at h; split at h; exact (dec_scaled_eq K _ _ _ _ _ _ _ _ _ _).trans h; cases h)
def env_dec_scaled (K : Nat) : FuncId → Option Vm.Spec := addS (env_dec_rounded K) 77 (dec_scaled_spec K)
theorem env_dec_scaled_ok (K : Nat) : EnvOk Try.prog (env_dec_scaled K) := addS_ok (env_dec_rounded_ok K) (.inl ⟨callable Try.func77 (by kernel_rfl) (by kernel_rfl), dec_scaled_ok K⟩)
def dec_Check_dec : List U → Option (Int) := fun | [.i x0] => some (x0) | _ => none
def dec_Check_enc : (Int) → List U := fun r => [.i r]
def dec_Check (K : Nat) (x0_0 : Int) (x0_1 : Int) (x0_2 : Int) : Option (Int) := (if (decide (x0_2 < 0)) = true then
 (some (3))
 else (if (decide (x0_2 > 18)) = true then
 (some (3))
 else (if (x0_0 == -9223372036854775808) = true then
 (if (x0_1 == 0) = true then
 (some (3))
 else (some (0)))
 else (some (0)))))
theorem dec_Check_eq (K : Nat) (x0_0 : Int) (x0_1 : Int) (x0_2 : Int) : (runF Try.prog (env_dec_scaled K) (lenv0) Try.f36 [.agg [.int .i64, .int .u64, .int .i64]] [.one (.int .i64)] dec_Check_dec [.i x0_0, .i x0_1, .i x0_2]).den = dec_Check K x0_0 x0_1 x0_2 := by kernel_rfl
def dec_Check_w (K : Nat) : List U → Option (Int) := fun | [.i x0_0, .i x0_1, .i x0_2] => dec_Check K x0_0 x0_1 x0_2 | _ => none
def dec_Check_spec (K : Nat) : Vm.Spec := ⟨[.agg [.int .i64, .int .u64, .int .i64]], [.one (.int .i64)], Int, dec_Check_w K, dec_Check_enc⟩
theorem dec_Check_ok (K : Nat) : FnOk Try.prog 36 (dec_Check_spec K) := fn_ok' hmix (env_dec_scaled_ok K) (lenv := lenv0) (args := [.agg [.int .i64, .int .u64, .int .i64]]) (res := [.one (.int .i64)]) (G := dec_Check_w K) (enc := dec_Check_enc) Try.func36 (lps_fn (l := []) (by kernel_rfl) trivial) (dec := dec_Check_dec) (fun u r h => by unfold dec_Check_dec at h; split at h; (cases h; rfl); cases h) (fun us r h => by unfold dec_Check_w at h; split at h; exact (dec_Check_eq K _ _ _).trans h; cases h)
def env_dec_Check (K : Nat) : FuncId → Option Vm.Spec := addS (env_dec_scaled K) 36 (dec_Check_spec K)
theorem env_dec_Check_ok (K : Nat) : EnvOk Try.prog (env_dec_Check K) := addS_ok (env_dec_scaled_ok K) (.inl ⟨callable Try.func36 (by kernel_rfl) (by kernel_rfl), dec_Check_ok K⟩)
def dec_both_dec : List U → Option (Int) := fun | [.i x0] => some (x0) | _ => none
def dec_both_enc : (Int) → List U := fun r => [.i r]
def dec_both (K : Nat) (x0_0 : Int) (x0_1 : Int) (x0_2 : Int) (x1_0 : Int) (x1_1 : Int) (x1_2 : Int) : Option (Int) := ((dec_Check K x0_0 x0_1 x0_2).bind fun r0 => (if (r0 != 0) = true then
 (some r0)
 else ((dec_Check K x1_0 x1_1 x1_2).bind fun r1 => (some r1))))
theorem dec_both_eq (K : Nat) (x0_0 : Int) (x0_1 : Int) (x0_2 : Int) (x1_0 : Int) (x1_1 : Int) (x1_2 : Int) : (runF Try.prog (env_dec_Check K) (lenv0) Try.f41 [.agg [.int .i64, .int .u64, .int .i64], .agg [.int .i64, .int .u64, .int .i64]] [.one (.int .i64)] dec_both_dec [.i x0_0, .i x0_1, .i x0_2, .i x1_0, .i x1_1, .i x1_2]).den = dec_both K x0_0 x0_1 x0_2 x1_0 x1_1 x1_2 := by kernel_rfl
def dec_both_w (K : Nat) : List U → Option (Int) := fun | [.i x0_0, .i x0_1, .i x0_2, .i x1_0, .i x1_1, .i x1_2] => dec_both K x0_0 x0_1 x0_2 x1_0 x1_1 x1_2 | _ => none
def dec_both_spec (K : Nat) : Vm.Spec := ⟨[.agg [.int .i64, .int .u64, .int .i64], .agg [.int .i64, .int .u64, .int .i64]], [.one (.int .i64)], Int, dec_both_w K, dec_both_enc⟩
theorem dec_both_ok (K : Nat) : FnOk Try.prog 41 (dec_both_spec K) := fn_ok' hmix (env_dec_Check_ok K) (lenv := lenv0) (args := [.agg [.int .i64, .int .u64, .int .i64], .agg [.int .i64, .int .u64, .int .i64]]) (res := [.one (.int .i64)]) (G := dec_both_w K) (enc := dec_both_enc) Try.func41 (lps_fn (l := []) (by kernel_rfl) trivial) (dec := dec_both_dec) (fun u r h => by unfold dec_both_dec at h; split at h; (cases h; rfl); cases h) (fun us r h => by unfold dec_both_w at h; split at h; exact (dec_both_eq K _ _ _ _ _ _).trans h; cases h)
def env_dec_both (K : Nat) : FuncId → Option Vm.Spec := addS (env_dec_Check K) 41 (dec_both_spec K)
theorem env_dec_both_ok (K : Nat) : EnvOk Try.prog (env_dec_both K) := addS_ok (env_dec_Check_ok K) (.inl ⟨callable Try.func41 (by kernel_rfl) (by kernel_rfl), dec_both_ok K⟩)
def dn_to_dec : List U → Option (Bool × Int × Int × Int × Int × Int × Int × Int) := fun | [.b c0_0, .i x0_1, .i x0_2, .i x0_3, .i x0_4, .i x0_5, .i x0_6, .i x0_7] => some (c0_0, x0_1, x0_2, x0_3, x0_4, x0_5, x0_6, x0_7) | _ => none
def dn_to_enc : (Bool × Int × Int × Int × Int × Int × Int × Int) → List U := fun r => [.b r.1, .i r.2.1, .i r.2.2.1, .i r.2.2.2.1, .i r.2.2.2.2.1, .i r.2.2.2.2.2.1, .i r.2.2.2.2.2.2.1, .i r.2.2.2.2.2.2.2]
def dn_to (K : Nat) (c0_0 : Bool) (x0_1 : Int) (x0_2 : Int) (x0_3 : Int) (x0_4 : Int) (x0_5 : Int) (x0_6 : Int) (x0_7 : Int) (x1 : Int) : Option (Bool × Int × Int × Int × Int × Int × Int × Int) := ((wide_Ten K (IntKind.i64.wrap (x1 - x0_7))).bind fun r0 => ((wI_Mul K x0_1 x0_2 x0_3 x0_4 x0_5 x0_6 r0.fst r0.snd.fst r0.snd.snd.fst
 r0.snd.snd.snd.fst r0.snd.snd.snd.snd.fst r0.snd.snd.snd.snd.snd).bind fun r1 => (some ((c0_0, r1.fst, r1.snd.fst, r1.snd.snd.fst, r1.snd.snd.snd.fst, r1.snd.snd.snd.snd.fst, r1.snd.snd.snd.snd.snd, x1)))))
theorem dn_to_eq (K : Nat) (c0_0 : Bool) (x0_1 : Int) (x0_2 : Int) (x0_3 : Int) (x0_4 : Int) (x0_5 : Int) (x0_6 : Int) (x0_7 : Int) (x1 : Int) : (runF Try.prog (env_dec_both K) (lenv0) Try.f42 [.agg [.bool, .int .u64, .int .u64, .int .u64, .int .u64, .int .u64, .int .u64, .int .i64], .one (.int .i64)] [.agg [.bool, .int .u64, .int .u64, .int .u64, .int .u64, .int .u64, .int .u64, .int .i64]] dn_to_dec [.b c0_0, .i x0_1, .i x0_2, .i x0_3, .i x0_4, .i x0_5, .i x0_6, .i x0_7, .i x1]).den = dn_to K c0_0 x0_1 x0_2 x0_3 x0_4 x0_5 x0_6 x0_7 x1 := by kernel_rfl
def dn_to_w (K : Nat) : List U → Option (Bool × Int × Int × Int × Int × Int × Int × Int) := fun | [.b c0_0, .i x0_1, .i x0_2, .i x0_3, .i x0_4, .i x0_5, .i x0_6, .i x0_7, .i x1] => dn_to K c0_0 x0_1 x0_2 x0_3 x0_4 x0_5 x0_6 x0_7 x1 | _ => none
def dn_to_spec (K : Nat) : Vm.Spec := ⟨[.agg [.bool, .int .u64, .int .u64, .int .u64, .int .u64, .int .u64, .int .u64, .int .i64], .one (.int .i64)], [.agg [.bool, .int .u64, .int .u64, .int .u64, .int .u64, .int .u64, .int .u64, .int .i64]], Bool × Int × Int × Int × Int × Int × Int × Int, dn_to_w K, dn_to_enc⟩
theorem dn_to_ok (K : Nat) : FnOk Try.prog 42 (dn_to_spec K) := fn_ok' hmix (env_dec_both_ok K) (lenv := lenv0) (args := [.agg [.bool, .int .u64, .int .u64, .int .u64, .int .u64, .int .u64, .int .u64, .int .i64], .one (.int .i64)]) (res := [.agg [.bool, .int .u64, .int .u64, .int .u64, .int .u64, .int .u64, .int .u64, .int .i64]]) (G := dn_to_w K) (enc := dn_to_enc) Try.func42 (lps_fn (l := []) (by kernel_rfl) trivial) (dec := dn_to_dec) (fun u r h => by unfold dn_to_dec at h; split at h; (cases h; rfl); cases h) (fun us r h => by unfold dn_to_w at h; split at h; exact (dn_to_eq K _ _ _ _ _ _ _ _ _).trans h; cases h)
def env_dn_to (K : Nat) : FuncId → Option Vm.Spec := addS (env_dec_both K) 42 (dn_to_spec K)
theorem env_dn_to_ok (K : Nat) : EnvOk Try.prog (env_dn_to K) := addS_ok (env_dec_both_ok K) (.inl ⟨callable Try.func42 (by kernel_rfl) (by kernel_rfl), dn_to_ok K⟩)
def dn_plus_dec : List U → Option (Bool × Int × Int × Int × Int × Int × Int × Int) := fun | [.b c0_0, .i x0_1, .i x0_2, .i x0_3, .i x0_4, .i x0_5, .i x0_6, .i x0_7] => some (c0_0, x0_1, x0_2, x0_3, x0_4, x0_5, x0_6, x0_7) | _ => none
def dn_plus_enc : (Bool × Int × Int × Int × Int × Int × Int × Int) → List U := fun r => [.b r.1, .i r.2.1, .i r.2.2.1, .i r.2.2.2.1, .i r.2.2.2.2.1, .i r.2.2.2.2.2.1, .i r.2.2.2.2.2.2.1, .i r.2.2.2.2.2.2.2]
def dn_plus (K : Nat) (c0_0 : Bool) (x0_1 : Int) (x0_2 : Int) (x0_3 : Int) (x0_4 : Int) (x0_5 : Int) (x0_6 : Int) (x0_7 : Int) (c1_0 : Bool) (x1_1 : Int) (x1_2 : Int) (x1_3 : Int) (x1_4 : Int) (x1_5 : Int) (x1_6 : Int) (x1_7 : Int) : Option (Bool × Int × Int × Int × Int × Int × Int × Int) := (if (c0_0 == c1_0) = true then
 ((wI_Add K x0_1 x0_2 x0_3 x0_4 x0_5 x0_6 x1_1 x1_2 x1_3 x1_4 x1_5 x1_6).bind fun r0 => (some ((c0_0, r0.fst, r0.snd.fst, r0.snd.snd.fst, r0.snd.snd.snd.fst, r0.snd.snd.snd.snd.fst, r0.snd.snd.snd.snd.snd, x0_7))))
 else ((wI_Cmp K x0_1 x0_2 x0_3 x0_4 x0_5 x0_6 x1_1 x1_2 x1_3 x1_4 x1_5 x1_6).bind fun r1 => (if (decide (r1 ≥ 0)) = true then
 ((wI_Sub K x0_1 x0_2 x0_3 x0_4 x0_5 x0_6 x1_1 x1_2 x1_3 x1_4 x1_5 x1_6).bind fun r2 => (some ((c0_0, r2.fst, r2.snd.fst, r2.snd.snd.fst, r2.snd.snd.snd.fst, r2.snd.snd.snd.snd.fst, r2.snd.snd.snd.snd.snd, x0_7))))
 else ((wI_Sub K x1_1 x1_2 x1_3 x1_4 x1_5 x1_6 x0_1 x0_2 x0_3 x0_4 x0_5 x0_6).bind fun r3 => (some ((c1_0, r3.fst, r3.snd.fst, r3.snd.snd.fst, r3.snd.snd.snd.fst, r3.snd.snd.snd.snd.fst, r3.snd.snd.snd.snd.snd, x0_7)))))))
theorem dn_plus_eq (K : Nat) (c0_0 : Bool) (x0_1 : Int) (x0_2 : Int) (x0_3 : Int) (x0_4 : Int) (x0_5 : Int) (x0_6 : Int) (x0_7 : Int) (c1_0 : Bool) (x1_1 : Int) (x1_2 : Int) (x1_3 : Int) (x1_4 : Int) (x1_5 : Int) (x1_6 : Int) (x1_7 : Int) : (runF Try.prog (env_dn_to K) (lenv0) Try.f43 [.agg [.bool, .int .u64, .int .u64, .int .u64, .int .u64, .int .u64, .int .u64, .int .i64], .agg [.bool, .int .u64, .int .u64, .int .u64, .int .u64, .int .u64, .int .u64, .int .i64]] [.agg [.bool, .int .u64, .int .u64, .int .u64, .int .u64, .int .u64, .int .u64, .int .i64]] dn_plus_dec [.b c0_0, .i x0_1, .i x0_2, .i x0_3, .i x0_4, .i x0_5, .i x0_6, .i x0_7, .b c1_0, .i x1_1, .i x1_2, .i x1_3, .i x1_4, .i x1_5, .i x1_6, .i x1_7]).den = dn_plus K c0_0 x0_1 x0_2 x0_3 x0_4 x0_5 x0_6 x0_7 c1_0 x1_1 x1_2 x1_3 x1_4 x1_5 x1_6 x1_7 := by kernel_rfl
def dn_plus_w (K : Nat) : List U → Option (Bool × Int × Int × Int × Int × Int × Int × Int) := fun | [.b c0_0, .i x0_1, .i x0_2, .i x0_3, .i x0_4, .i x0_5, .i x0_6, .i x0_7, .b c1_0, .i x1_1, .i x1_2, .i x1_3, .i x1_4, .i x1_5, .i x1_6, .i x1_7] => dn_plus K c0_0 x0_1 x0_2 x0_3 x0_4 x0_5 x0_6 x0_7 c1_0 x1_1 x1_2 x1_3 x1_4 x1_5 x1_6 x1_7 | _ => none
def dn_plus_spec (K : Nat) : Vm.Spec := ⟨[.agg [.bool, .int .u64, .int .u64, .int .u64, .int .u64, .int .u64, .int .u64, .int .i64], .agg [.bool, .int .u64, .int .u64, .int .u64, .int .u64, .int .u64, .int .u64, .int .i64]], [.agg [.bool, .int .u64, .int .u64, .int .u64, .int .u64, .int .u64, .int .u64, .int .i64]], Bool × Int × Int × Int × Int × Int × Int × Int, dn_plus_w K, dn_plus_enc⟩
theorem dn_plus_ok (K : Nat) : FnOk Try.prog 43 (dn_plus_spec K) := fn_ok' hmix (env_dn_to_ok K) (lenv := lenv0) (args := [.agg [.bool, .int .u64, .int .u64, .int .u64, .int .u64, .int .u64, .int .u64, .int .i64], .agg [.bool, .int .u64, .int .u64, .int .u64, .int .u64, .int .u64, .int .u64, .int .i64]]) (res := [.agg [.bool, .int .u64, .int .u64, .int .u64, .int .u64, .int .u64, .int .u64, .int .i64]]) (G := dn_plus_w K) (enc := dn_plus_enc) Try.func43 (lps_fn (l := []) (by kernel_rfl) trivial) (dec := dn_plus_dec) (fun u r h => by unfold dn_plus_dec at h; split at h; (cases h; rfl); cases h) (fun us r h => by unfold dn_plus_w at h; split at h; exact (dn_plus_eq K _ _ _ _ _ _ _ _ _ _ _ _ _ _ _ _).trans h; cases h)
def env_dn_plus (K : Nat) : FuncId → Option Vm.Spec := addS (env_dn_to K) 43 (dn_plus_spec K)
theorem env_dn_plus_ok (K : Nat) : EnvOk Try.prog (env_dn_plus K) := addS_ok (env_dn_to_ok K) (.inl ⟨callable Try.func43 (by kernel_rfl) (by kernel_rfl), dn_plus_ok K⟩)
def dec_way_dec : List U → Option (Int) := fun | [.i x0] => some (x0) | _ => none
def dec_way_enc : (Int) → List U := fun r => [.i r]
def dec_way (K : Nat) (x0 : Int) (x1 : Int) : Option (Int) := (if (decide (x0 < 0)) = true then
 (some (1))
 else (if (decide (x0 > 18)) = true then
 (some (1))
 else (if (decide (x1 < 0)) = true then
 (some (1))
 else (if (decide (x1 > 6)) = true then
 (some (1))
 else (some (0))))))
theorem dec_way_eq (K : Nat) (x0 : Int) (x1 : Int) : (runF Try.prog (env_dn_plus K) (lenv0) Try.f76 [.one (.int .i64), .one (.int .i64)] [.one (.int .i64)] dec_way_dec [.i x0, .i x1]).den = dec_way K x0 x1 := by kernel_rfl
def dec_way_w (K : Nat) : List U → Option (Int) := fun | [.i x0, .i x1] => dec_way K x0 x1 | _ => none
def dec_way_spec (K : Nat) : Vm.Spec := ⟨[.one (.int .i64), .one (.int .i64)], [.one (.int .i64)], Int, dec_way_w K, dec_way_enc⟩
theorem dec_way_ok (K : Nat) : FnOk Try.prog 76 (dec_way_spec K) := fn_ok' hmix (env_dn_plus_ok K) (lenv := lenv0) (args := [.one (.int .i64), .one (.int .i64)]) (res := [.one (.int .i64)]) (G := dec_way_w K) (enc := dec_way_enc) Try.func76 (lps_fn (l := []) (by kernel_rfl) trivial) (dec := dec_way_dec) (fun u r h => by unfold dec_way_dec at h; split at h; (cases h; rfl); cases h) (fun us r h => by unfold dec_way_w at h; split at h; exact (dec_way_eq K _ _).trans h; cases h)
def env_dec_way (K : Nat) : FuncId → Option Vm.Spec := addS (env_dn_plus K) 76 (dec_way_spec K)
theorem env_dec_way_ok (K : Nat) : EnvOk Try.prog (env_dec_way K) := addS_ok (env_dn_plus_ok K) (.inl ⟨callable Try.func76 (by kernel_rfl) (by kernel_rfl), dec_way_ok K⟩)
def dec_Neg_dec : List U → Option (Int × Int × Int × Int) := fun | [.i x0_0, .i x0_1, .i x0_2, .i x1] => some (x0_0, x0_1, x0_2, x1) | _ => none
def dec_Neg_enc : (Int × Int × Int × Int) → List U := fun r => [.i r.1, .i r.2.1, .i r.2.2.1, .i r.2.2.2]
def dec_Neg (K : Nat) (x0_0 : Int) (x0_1 : Int) (x0_2 : Int) : Option (Int × Int × Int × Int) := ((dec_Check K x0_0 x0_1 x0_2).bind fun r0 => (if (r0 != 0) = true then
 (some ((0, 0, 0, r0)))
 else ((dec_apart K x0_0 x0_1 x0_2).bind fun r1 => ((dec_together K (!r1.fst) r1.snd.fst r1.snd.snd.fst r1.snd.snd.snd.fst
 r1.snd.snd.snd.snd.fst r1.snd.snd.snd.snd.snd.fst r1.snd.snd.snd.snd.snd.snd.fst r1.snd.snd.snd.snd.snd.snd.snd).bind fun r2 => (some ((r2.fst, r2.snd.fst, r2.snd.snd.fst, r2.snd.snd.snd)))))))
theorem dec_Neg_eq (K : Nat) (x0_0 : Int) (x0_1 : Int) (x0_2 : Int) : (runF Try.prog (env_dec_way K) (lenv0) Try.f16 [.agg [.int .i64, .int .u64, .int .i64]] [.agg [.int .i64, .int .u64, .int .i64], .one (.int .i64)] dec_Neg_dec [.i x0_0, .i x0_1, .i x0_2]).den = dec_Neg K x0_0 x0_1 x0_2 := by kernel_rfl
def dec_Neg_w (K : Nat) : List U → Option (Int × Int × Int × Int) := fun | [.i x0_0, .i x0_1, .i x0_2] => dec_Neg K x0_0 x0_1 x0_2 | _ => none
def dec_Neg_spec (K : Nat) : Vm.Spec := ⟨[.agg [.int .i64, .int .u64, .int .i64]], [.agg [.int .i64, .int .u64, .int .i64], .one (.int .i64)], Int × Int × Int × Int, dec_Neg_w K, dec_Neg_enc⟩
theorem dec_Neg_ok (K : Nat) : FnOk Try.prog 16 (dec_Neg_spec K) := fn_ok' hmix (env_dec_way_ok K) (lenv := lenv0) (args := [.agg [.int .i64, .int .u64, .int .i64]]) (res := [.agg [.int .i64, .int .u64, .int .i64], .one (.int .i64)]) (G := dec_Neg_w K) (enc := dec_Neg_enc) Try.func16 (lps_fn (l := []) (by kernel_rfl) trivial) (dec := dec_Neg_dec) (fun u r h => by unfold dec_Neg_dec at h; split at h; (cases h; rfl); cases h) (fun us r h => by unfold dec_Neg_w at h; split at h; exact (dec_Neg_eq K _ _ _).trans h; cases h)
def env_dec_Neg (K : Nat) : FuncId → Option Vm.Spec := addS (env_dec_way K) 16 (dec_Neg_spec K)
theorem env_dec_Neg_ok (K : Nat) : EnvOk Try.prog (env_dec_Neg K) := addS_ok (env_dec_way_ok K) (.inl ⟨callable Try.func16 (by kernel_rfl) (by kernel_rfl), dec_Neg_ok K⟩)
def dec_Add_dec : List U → Option (Int × Int × Int × Int) := fun | [.i x0_0, .i x0_1, .i x0_2, .i x1] => some (x0_0, x0_1, x0_2, x1) | _ => none
def dec_Add_enc : (Int × Int × Int × Int) → List U := fun r => [.i r.1, .i r.2.1, .i r.2.2.1, .i r.2.2.2]
def dec_Add (K : Nat) (x0_0 : Int) (x0_1 : Int) (x0_2 : Int) (x1_0 : Int) (x1_1 : Int) (x1_2 : Int) : Option (Int × Int × Int × Int) := ((dec_both K x0_0 x0_1 x0_2 x1_0 x1_1 x1_2).bind fun r0 => (if (r0 != 0) = true then
 (some ((0, 0, 0, r0)))
 else ((dec_apart K x0_0 x0_1 x0_2).bind fun r1 => ((dn_to K r1.fst r1.snd.fst r1.snd.snd.fst r1.snd.snd.snd.fst r1.snd.snd.snd.snd.fst
 r1.snd.snd.snd.snd.snd.fst r1.snd.snd.snd.snd.snd.snd.fst r1.snd.snd.snd.snd.snd.snd.snd
 (if x1_2 > x0_2 then x1_2 else x0_2)).bind fun r2 => ((dec_apart K x1_0 x1_1 x1_2).bind fun r3 => ((dn_to K r3.fst r3.snd.fst r3.snd.snd.fst r3.snd.snd.snd.fst r3.snd.snd.snd.snd.fst
 r3.snd.snd.snd.snd.snd.fst r3.snd.snd.snd.snd.snd.snd.fst r3.snd.snd.snd.snd.snd.snd.snd
 (if x1_2 > x0_2 then x1_2 else x0_2)).bind fun r4 => ((dn_plus K r2.fst r2.snd.fst r2.snd.snd.fst r2.snd.snd.snd.fst
 r2.snd.snd.snd.snd.fst r2.snd.snd.snd.snd.snd.fst r2.snd.snd.snd.snd.snd.snd.fst r2.snd.snd.snd.snd.snd.snd.snd r4.fst
 r4.snd.fst r4.snd.snd.fst r4.snd.snd.snd.fst r4.snd.snd.snd.snd.fst r4.snd.snd.snd.snd.snd.fst
 r4.snd.snd.snd.snd.snd.snd.fst r4.snd.snd.snd.snd.snd.snd.snd).bind fun r5 => ((dec_together K r5.fst r5.snd.fst r5.snd.snd.fst r5.snd.snd.snd.fst r5.snd.snd.snd.snd.fst
 r5.snd.snd.snd.snd.snd.fst r5.snd.snd.snd.snd.snd.snd.fst r5.snd.snd.snd.snd.snd.snd.snd).bind fun r6 => (some ((r6.fst, r6.snd.fst, r6.snd.snd.fst, r6.snd.snd.snd)))))))))))
theorem dec_Add_eq (K : Nat) (x0_0 : Int) (x0_1 : Int) (x0_2 : Int) (x1_0 : Int) (x1_1 : Int) (x1_2 : Int) : (runF Try.prog (env_dec_Neg K) (lenv0) Try.f21 [.agg [.int .i64, .int .u64, .int .i64], .agg [.int .i64, .int .u64, .int .i64]] [.agg [.int .i64, .int .u64, .int .i64], .one (.int .i64)] dec_Add_dec [.i x0_0, .i x0_1, .i x0_2, .i x1_0, .i x1_1, .i x1_2]).den = dec_Add K x0_0 x0_1 x0_2 x1_0 x1_1 x1_2 := by kernel_rfl
def dec_Add_w (K : Nat) : List U → Option (Int × Int × Int × Int) := fun | [.i x0_0, .i x0_1, .i x0_2, .i x1_0, .i x1_1, .i x1_2] => dec_Add K x0_0 x0_1 x0_2 x1_0 x1_1 x1_2 | _ => none
def dec_Add_spec (K : Nat) : Vm.Spec := ⟨[.agg [.int .i64, .int .u64, .int .i64], .agg [.int .i64, .int .u64, .int .i64]], [.agg [.int .i64, .int .u64, .int .i64], .one (.int .i64)], Int × Int × Int × Int, dec_Add_w K, dec_Add_enc⟩
theorem dec_Add_ok (K : Nat) : FnOk Try.prog 21 (dec_Add_spec K) := fn_ok' hmix (env_dec_Neg_ok K) (lenv := lenv0) (args := [.agg [.int .i64, .int .u64, .int .i64], .agg [.int .i64, .int .u64, .int .i64]]) (res := [.agg [.int .i64, .int .u64, .int .i64], .one (.int .i64)]) (G := dec_Add_w K) (enc := dec_Add_enc) Try.func21 (lps_fn (l := []) (by kernel_rfl) trivial) (dec := dec_Add_dec) (fun u r h => by unfold dec_Add_dec at h; split at h; (cases h; rfl); cases h) (fun us r h => by unfold dec_Add_w at h; split at h; exact (dec_Add_eq K _ _ _ _ _ _).trans h; cases h)
def env_dec_Add (K : Nat) : FuncId → Option Vm.Spec := addS (env_dec_Neg K) 21 (dec_Add_spec K)
theorem env_dec_Add_ok (K : Nat) : EnvOk Try.prog (env_dec_Add K) := addS_ok (env_dec_Neg_ok K) (.inl ⟨callable Try.func21 (by kernel_rfl) (by kernel_rfl), dec_Add_ok K⟩)
def dec_Cmp_dec : List U → Option (Int × Int) := fun | [.i x0, .i x1] => some (x0, x1) | _ => none
def dec_Cmp_enc : (Int × Int) → List U := fun r => [.i r.1, .i r.2]
def dec_Cmp (K : Nat) (x0_0 : Int) (x0_1 : Int) (x0_2 : Int) (x1_0 : Int) (x1_1 : Int) (x1_2 : Int) : Option (Int × Int) := ((dec_both K x0_0 x0_1 x0_2 x1_0 x1_1 x1_2).bind fun r0 => (if (r0 != 0) = true then
 (some ((0, r0)))
 else ((dec_apart K x1_0 x1_1 x1_2).bind fun r1 => ((dn_to K r1.fst r1.snd.fst r1.snd.snd.fst r1.snd.snd.snd.fst r1.snd.snd.snd.snd.fst
 r1.snd.snd.snd.snd.snd.fst r1.snd.snd.snd.snd.snd.snd.fst r1.snd.snd.snd.snd.snd.snd.snd
 (if x1_2 > x0_2 then x1_2 else x0_2)).bind fun r2 => ((dec_apart K x0_0 x0_1 x0_2).bind fun r3 => ((dn_to K r3.fst r3.snd.fst r3.snd.snd.fst r3.snd.snd.snd.fst r3.snd.snd.snd.snd.fst
 r3.snd.snd.snd.snd.snd.fst r3.snd.snd.snd.snd.snd.snd.fst r3.snd.snd.snd.snd.snd.snd.snd
 (if x1_2 > x0_2 then x1_2 else x0_2)).bind fun r4 => ((dn_plus K r4.fst r4.snd.fst r4.snd.snd.fst r4.snd.snd.snd.fst
 r4.snd.snd.snd.snd.fst r4.snd.snd.snd.snd.snd.fst r4.snd.snd.snd.snd.snd.snd.fst r4.snd.snd.snd.snd.snd.snd.snd
 (!r2.fst) r2.snd.fst r2.snd.snd.fst r2.snd.snd.snd.fst r2.snd.snd.snd.snd.fst r2.snd.snd.snd.snd.snd.fst
 r2.snd.snd.snd.snd.snd.snd.fst r2.snd.snd.snd.snd.snd.snd.snd).bind fun r5 => ((wI_Len K r5.snd.fst r5.snd.snd.fst r5.snd.snd.snd.fst r5.snd.snd.snd.snd.fst
 r5.snd.snd.snd.snd.snd.fst r5.snd.snd.snd.snd.snd.snd.fst).bind fun r6 => (if (r6 == 0) = true then
 (some ((0, 0)))
 else (if (r5.fst) = true then
 (some ((-1, 0)))
 else (some ((1, 0)))))))))))))
theorem dec_Cmp_eq (K : Nat) (x0_0 : Int) (x0_1 : Int) (x0_2 : Int) (x1_0 : Int) (x1_1 : Int) (x1_2 : Int) : (runF Try.prog (env_dec_Add K) (lenv0) Try.f46 [.agg [.int .i64, .int .u64, .int .i64], .agg [.int .i64, .int .u64, .int .i64]] [.one (.int .i64), .one (.int .i64)] dec_Cmp_dec [.i x0_0, .i x0_1, .i x0_2, .i x1_0, .i x1_1, .i x1_2]).den = dec_Cmp K x0_0 x0_1 x0_2 x1_0 x1_1 x1_2 := by kernel_rfl
def dec_Cmp_w (K : Nat) : List U → Option (Int × Int) := fun | [.i x0_0, .i x0_1, .i x0_2, .i x1_0, .i x1_1, .i x1_2] => dec_Cmp K x0_0 x0_1 x0_2 x1_0 x1_1 x1_2 | _ => none
def dec_Cmp_spec (K : Nat) : Vm.Spec := ⟨[.agg [.int .i64, .int .u64, .int .i64], .agg [.int .i64, .int .u64, .int .i64]], [.one (.int .i64), .one (.int .i64)], Int × Int, dec_Cmp_w K, dec_Cmp_enc⟩
theorem dec_Cmp_ok (K : Nat) : FnOk Try.prog 46 (dec_Cmp_spec K) := fn_ok' hmix (env_dec_Add_ok K) (lenv := lenv0) (args := [.agg [.int .i64, .int .u64, .int .i64], .agg [.int .i64, .int .u64, .int .i64]]) (res := [.one (.int .i64), .one (.int .i64)]) (G := dec_Cmp_w K) (enc := dec_Cmp_enc) Try.func46 (lps_fn (l := []) (by kernel_rfl) trivial) (dec := dec_Cmp_dec) (fun u r h => by unfold dec_Cmp_dec at h; split at h; (cases h; rfl); cases h) (fun us r h => by unfold dec_Cmp_w at h; split at h; exact (dec_Cmp_eq K _ _ _ _ _ _).trans h; cases h)
def env_dec_Cmp (K : Nat) : FuncId → Option Vm.Spec := addS (env_dec_Add K) 46 (dec_Cmp_spec K)
theorem env_dec_Cmp_ok (K : Nat) : EnvOk Try.prog (env_dec_Cmp K) := addS_ok (env_dec_Add_ok K) (.inl ⟨callable Try.func46 (by kernel_rfl) (by kernel_rfl), dec_Cmp_ok K⟩)
def dec_Mul_dec : List U → Option (Int × Int × Int × Int) := fun | [.i x0_0, .i x0_1, .i x0_2, .i x1] => some (x0_0, x0_1, x0_2, x1) | _ => none
def dec_Mul_enc : (Int × Int × Int × Int) → List U := fun r => [.i r.1, .i r.2.1, .i r.2.2.1, .i r.2.2.2]
def dec_Mul (K : Nat) (x0_0 : Int) (x0_1 : Int) (x0_2 : Int) (x1_0 : Int) (x1_1 : Int) (x1_2 : Int) (x2 : Int) (x3 : Int) : Option (Int × Int × Int × Int) := ((dec_way K x2 x3).bind fun r0 => (if (r0 != 0) = true then
 (some ((0, 0, 0, r0)))
 else ((dec_both K x0_0 x0_1 x0_2 x1_0 x1_1 x1_2).bind fun r1 => (if (r1 != 0) = true then
 (some ((0, 0, 0, r1)))
 else ((dec_apart K x0_0 x0_1 x0_2).bind fun r2 => ((dec_apart K x1_0 x1_1 x1_2).bind fun r3 => ((wI_Mul K r2.snd.fst r2.snd.snd.fst r2.snd.snd.snd.fst r2.snd.snd.snd.snd.fst
 r2.snd.snd.snd.snd.snd.fst r2.snd.snd.snd.snd.snd.snd.fst r3.snd.fst r3.snd.snd.fst r3.snd.snd.snd.fst
 r3.snd.snd.snd.snd.fst r3.snd.snd.snd.snd.snd.fst r3.snd.snd.snd.snd.snd.snd.fst).bind fun r4 => ((dec_scaled K (!r2.fst == r3.fst) r4.fst r4.snd.fst r4.snd.snd.fst r4.snd.snd.snd.fst
 r4.snd.snd.snd.snd.fst r4.snd.snd.snd.snd.snd
 (IntKind.i64.wrap (r2.snd.snd.snd.snd.snd.snd.snd + r3.snd.snd.snd.snd.snd.snd.snd)) x2 x3).bind fun r5 => (some ((r5.fst, r5.snd.fst, r5.snd.snd.fst, r5.snd.snd.snd)))))))))))
theorem dec_Mul_eq (K : Nat) (x0_0 : Int) (x0_1 : Int) (x0_2 : Int) (x1_0 : Int) (x1_1 : Int) (x1_2 : Int) (x2 : Int) (x3 : Int) : (runF Try.prog (env_dec_Cmp K) (lenv0) Try.f64 [.agg [.int .i64, .int .u64, .int .i64], .agg [.int .i64, .int .u64, .int .i64], .one (.int .i64), .one (.int .i64)] [.agg [.int .i64, .int .u64, .int .i64], .one (.int .i64)] dec_Mul_dec [.i x0_0, .i x0_1, .i x0_2, .i x1_0, .i x1_1, .i x1_2, .i x2, .i x3]).den = dec_Mul K x0_0 x0_1 x0_2 x1_0 x1_1 x1_2 x2 x3 := by kernel_rfl
def dec_Mul_w (K : Nat) : List U → Option (Int × Int × Int × Int) := fun | [.i x0_0, .i x0_1, .i x0_2, .i x1_0, .i x1_1, .i x1_2, .i x2, .i x3] => dec_Mul K x0_0 x0_1 x0_2 x1_0 x1_1 x1_2 x2 x3 | _ => none
def dec_Mul_spec (K : Nat) : Vm.Spec := ⟨[.agg [.int .i64, .int .u64, .int .i64], .agg [.int .i64, .int .u64, .int .i64], .one (.int .i64), .one (.int .i64)], [.agg [.int .i64, .int .u64, .int .i64], .one (.int .i64)], Int × Int × Int × Int, dec_Mul_w K, dec_Mul_enc⟩
theorem dec_Mul_ok (K : Nat) : FnOk Try.prog 64 (dec_Mul_spec K) := fn_ok' hmix (env_dec_Cmp_ok K) (lenv := lenv0) (args := [.agg [.int .i64, .int .u64, .int .i64], .agg [.int .i64, .int .u64, .int .i64], .one (.int .i64), .one (.int .i64)]) (res := [.agg [.int .i64, .int .u64, .int .i64], .one (.int .i64)]) (G := dec_Mul_w K) (enc := dec_Mul_enc) Try.func64 (lps_fn (l := []) (by kernel_rfl) trivial) (dec := dec_Mul_dec) (fun u r h => by unfold dec_Mul_dec at h; split at h; (cases h; rfl); cases h) (fun us r h => by unfold dec_Mul_w at h; split at h; exact (dec_Mul_eq K _ _ _ _ _ _ _ _).trans h; cases h)
def env_dec_Mul (K : Nat) : FuncId → Option Vm.Spec := addS (env_dec_Cmp K) 64 (dec_Mul_spec K)
theorem env_dec_Mul_ok (K : Nat) : EnvOk Try.prog (env_dec_Mul K) := addS_ok (env_dec_Cmp_ok K) (.inl ⟨callable Try.func64 (by kernel_rfl) (by kernel_rfl), dec_Mul_ok K⟩)
end Go.Proofs.Ytimhhefngigfeaa.F
