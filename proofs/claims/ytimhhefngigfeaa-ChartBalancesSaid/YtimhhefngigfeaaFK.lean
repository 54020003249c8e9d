import Derived.Test.YtimhhefngigfeaaVmY
import Derived.Test.YtimhhefngigfeaaVmRc
import Derived.Test.YtimhhefngigfeaaVmMq
import Derived.Test.YtimhhefngigfeaaProg
import Derived.Test.YtimhhefngigfeaaFO
namespace Go.Proofs.Ytimhhefngigfeaa.F
open Go Go.Proofs.Ytimhhefngigfeaa.Vm
set_option maxRecDepth 1000000
set_option linter.unusedVariables false
set_option linter.unusedSimpArgs false
noncomputable section
def r13_DocPost_l34_pre : Vm.Pat := ⟨111, [(96, .pv (.agg [.bool, .ro [.int .u64], .bool, .ro [.int .u64], .bool, .ro [.int .u64], .bool, .ro [.int .u64]])), (97, .pv (.one (.int .i64))), (0, .mem 0 0 RLs), (7, .mem 1 0 RLs)], [.mem RLs, .mem RLs], [0]⟩
def r13_DocPost_l34_post0 : Vm.Pat := ⟨111, [(0, .mem 0 0 RLs), (7, .mem 1 0 RLs)], [.mem RLs, .mem RLs], [0]⟩
def r13_DocPost_l34_enc0 : List D × List D → List U := fun r => [.ds r.1, .ds r.2]
def r13_DocPost_l34_dec0 : List U → Option (List D × List D) := fun | [.ds e0, .ds e7] => some (e0, e7) | _ => none
def r13_DocPost_l34_post1 : Vm.Pat := ⟨111, [(4, .pv (.one (.int .i64))), (0, .mem 0 0 RLs)], [.mem RLs], [0]⟩
def r13_DocPost_l34_enc1 : Int × List D → List U := fun r => [.i r.1, .ds r.2]
def r13_DocPost_l34_dec1 : List U → Option (Int × List D) := fun | [.i x4, .ds e0] => some (x4, e0) | _ => none
def r13_DocPost_l34 (K : Nat) : Nat → Bool → List (List D) → Bool → List (List D) → Bool → List (List D) → Bool → List (List D) → Int → List D → List D → Option ((List D × List D) ⊕ (Int × List D))
 | 0, _, _, _, _, _, _, _, _, _, _, _ => none
 | k + 1, c96_0, dd96_1, c96_2, dd96_3, c96_4, dd96_5, c96_6, dd96_7, x97, e0, e7 => (bi (decide (x97 < 4))
 (bi (decide (0 ≤ x97) && decide (x97 < 4))
 (bi (decide (x97 = 3))
 ((r1_Sign_ro K c96_6 (D.l dd96_7).toL).bind fun r0 => (bi (r0 != 0)
 (some (Sum.inr (15, e0)))
 (r13_DocPost_l34 K k (c96_0) ((D.l dd96_1).toL) (c96_2) ((D.l dd96_3).toL) (c96_4) ((D.l dd96_5).toL) (c96_6) ((D.l dd96_7).toL) (IntKind.i64.wrap (x97 + 1)) (e0) (e7))))
 (bi (decide (x97 = 2))
 ((r1_Sign_ro K c96_4 (D.l dd96_5).toL).bind fun r1 => (bi (r1 != 0)
 (some (Sum.inr (15, e0)))
 (r13_DocPost_l34 K k (c96_0) ((D.l dd96_1).toL) (c96_2) ((D.l dd96_3).toL) (c96_4) ((D.l dd96_5).toL) (c96_6) ((D.l dd96_7).toL) (IntKind.i64.wrap (x97 + 1)) (e0) (e7))))
 (bi (decide (x97 = 1))
 ((r1_Sign_ro K c96_2 (D.l dd96_3).toL).bind fun r2 => (bi (r2 != 0)
 (some (Sum.inr (15, e0)))
 (r13_DocPost_l34 K k (c96_0) ((D.l dd96_1).toL) (c96_2) ((D.l dd96_3).toL) (c96_4) ((D.l dd96_5).toL) (c96_6) ((D.l dd96_7).toL) (IntKind.i64.wrap (x97 + 1)) (e0) (e7))))
 (bi (decide (x97 = 0))
 ((r1_Sign_ro K c96_0 (D.l dd96_1).toL).bind fun r3 => (bi (r3 != 0)
 (some (Sum.inr (15, e0)))
 (r13_DocPost_l34 K k (c96_0) ((D.l dd96_1).toL) (c96_2) ((D.l dd96_3).toL) (c96_4) ((D.l dd96_5).toL) (c96_6) ((D.l dd96_7).toL) (IntKind.i64.wrap (x97 + 1)) (e0) (e7))))
 none))))
 none)
 (some (Sum.inl (e0, e7))))
def r13_DocPost_l34_w (K k : Nat) : List U → Option ((List D × List D) ⊕ (Int × List D)) := fun | [.b c96_0, .d dd96_1, .b c96_2, .d dd96_3, .b c96_4, .d dd96_5, .b c96_6, .d dd96_7, .i x97, .ds e0, .ds e7] => r13_DocPost_l34 K k c96_0 dd96_1 c96_2 dd96_3 c96_4 dd96_5 c96_6 dd96_7 x97 e0 e7 | _ => none
theorem r13_DocPost_l34_eq (K k : Nat) (c96_0 : Bool) (dd96_1 : List (List D)) (c96_2 : Bool) (dd96_3 : List (List D)) (c96_4 : Bool) (dd96_5 : List (List D)) (c96_6 : Bool) (dd96_7 : List (List D)) (x97 : Int) (e0 : List D) (e7 : List D) : (round2K Try.prog (env_law13_awake K) (lenv0) (lp (bodyOf Try.f12) 2) r13_DocPost_l34_pre (.exit 6) r13_DocPost_l34_post0 .ret r13_DocPost_l34_post1 r13_DocPost_l34_dec0 r13_DocPost_l34_dec1 (r13_DocPost_l34_w K k) [.b c96_0, .d dd96_1, .b c96_2, .d dd96_3, .b c96_4, .d dd96_5, .b c96_6, .d dd96_7, .i x97, .ds e0, .ds e7]).den2 = r13_DocPost_l34 K (k + 1) c96_0 dd96_1 c96_2 dd96_3 c96_4 dd96_5 c96_6 dd96_7 x97 e0 e7 := by kernel_rfl
def r13_DocPost_l34_s (K : Nat) : Vm.LS := .two r13_DocPost_l34_pre _ _ (.exit 6) r13_DocPost_l34_post0 .ret r13_DocPost_l34_post1 (r13_DocPost_l34_w K K) r13_DocPost_l34_enc0 r13_DocPost_l34_enc1
theorem r13_DocPost_l34_ok (K : Nat) : LoopOk Try.prog (lp (bodyOf Try.f12) 2) (r13_DocPost_l34_s K) := loop_twoK hmix (env_law13_awake_ok K) (lenv := lenv0) (L := r13_DocPost_l34_w K) (enc := r13_DocPost_l34_enc0) (dec := r13_DocPost_l34_dec0) (enc' := r13_DocPost_l34_enc1) (dec' := r13_DocPost_l34_dec1) (lps_ok (l := []) (by kernel_rfl) trivial) (fun u r h => by unfold r13_DocPost_l34_dec0 at h; split at h; (cases h; rfl); cases h) (fun u r h => by unfold r13_DocPost_l34_dec1 at h; split at h; (cases h; rfl); cases h) (fun us => by unfold r13_DocPost_l34_w; split <;> first | rfl | (simp only [r13_DocPost_l34])) (fun k us r h => by unfold r13_DocPost_l34_w at h; split at h; exact ((den2_eq _).symm.trans (r13_DocPost_l34_eq K k _ _ _ _ _ _ _ _ _ _ _)).trans h; cases h) K
def r13_DocPost_v34 (K : Nat) : Nat → Option Vm.LS := addL (lenv0) 34 (r13_DocPost_l34_s K)
def r13_DocPost_l27_pre : Vm.Pat := ⟨111, [(12, .pv (.one (.int .i64))), (78, .pv (.one (.int .i64))), (81, .pv (.one (.int .i64))), (0, .mem 0 0 RLs), (6, .mem 1 0 [.bool, .sl [.int .u64], .bool, .sl [.int .u64], .bool, .sl [.int .u64], .bool, .sl [.int .u64]]), (7, .mem 2 0 RLs)], [.mem RLs, .mem [.bool, .sl [.int .u64], .bool, .sl [.int .u64], .bool, .sl [.int .u64], .bool, .sl [.int .u64]], .mem RLs], [0]⟩
def r13_DocPost_l27_post0 : Vm.Pat := ⟨111, [(78, .pv (.one (.int .i64))), (0, .mem 0 0 RLs), (6, .mem 1 0 [.bool, .sl [.int .u64], .bool, .sl [.int .u64], .bool, .sl [.int .u64], .bool, .sl [.int .u64]]), (7, .mem 2 0 RLs)], [.mem RLs, .mem [.bool, .sl [.int .u64], .bool, .sl [.int .u64], .bool, .sl [.int .u64], .bool, .sl [.int .u64]], .mem RLs], [0]⟩
def r13_DocPost_l27_enc0 : Int × List D × List D × List D → List U := fun r => [.i r.1, .ds r.2.1, .ds r.2.2.1, .ds r.2.2.2]
def r13_DocPost_l27_dec0 : List U → Option (Int × List D × List D × List D) := fun | [.i x78, .ds e0, .ds e6, .ds e7] => some (x78, e0, e6, e7) | _ => none
def r13_DocPost_l27_post1 : Vm.Pat := ⟨111, [(4, .pv (.one (.int .i64))), (0, .mem 0 0 RLs)], [.mem RLs], [0]⟩
def r13_DocPost_l27_enc1 : Int × List D → List U := fun r => [.i r.1, .ds r.2]
def r13_DocPost_l27_dec1 : List U → Option (Int × List D) := fun | [.i x4, .ds e0] => some (x4, e0) | _ => none
def r13_DocPost_l27 (K : Nat) : Nat → Int → Int → Int → List D → List D → List D → Option ((Int × List D × List D × List D) ⊕ (Int × List D))
 | 0, _, _, _, _, _, _ => none
 | k + 1, x12, x78, x81, e0, e6, e7 => (bi (decide (x81 < 4))
 (bi (decide (0 ≤ x12) && decide (x12 < 9))
 (bi (decide (0 ≤ x81) && decide (x81 < 4))
 ((r1_Ten K 36).bind fun r0 => ((r1_Compare_ro K
 (D.l
 (nth d0 e7
 (0 + x12.toNat * 8 + x81.toNat * 2 + 1)).toL).toL
 (D.l (List.map (fun x => [D.i x]) r0)).toL).bind fun r1 => (bi (decide (r1 > 0))
 (some (Sum.inr (4, e0)))
 (r13_DocPost_l27 K k (x12) (x78) (IntKind.i64.wrap (x81 + 1)) (e0) (e6) (e7)))))
 none)
 none)
 (some (Sum.inl (x78, e0, e6, e7))))
def r13_DocPost_l27_w (K k : Nat) : List U → Option ((Int × List D × List D × List D) ⊕ (Int × List D)) := fun | [.i x12, .i x78, .i x81, .ds e0, .ds e6, .ds e7] => r13_DocPost_l27 K k x12 x78 x81 e0 e6 e7 | _ => none
theorem r13_DocPost_l27_eq (K k : Nat) (x12 : Int) (x78 : Int) (x81 : Int) (e0 : List D) (e6 : List D) (e7 : List D) : (round2K Try.prog (env_law13_awake K) (r13_DocPost_v34 K) (lp (lp (bodyOf Try.f12) 1) 0) r13_DocPost_l27_pre (.exit 4) r13_DocPost_l27_post0 .ret r13_DocPost_l27_post1 r13_DocPost_l27_dec0 r13_DocPost_l27_dec1 (r13_DocPost_l27_w K k) [.i x12, .i x78, .i x81, .ds e0, .ds e6, .ds e7]).den2 = r13_DocPost_l27 K (k + 1) x12 x78 x81 e0 e6 e7 := by kernel_rfl
def r13_DocPost_l27_s (K : Nat) : Vm.LS := .two r13_DocPost_l27_pre _ _ (.exit 4) r13_DocPost_l27_post0 .ret r13_DocPost_l27_post1 (r13_DocPost_l27_w K K) r13_DocPost_l27_enc0 r13_DocPost_l27_enc1
theorem r13_DocPost_l27_ok (K : Nat) : LoopOk Try.prog (lp (lp (bodyOf Try.f12) 1) 0) (r13_DocPost_l27_s K) := loop_twoK hmix (env_law13_awake_ok K) (lenv := r13_DocPost_v34 K) (L := r13_DocPost_l27_w K) (enc := r13_DocPost_l27_enc0) (dec := r13_DocPost_l27_dec0) (enc' := r13_DocPost_l27_enc1) (dec' := r13_DocPost_l27_dec1) (lps_ok (l := []) (by kernel_rfl) trivial) (fun u r h => by unfold r13_DocPost_l27_dec0 at h; split at h; (cases h; rfl); cases h) (fun u r h => by unfold r13_DocPost_l27_dec1 at h; split at h; (cases h; rfl); cases h) (fun us => by unfold r13_DocPost_l27_w; split <;> first | rfl | (simp only [r13_DocPost_l27])) (fun k us r h => by unfold r13_DocPost_l27_w at h; split at h; exact ((den2_eq _).symm.trans (r13_DocPost_l27_eq K k _ _ _ _ _ _)).trans h; cases h) K
def r13_DocPost_v27 (K : Nat) : Nat → Option Vm.LS := addL (r13_DocPost_v34 K) 27 (r13_DocPost_l27_s K)
def r13_DocPost_l24_pre : Vm.Pat := ⟨111, [(78, .pv (.one (.int .i64))), (0, .mem 0 0 RLs), (6, .mem 1 0 [.bool, .sl [.int .u64], .bool, .sl [.int .u64], .bool, .sl [.int .u64], .bool, .sl [.int .u64]]), (7, .mem 2 0 RLs)], [.mem RLs, .mem [.bool, .sl [.int .u64], .bool, .sl [.int .u64], .bool, .sl [.int .u64], .bool, .sl [.int .u64]], .mem RLs], [0]⟩
def r13_DocPost_l24_post0 : Vm.Pat := ⟨111, [(0, .mem 0 0 RLs), (6, .mem 1 0 [.bool, .sl [.int .u64], .bool, .sl [.int .u64], .bool, .sl [.int .u64], .bool, .sl [.int .u64]]), (7, .mem 2 0 RLs)], [.mem RLs, .mem [.bool, .sl [.int .u64], .bool, .sl [.int .u64], .bool, .sl [.int .u64], .bool, .sl [.int .u64]], .mem RLs], [0]⟩
def r13_DocPost_l24_enc0 : List D × List D × List D → List U := fun r => [.ds r.1, .ds r.2.1, .ds r.2.2]
def r13_DocPost_l24_dec0 : List U → Option (List D × List D × List D) := fun | [.ds e0, .ds e6, .ds e7] => some (e0, e6, e7) | _ => none
def r13_DocPost_l24_post1 : Vm.Pat := ⟨111, [(4, .pv (.one (.int .i64))), (0, .mem 0 0 RLs)], [.mem RLs], [0]⟩
def r13_DocPost_l24_enc1 : Int × List D → List U := fun r => [.i r.1, .ds r.2]
def r13_DocPost_l24_dec1 : List U → Option (Int × List D) := fun | [.i x4, .ds e0] => some (x4, e0) | _ => none
def r13_DocPost_l24 (K : Nat) : Nat → Int → List D → List D → List D → Option ((List D × List D × List D) ⊕ (Int × List D))
 | 0, _, _, _, _ => none
 | k + 1, x78, e0, e6, e7 => (bi (decide (x78 < 9))
 (casO (r13_DocPost_l27 K K x78 x78 0 e0 e6 e7) (fun r0 => (r13_DocPost_l24 K k (IntKind.i64.wrap (r0.fst + 1)) (r0.snd.fst) (r0.snd.snd.fst) (r0.snd.snd.snd))) (fun r1 => (some (Sum.inr (r1.fst, r1.snd)))))
 (some (Sum.inl (e0, e6, e7))))
def r13_DocPost_l24_w (K k : Nat) : List U → Option ((List D × List D × List D) ⊕ (Int × List D)) := fun | [.i x78, .ds e0, .ds e6, .ds e7] => r13_DocPost_l24 K k x78 e0 e6 e7 | _ => none
theorem r13_DocPost_l24_eq (K k : Nat) (x78 : Int) (e0 : List D) (e6 : List D) (e7 : List D) : (round2K Try.prog (env_law13_awake K) (r13_DocPost_v27 K) (lp (bodyOf Try.f12) 1) r13_DocPost_l24_pre (.exit 2) r13_DocPost_l24_post0 .ret r13_DocPost_l24_post1 r13_DocPost_l24_dec0 r13_DocPost_l24_dec1 (r13_DocPost_l24_w K k) [.i x78, .ds e0, .ds e6, .ds e7]).den2 = r13_DocPost_l24 K (k + 1) x78 e0 e6 e7 := by kernel_rfl
def r13_DocPost_l24_s (K : Nat) : Vm.LS := .two r13_DocPost_l24_pre _ _ (.exit 2) r13_DocPost_l24_post0 .ret r13_DocPost_l24_post1 (r13_DocPost_l24_w K K) r13_DocPost_l24_enc0 r13_DocPost_l24_enc1
theorem r13_DocPost_l24_ok (K : Nat) : LoopOk Try.prog (lp (bodyOf Try.f12) 1) (r13_DocPost_l24_s K) := loop_twoK hmix (env_law13_awake_ok K) (lenv := r13_DocPost_v27 K) (L := r13_DocPost_l24_w K) (enc := r13_DocPost_l24_enc0) (dec := r13_DocPost_l24_dec0) (enc' := r13_DocPost_l24_enc1) (dec' := r13_DocPost_l24_dec1) (lps_ok (l := [lp (lp (bodyOf Try.f12) 1) 0]) (by kernel_rfl) ⟨⟨27, r13_DocPost_l27_s K, by kernel_rfl, by kernel_rfl, r13_DocPost_l27_ok K⟩, trivial⟩) (fun u r h => by unfold r13_DocPost_l24_dec0 at h; split at h; (cases h; rfl); cases h) (fun u r h => by unfold r13_DocPost_l24_dec1 at h; split at h; (cases h; rfl); cases h) (fun us => by unfold r13_DocPost_l24_w; split <;> first | rfl | (simp only [r13_DocPost_l24])) (fun k us r h => by unfold r13_DocPost_l24_w at h; split at h; exact ((den2_eq _).symm.trans (r13_DocPost_l24_eq K k _ _ _ _)).trans h; cases h) K
def r13_DocPost_v24 (K : Nat) : Nat → Option Vm.LS := addL (r13_DocPost_v27 K) 24 (r13_DocPost_l24_s K)
def r13_DocPost_l7_pre : Vm.Pat := ⟨111, [(1, .pv (.one (.ro [.int .i64, .int .i64, .int .i64, .int .u64, .int .i64]))), (5, .pv (.one (.bool))), (21, .pv (.one (.ro [.int .i64, .int .i64, .int .i64, .int .u64, .int .i64]))), (22, .pv (.one (.int .i64))), (23, .pv (.one (.int .i64))), (0, .mem 0 0 RLs), (6, .mem 1 0 [.bool, .sl [.int .u64], .bool, .sl [.int .u64], .bool, .sl [.int .u64], .bool, .sl [.int .u64]]), (7, .mem 2 0 RLs)], [.mem RLs, .mem [.bool, .sl [.int .u64], .bool, .sl [.int .u64], .bool, .sl [.int .u64], .bool, .sl [.int .u64]], .mem RLs], [0]⟩
def r13_DocPost_l7_post0 : Vm.Pat := ⟨111, [(1, .pv (.one (.ro [.int .i64, .int .i64, .int .i64, .int .u64, .int .i64]))), (5, .pv (.one (.bool))), (0, .mem 0 0 RLs), (6, .mem 1 0 [.bool, .sl [.int .u64], .bool, .sl [.int .u64], .bool, .sl [.int .u64], .bool, .sl [.int .u64]]), (7, .mem 2 0 RLs)], [.mem RLs, .mem [.bool, .sl [.int .u64], .bool, .sl [.int .u64], .bool, .sl [.int .u64], .bool, .sl [.int .u64]], .mem RLs], [0]⟩
def r13_DocPost_l7_enc0 : List (List D) × Bool × List D × List D × List D → List U := fun r => [.d r.1, .b r.2.1, .ds r.2.2.1, .ds r.2.2.2.1, .ds r.2.2.2.2]
def r13_DocPost_l7_dec0 : List U → Option (List (List D) × Bool × List D × List D × List D) := fun | [.d dd1, .b c5, .ds e0, .ds e6, .ds e7] => some (dd1, c5, e0, e6, e7) | _ => none
def r13_DocPost_l7_post1 : Vm.Pat := ⟨111, [(4, .pv (.one (.int .i64))), (0, .mem 0 0 RLs)], [.mem RLs], [0]⟩
def r13_DocPost_l7_enc1 : Int × List D → List U := fun r => [.i r.1, .ds r.2]
def r13_DocPost_l7_dec1 : List U → Option (Int × List D) := fun | [.i x4, .ds e0] => some (x4, e0) | _ => none
def r13_DocPost_l7 (K : Nat) : Nat → List (List D) → Bool → List (List D) → Int → Int → List D → List D → List D → Option ((List (List D) × Bool × List D × List D × List D) ⊕ (Int × List D))
 | 0, _, _, _, _, _, _, _, _ => none
 | k + 1, dd1, c5, dd21, x22, x23, e0, e6, e7 => (bi (decide (x23 < x22))
 (bi (decide (0 ≤ x23) && decide (x23 < (↑dd21.length : Int)))
 ((r13_Is K
 (nth d0
 (nth [] dd21 x23.toNat) 0).toI
 (nth d0
 (nth [] dd21 x23.toNat) 1).toI).bind fun r0 => (bi (!r0)
 (some (Sum.inr (1, e0)))
 ((r13_Units K
 (nth d0
 (nth [] dd21 x23.toNat) 2).toI
 (nth d0
 (nth [] dd21 x23.toNat) 3).toI
 (nth d0
 (nth [] dd21 x23.toNat) 4).toI).bind fun r1 => (bi (c5)
 (bi (r1.snd.snd)
 (bi (decide
 (0 ≤
 (nth d0
 (nth [] dd21 x23.toNat) 1).toI) &&
 decide
 ((nth d0
 (nth [] dd21 x23.toNat) 1).toI <
 4))
 ((r1_Sum_ro K
 (nth d0 e6
 (0 +
 (nth d0
 (nth [] dd21 x23.toNat) 1).toI.toNat *
 2)).toB
 (D.l
 (nth d0 e6
 (0 +
 (nth d0
 (nth [] dd21 x23.toNat) 1).toI.toNat *
 2 +
 1)).toL).toL
 r1.fst (D.l (List.map (fun x => [D.i x]) r1.snd.fst)).toL).bind fun r2 => (bi (decide
 (0 ≤
 (nth d0
 (nth [] dd21 x23.toNat) 1).toI) &&
 decide
 ((nth d0
 (nth [] dd21 x23.toNat) 1).toI <
 4))
 (bi (decide
 (0 ≤
 (nth d0
 (nth [] dd21 x23.toNat) 0).toI) &&
 decide
 ((nth d0
 (nth [] dd21 x23.toNat) 0).toI <
 9))
 (bi (decide
 (0 ≤
 (nth d0
 (nth [] dd21 x23.toNat) 1).toI) &&
 decide
 ((nth d0
 (nth [] dd21 x23.toNat) 1).toI <
 4))
 ((r1_Sum_ro K
 (nth d0 e7
 (0 +
 (nth d0
 (nth [] dd21 x23.toNat) 0).toI.toNat *
 8 +
 (nth d0
 (nth [] dd21 x23.toNat) 1).toI.toNat *
 2)).toB
 (D.l
 (nth d0 e7
 (0 +
 (nth d0
 (nth [] dd21 x23.toNat) 0).toI.toNat *
 8 +
 (nth d0
 (nth [] dd21 x23.toNat) 1).toI.toNat *
 2 +
 1)).toL).toL
 r1.fst (D.l (List.map (fun x => [D.i x]) r1.snd.fst)).toL).bind fun r3 => (bi (decide
 (0 ≤
 (nth d0
 (nth [] dd21 x23.toNat) 0).toI) &&
 decide
 ((nth d0
 (nth [] dd21 x23.toNat) 0).toI <
 9))
 (bi (decide
 (0 ≤
 (nth d0
 (nth [] dd21 x23.toNat) 1).toI) &&
 decide
 ((nth d0
 (nth [] dd21 x23.toNat) 1).toI <
 4))
 (r13_DocPost_l7 K k ((D.l dd1).toL) (r1.snd.snd) ((D.l dd21).toL) (x22) (IntKind.i64.wrap (x23 + 1)) (e0) (setP
 (setP e6
 (0 +
 (nth d0
 (nth [] dd21 x23.toNat) 1).toI.toNat *
 2)
 (D.b r2.fst))
 (0 +
 (nth d0
 (nth [] dd21 x23.toNat) 1).toI.toNat *
 2 +
 1)
 (D.l (List.map (fun x => [D.i x]) r2.snd))) (setP
 (setP e7
 (0 +
 (nth d0
 (nth [] dd21 x23.toNat) 0).toI.toNat *
 8 +
 (nth d0
 (nth [] dd21 x23.toNat) 1).toI.toNat *
 2)
 (D.b r3.fst))
 (0 +
 (nth d0
 (nth [] dd21 x23.toNat) 0).toI.toNat *
 8 +
 (nth d0
 (nth [] dd21 x23.toNat) 1).toI.toNat *
 2 +
 1)
 (D.l (List.map (fun x => [D.i x]) r3.snd))))
 none)
 none))
 none)
 none)
 none))
 none)
 (r13_DocPost_l7 K k ((D.l dd1).toL) (r1.snd.snd) ((D.l dd21).toL) (x22) (IntKind.i64.wrap (x23 + 1)) (e0) (e6) (e7)))
 (bi (r1.snd.snd)
 (bi (decide
 (0 ≤
 (nth d0
 (nth [] dd21 x23.toNat) 1).toI) &&
 decide
 ((nth d0
 (nth [] dd21 x23.toNat) 1).toI <
 4))
 ((r1_Sum_ro K
 (nth d0 e6
 (0 +
 (nth d0
 (nth [] dd21 x23.toNat) 1).toI.toNat *
 2)).toB
 (D.l
 (nth d0 e6
 (0 +
 (nth d0
 (nth [] dd21 x23.toNat) 1).toI.toNat *
 2 +
 1)).toL).toL
 r1.fst (D.l (List.map (fun x => [D.i x]) r1.snd.fst)).toL).bind fun r4 => (bi (decide
 (0 ≤
 (nth d0
 (nth [] dd21 x23.toNat) 1).toI) &&
 decide
 ((nth d0
 (nth [] dd21 x23.toNat) 1).toI <
 4))
 (bi (decide
 (0 ≤
 (nth d0
 (nth [] dd21 x23.toNat) 0).toI) &&
 decide
 ((nth d0
 (nth [] dd21 x23.toNat) 0).toI <
 9))
 (bi (decide
 (0 ≤
 (nth d0
 (nth [] dd21 x23.toNat) 1).toI) &&
 decide
 ((nth d0
 (nth [] dd21 x23.toNat) 1).toI <
 4))
 ((r1_Sum_ro K
 (nth d0 e7
 (0 +
 (nth d0
 (nth [] dd21 x23.toNat) 0).toI.toNat *
 8 +
 (nth d0
 (nth [] dd21 x23.toNat) 1).toI.toNat *
 2)).toB
 (D.l
 (nth d0 e7
 (0 +
 (nth d0
 (nth [] dd21 x23.toNat) 0).toI.toNat *
 8 +
 (nth d0
 (nth [] dd21 x23.toNat) 1).toI.toNat *
 2 +
 1)).toL).toL
 r1.fst (D.l (List.map (fun x => [D.i x]) r1.snd.fst)).toL).bind fun r5 => (bi (decide
 (0 ≤
 (nth d0
 (nth [] dd21 x23.toNat) 0).toI) &&
 decide
 ((nth d0
 (nth [] dd21 x23.toNat) 0).toI <
 9))
 (bi (decide
 (0 ≤
 (nth d0
 (nth [] dd21 x23.toNat) 1).toI) &&
 decide
 ((nth d0
 (nth [] dd21 x23.toNat) 1).toI <
 4))
 (r13_DocPost_l7 K k ((D.l dd1).toL) (false) ((D.l dd21).toL) (x22) (IntKind.i64.wrap (x23 + 1)) (e0) (setP
 (setP e6
 (0 +
 (nth d0
 (nth [] dd21 x23.toNat) 1).toI.toNat *
 2)
 (D.b r4.fst))
 (0 +
 (nth d0
 (nth [] dd21 x23.toNat) 1).toI.toNat *
 2 +
 1)
 (D.l (List.map (fun x => [D.i x]) r4.snd))) (setP
 (setP e7
 (0 +
 (nth d0
 (nth [] dd21 x23.toNat) 0).toI.toNat *
 8 +
 (nth d0
 (nth [] dd21 x23.toNat) 1).toI.toNat *
 2)
 (D.b r5.fst))
 (0 +
 (nth d0
 (nth [] dd21 x23.toNat) 0).toI.toNat *
 8 +
 (nth d0
 (nth [] dd21 x23.toNat) 1).toI.toNat *
 2 +
 1)
 (D.l (List.map (fun x => [D.i x]) r5.snd))))
 none)
 none))
 none)
 none)
 none))
 none)
 (r13_DocPost_l7 K k ((D.l dd1).toL) (false) ((D.l dd21).toL) (x22) (IntKind.i64.wrap (x23 + 1)) (e0) (e6) (e7)))))))
 none)
 (some (Sum.inl ((D.l dd1).toL, c5, e0, e6, e7))))
def r13_DocPost_l7_w (K k : Nat) : List U → Option ((List (List D) × Bool × List D × List D × List D) ⊕ (Int × List D)) := fun | [.d dd1, .b c5, .d dd21, .i x22, .i x23, .ds e0, .ds e6, .ds e7] => r13_DocPost_l7 K k dd1 c5 dd21 x22 x23 e0 e6 e7 | _ => none
theorem r13_DocPost_l7_eq (K k : Nat) (dd1 : List (List D)) (c5 : Bool) (dd21 : List (List D)) (x22 : Int) (x23 : Int) (e0 : List D) (e6 : List D) (e7 : List D) : (round2K Try.prog (env_law13_awake K) (r13_DocPost_v24 K) (lp (bodyOf Try.f12) 0) r13_DocPost_l7_pre (.exit 0) r13_DocPost_l7_post0 .ret r13_DocPost_l7_post1 r13_DocPost_l7_dec0 r13_DocPost_l7_dec1 (r13_DocPost_l7_w K k) [.d dd1, .b c5, .d dd21, .i x22, .i x23, .ds e0, .ds e6, .ds e7]).den2 = r13_DocPost_l7 K (k + 1) dd1 c5 dd21 x22 x23 e0 e6 e7 := by kernel_rfl
def r13_DocPost_l7_s (K : Nat) : Vm.LS := .two r13_DocPost_l7_pre _ _ (.exit 0) r13_DocPost_l7_post0 .ret r13_DocPost_l7_post1 (r13_DocPost_l7_w K K) r13_DocPost_l7_enc0 r13_DocPost_l7_enc1
theorem r13_DocPost_l7_ok (K : Nat) : LoopOk Try.prog (lp (bodyOf Try.f12) 0) (r13_DocPost_l7_s K) := loop_twoK hmix (env_law13_awake_ok K) (lenv := r13_DocPost_v24 K) (L := r13_DocPost_l7_w K) (enc := r13_DocPost_l7_enc0) (dec := r13_DocPost_l7_dec0) (enc' := r13_DocPost_l7_enc1) (dec' := r13_DocPost_l7_dec1) (lps_ok (l := []) (by kernel_rfl) trivial) (fun u r h => by unfold r13_DocPost_l7_dec0 at h; split at h; (cases h; rfl); cases h) (fun u r h => by unfold r13_DocPost_l7_dec1 at h; split at h; (cases h; rfl); cases h) (fun us => by unfold r13_DocPost_l7_w; split <;> first | rfl | (simp only [r13_DocPost_l7])) (fun k us r h => by unfold r13_DocPost_l7_w at h; split at h; exact ((den2_eq _).symm.trans (r13_DocPost_l7_eq K k _ _ _ _ _ _ _ _)).trans h; cases h) K
def r13_DocPost_v7 (K : Nat) : Nat → Option Vm.LS := addL (r13_DocPost_v24 K) 7 (r13_DocPost_l7_s K)
def r13_DocPost_dec : List U → Option (Int × List D) := fun | [.i x0, .ds e1] => some (x0, e1) | _ => none
def r13_DocPost_enc : (Int × List D) → List U := fun r => [.i r.1, .ds r.2]
def r13_DocPost (K : Nat) (e0 : List D) (dd1 : List (List D)) : Option (Int × List D) := (casO (r13_DocPost_l7 K K (D.l dd1).toL true
 (D.l dd1).toL (↑dd1.length : Int) 0 e0
 [D.b false, D.l [],
 D.b false, D.l [],
 D.b false, D.l [],
 D.b false, D.l []]
 e0) (fun r0 => (bi (decide ((↑r0.fst.length : Int) > 16))
 (some ((2, r0.snd.snd.fst)))
 (bi (!r0.snd.fst)
 (some ((3, r0.snd.snd.fst)))
 (casO (r13_DocPost_l24 K K 0 r0.snd.snd.fst r0.snd.snd.snd.fst r0.snd.snd.snd.snd) (fun r1 => (casO (r13_DocPost_l34 K K
 (nth d0 r1.snd.fst 0).toB
 (D.l
 (nth d0 r1.snd.fst 1).toL).toL
 (nth d0 r1.snd.fst 2).toB
 (D.l
 (nth d0 r1.snd.fst 3).toL).toL
 (nth d0 r1.snd.fst 4).toB
 (D.l
 (nth d0 r1.snd.fst 5).toL).toL
 (nth d0 r1.snd.fst 6).toB
 (D.l
 (nth d0 r1.snd.fst 7).toL).toL
 0 r1.fst r1.snd.snd) (fun r2 => (some ((0,
 setP r2.snd 72
 (D.i
 (IntKind.i64.wrap ((nth d0 r2.snd 72).toI + 1))))))) (fun r3 => (some ((r3.fst, r3.snd)))))) (fun r4 => (some ((r4.fst, r4.snd)))))))) (fun r5 => (some ((r5.fst, r5.snd)))))
theorem r13_DocPost_eq (K : Nat) (e0 : List D) (dd1 : List (List D)) : (runFK Try.prog (env_law13_awake K) (r13_DocPost_v7 K) Try.f12 [.mptr RLs, .one (.ro [.int .i64, .int .i64, .int .i64, .int .u64, .int .i64])] [.one (.int .i64)] r13_DocPost_dec [.ds e0, .d dd1]).den2 = r13_DocPost K e0 dd1 := by kernel_rfl
def r13_DocPost_w (K : Nat) : List U → Option (Int × List D) := fun | [.ds e0, .d dd1] => r13_DocPost K e0 dd1 | _ => none
def r13_DocPost_spec (K : Nat) : Vm.Spec := ⟨[.mptr RLs, .one (.ro [.int .i64, .int .i64, .int .i64, .int .u64, .int .i64])], [.one (.int .i64)], Int × List D, r13_DocPost_w K, r13_DocPost_enc⟩
theorem r13_DocPost_ok (K : Nat) : FnOk Try.prog 12 (r13_DocPost_spec K) := fn_okK' hmix (env_law13_awake_ok K) (lenv := r13_DocPost_v7 K) (args := [.mptr RLs, .one (.ro [.int .i64, .int .i64, .int .i64, .int .u64, .int .i64])]) (res := [.one (.int .i64)]) (G := r13_DocPost_w K) (enc := r13_DocPost_enc) Try.func12 (lps_fn (l := [lp (bodyOf Try.f12) 0, lp (bodyOf Try.f12) 1, lp (bodyOf Try.f12) 2]) (by kernel_rfl) ⟨⟨7, r13_DocPost_l7_s K, by kernel_rfl, by kernel_rfl, r13_DocPost_l7_ok K⟩, ⟨⟨24, r13_DocPost_l24_s K, by kernel_rfl, by kernel_rfl, r13_DocPost_l24_ok K⟩, ⟨⟨34, r13_DocPost_l34_s K, by kernel_rfl, by kernel_rfl, r13_DocPost_l34_ok K⟩, trivial⟩⟩⟩) (dec := r13_DocPost_dec) (fun u r h => by unfold r13_DocPost_dec at h; split at h; (cases h; rfl); cases h) (fun us r h => by unfold r13_DocPost_w at h; split at h; exact ((den2_eq _).symm.trans (r13_DocPost_eq K _ _)).trans h; cases h)
def env_r13_DocPost (K : Nat) : FuncId → Option Vm.Spec := addS (env_law13_awake K) 12 (r13_DocPost_spec K)
theorem env_r13_DocPost_ok (K : Nat) : EnvOk Try.prog (env_r13_DocPost K) := addS_ok (env_law13_awake_ok K) (.inl ⟨callable Try.func12 (by kernel_rfl) (by kernel_rfl), r13_DocPost_ok K⟩)
end
end Go.Proofs.Ytimhhefngigfeaa.F
