import Derived.Test.YtfeifhlnidkbbaaVmY
import Derived.Test.YtfeifhlnidkbbaaVmRc
import Derived.Test.YtfeifhlnidkbbaaVmCl
import Derived.Test.YtfeifhlnidkbbaaProg
import Derived.Test.YtfeifhlnidkbbaaFV
namespace Go.Proofs.Ytfeifhlnidkbbaa.F
open Go Go.Proofs.Ytfeifhlnidkbbaa.Vm
set_option maxRecDepth 1000000
set_option linter.unusedVariables false
noncomputable section
-- passbook/passbookref05.DocSplit
def ref05_DocSplit_l44_pre : Vm.Pat := ⟨178, [(13, .pv (.one (.recs [.i64, .i64] true))), (159, .pv (.one (.int .i64))), (160, .pv (.one (.int .i64))), (2, .box 0 0)], [.cells [.int .i64, .int .i64]], []⟩
def ref05_DocSplit_l44_post0 : Vm.Pat := ⟨178, [(13, .pv (.one (.recs [.i64, .i64] true)))], [], []⟩
def ref05_DocSplit_l44_enc0 : List (List Int) → List U := fun r => [.rr r]
def ref05_DocSplit_l44_dec0 : List U → Option (List (List Int)) := fun u => match u with | [.rr q13] => some (q13) | _ => none
def ref05_DocSplit_l44 (K : Nat) : Nat → List (List Int) → Int → Int → Int → Int → Option (List (List Int))
  | 0, _, _, _, _, _ => none
  | k + 1, q13, x159, x160, x2_0, x2_1 => (bi (Decidable.decide (x160 < x159))
    (bi (Decidable.decide (x2_1 < 0))
    (bi (Decidable.decide (0 ≤ x160) && Decidable.decide (x160 < (↑q13.length : Int)))
    (bi (Decidable.decide (0 ≤ x160) && Decidable.decide (x160 < (↑q13.length : Int)))
    (ref05_DocSplit_l44 K k (q13.set x160.toNat
  [nth 0 (nth [] q13 x160.toNat) 0,
    Go.IntKind.i64.wrap
      (0 - nth 0 (nth [] q13 x160.toNat) 1)]) (x159) (Go.IntKind.i64.wrap (x160 + 1)) (x2_0) (x2_1))
    none)
    none)
    (ref05_DocSplit_l44 K k (q13) (x159) (Go.IntKind.i64.wrap (x160 + 1)) (x2_0) (x2_1)))
    (some q13))
def ref05_DocSplit_l44_w (K k : Nat) : List U → Option (List (List Int)) := fun us => match us with | [.rr q13, .i x159, .i x160, .i x2_0, .i x2_1] => ref05_DocSplit_l44 K k q13 x159 x160 x2_0 x2_1 | _ => none
theorem ref05_DocSplit_l44_eq (K k : Nat) (q13 : List (List Int)) (x159 : Int) (x160 : Int) (x2_0 : Int) (x2_1 : Int) : (round1K Go.Proofs.Try.prog (env_ref01_Compare_ro K) (lenv0) (lp (bodyOf Go.Proofs.Try.f11) 4) ref05_DocSplit_l44_pre (.exit 10) ref05_DocSplit_l44_post0 ref05_DocSplit_l44_dec0 (ref05_DocSplit_l44_w K k) [.rr q13, .i x159, .i x160, .i x2_0, .i x2_1]).den2 = ref05_DocSplit_l44 K (k + 1) q13 x159 x160 x2_0 x2_1 := by kernel_rfl
def ref05_DocSplit_l44_s (K : Nat) : Vm.LS := .one ref05_DocSplit_l44_pre _ (.exit 10) ref05_DocSplit_l44_post0 (ref05_DocSplit_l44_w K K) ref05_DocSplit_l44_enc0
theorem ref05_DocSplit_l44_ok (K : Nat) : LoopOk Go.Proofs.Try.prog (lp (bodyOf Go.Proofs.Try.f11) 4) (ref05_DocSplit_l44_s K) := loop_oneK hmix (env_ref01_Compare_ro_ok K) (lenv := lenv0) (L := ref05_DocSplit_l44_w K) (enc := ref05_DocSplit_l44_enc0) (dec := ref05_DocSplit_l44_dec0) (lps_ok (l := []) (by kernel_rfl) trivial) (fun u r h => by unfold ref05_DocSplit_l44_dec0 at h; split at h; (obtain rfl := Option.some.inj h; rfl); cases h) (fun us => by unfold ref05_DocSplit_l44_w; split <;> first | rfl | (simp only [ref05_DocSplit_l44])) (fun k us r h => by unfold ref05_DocSplit_l44_w at h; split at h; exact ((den2_eq _).symm.trans (ref05_DocSplit_l44_eq K k _ _ _ _ _)).trans h; cases h) K
def ref05_DocSplit_v44 (K : Nat) : Nat → Option Vm.LS := addL (lenv0) 44 (ref05_DocSplit_l44_s K)
def ref05_DocSplit_l35_pre : Vm.Pat := ⟨178, [(12, .pv (.one (.row .u64 false))), (13, .pv (.one (.recs [.i64, .i64] true))), (14, .pv (.one (.grow [.sl [.int .u64]]))), (21, .pv (.one (.int .i64))), (117, .pv (.one (.int .i64))), (118, .pv (.one (.int .i64))), (2, .box 0 0)], [.cells [.int .i64, .int .i64]], []⟩
def ref05_DocSplit_l35_post0 : Vm.Pat := ⟨178, [(12, .pv (.one (.row .u64 false))), (13, .pv (.one (.recs [.i64, .i64] true))), (14, .pv (.one (.grow [.sl [.int .u64]]))), (21, .pv (.one (.int .i64))), (2, .box 0 0)], [.cells [.int .i64, .int .i64]], []⟩
def ref05_DocSplit_l35_enc0 : List Int × List (List Int) × List (List D) × Int × Int × Int → List U := fun r => [.r r.1, .rr r.2.1, .d r.2.2.1, .i r.2.2.2.1, .i r.2.2.2.2.1, .i r.2.2.2.2.2]
def ref05_DocSplit_l35_dec0 : List U → Option (List Int × List (List Int) × List (List D) × Int × Int × Int) := fun u => match u with | [.r l12, .rr q13, .d dd14, .i x21, .i x2_0, .i x2_1] => some (l12, q13, dd14, x21, x2_0, x2_1) | _ => none
def ref05_DocSplit_l35 (K : Nat) : Nat → List Int → List (List Int) → List (List D) → Int → Int → Int → Int → Int → Option (List Int × List (List Int) × List (List D) × Int × Int × Int)
  | 0, _, _, _, _, _, _, _, _ => none
  | k + 1, l12, q13, dd14, x21, x117, x118, x2_0, x2_1 => (bi (Decidable.decide (x118 < x117))
    (bi (Decidable.decide (0 ≤ x118) && Decidable.decide (x118 < (↑dd14.length : Int)))
    (bi (Decidable.decide
  (0 <
    (nth d0
          (nth [] dd14 x118.toNat) 0).toL.length))
    (bi (Decidable.decide (x21 < 0))
    (ref05_DocSplit_l35 K k (l12) (q13) (dd14) (x118) (x117) (Go.IntKind.i64.wrap (x118 + 1)) (x2_0) (x2_1))
    (bi (Decidable.decide (0 ≤ x118) && Decidable.decide (x118 < (↑dd14.length : Int)))
    (bi (Decidable.decide (0 ≤ x21) && Decidable.decide (x21 < (↑dd14.length : Int)))
    ((ref01_Compare_ro K
  (D.l
      (nth d0
          (nth [] dd14 x118.toNat) 0).toL).toL
  (D.l
      (nth d0
          (nth [] dd14 x21.toNat) 0).toL).toL).bind fun r0 => (bi (Decidable.decide (r0 > 0))
    (ref05_DocSplit_l35 K k (l12) (q13) (dd14) (x118) (x117) (Go.IntKind.i64.wrap (x118 + 1)) (x2_0) (x2_1))
    (ref05_DocSplit_l35 K k (l12) (q13) (dd14) (x21) (x117) (Go.IntKind.i64.wrap (x118 + 1)) (x2_0) (x2_1))))
    none)
    none))
    (ambO fun zq1 => (bi (zq1)
    (bi (Decidable.decide (x21 < 0))
    (ref05_DocSplit_l35 K k (l12) (q13) (dd14) (x118) (x117) (Go.IntKind.i64.wrap (x118 + 1)) (x2_0) (x2_1))
    (bi (Decidable.decide (0 ≤ x118) && Decidable.decide (x118 < (↑dd14.length : Int)))
    (bi (Decidable.decide (0 ≤ x21) && Decidable.decide (x21 < (↑dd14.length : Int)))
    ((ref01_Compare_ro K
  (D.l
      (nth d0
          (nth [] dd14 x118.toNat) 0).toL).toL
  (D.l
      (nth d0
          (nth [] dd14 x21.toNat) 0).toL).toL).bind fun r2 => (bi (Decidable.decide (r2 > 0))
    (ref05_DocSplit_l35 K k (l12) (q13) (dd14) (x118) (x117) (Go.IntKind.i64.wrap (x118 + 1)) (x2_0) (x2_1))
    (ref05_DocSplit_l35 K k (l12) (q13) (dd14) (x21) (x117) (Go.IntKind.i64.wrap (x118 + 1)) (x2_0) (x2_1))))
    none)
    none))
    (ref05_DocSplit_l35 K k (l12) (q13) (dd14) (x21) (x117) (Go.IntKind.i64.wrap (x118 + 1)) (x2_0) (x2_1)))))
    none)
    (some ((l12, q13, dd14, x21, x2_0, x2_1))))
def ref05_DocSplit_l35_w (K k : Nat) : List U → Option (List Int × List (List Int) × List (List D) × Int × Int × Int) := fun us => match us with | [.r l12, .rr q13, .d dd14, .i x21, .i x117, .i x118, .i x2_0, .i x2_1] => ref05_DocSplit_l35 K k l12 q13 dd14 x21 x117 x118 x2_0 x2_1 | _ => none
theorem ref05_DocSplit_l35_eq (K k : Nat) (l12 : List Int) (q13 : List (List Int)) (dd14 : List (List D)) (x21 : Int) (x117 : Int) (x118 : Int) (x2_0 : Int) (x2_1 : Int) : (round1K Go.Proofs.Try.prog (env_ref01_Compare_ro K) (ref05_DocSplit_v44 K) (lp (lp (bodyOf Go.Proofs.Try.f11) 3) 0) ref05_DocSplit_l35_pre (.exit 8) ref05_DocSplit_l35_post0 ref05_DocSplit_l35_dec0 (ref05_DocSplit_l35_w K k) [.r l12, .rr q13, .d dd14, .i x21, .i x117, .i x118, .i x2_0, .i x2_1]).den2 = ref05_DocSplit_l35 K (k + 1) l12 q13 dd14 x21 x117 x118 x2_0 x2_1 := by kernel_rfl
def ref05_DocSplit_l35_s (K : Nat) : Vm.LS := .one ref05_DocSplit_l35_pre _ (.exit 8) ref05_DocSplit_l35_post0 (ref05_DocSplit_l35_w K K) ref05_DocSplit_l35_enc0
theorem ref05_DocSplit_l35_ok (K : Nat) : LoopOk Go.Proofs.Try.prog (lp (lp (bodyOf Go.Proofs.Try.f11) 3) 0) (ref05_DocSplit_l35_s K) := loop_oneK hmix (env_ref01_Compare_ro_ok K) (lenv := ref05_DocSplit_v44 K) (L := ref05_DocSplit_l35_w K) (enc := ref05_DocSplit_l35_enc0) (dec := ref05_DocSplit_l35_dec0) (lps_ok (l := []) (by kernel_rfl) trivial) (fun u r h => by unfold ref05_DocSplit_l35_dec0 at h; split at h; (obtain rfl := Option.some.inj h; rfl); cases h) (fun us => by unfold ref05_DocSplit_l35_w; split <;> first | rfl | (simp only [ref05_DocSplit_l35])) (fun k us r h => by unfold ref05_DocSplit_l35_w at h; split at h; exact ((den2_eq _).symm.trans (ref05_DocSplit_l35_eq K k _ _ _ _ _ _ _ _)).trans h; cases h) K
def ref05_DocSplit_v35 (K : Nat) : Nat → Option Vm.LS := addL (ref05_DocSplit_v44 K) 35 (ref05_DocSplit_l35_s K)
def ref05_DocSplit_l32_pre : Vm.Pat := ⟨178, [(12, .pv (.one (.row .u64 false))), (13, .pv (.one (.recs [.i64, .i64] true))), (14, .pv (.one (.grow [.sl [.int .u64]]))), (2, .box 0 0)], [.cells [.int .i64, .int .i64]], []⟩
def ref05_DocSplit_l32_post0 : Vm.Pat := ⟨178, [(13, .pv (.one (.recs [.i64, .i64] true))), (2, .box 0 0)], [.cells [.int .i64, .int .i64]], []⟩
def ref05_DocSplit_l32_enc0 : List (List Int) × Int × Int → List U := fun r => [.rr r.1, .i r.2.1, .i r.2.2]
def ref05_DocSplit_l32_dec0 : List U → Option (List (List Int) × Int × Int) := fun u => match u with | [.rr q13, .i x2_0, .i x2_1] => some (q13, x2_0, x2_1) | _ => none
def ref05_DocSplit_l32 (K : Nat) : Nat → List Int → List (List Int) → List (List D) → Int → Int → Option (List (List Int) × Int × Int)
  | 0, _, _, _, _, _ => none
  | k + 1, l12, q13, dd14, x2_0, x2_1 => (bi (Decidable.decide ((↑l12.length : Int) > 0))
    ((ref05_DocSplit_l35 K K l12 q13 dd14 (-1) (↑dd14.length : Int) 0 x2_0 x2_1).bind fun r0 => (bi (Decidable.decide (0 ≤ r0.snd.snd.snd.fst) && Decidable.decide (r0.snd.snd.snd.fst < (↑r0.snd.fst.length : Int)))
    (bi (Decidable.decide (0 ≤ r0.snd.snd.snd.fst) && Decidable.decide (r0.snd.snd.snd.fst < (↑r0.snd.fst.length : Int)))
    (bi (Decidable.decide (0 ≤ r0.snd.snd.snd.fst) && Decidable.decide (r0.snd.snd.snd.fst < (↑r0.snd.snd.fst.length : Int)))
    ((ref01_Word K 1).bind fun r1 => ((ref01_Minus K r0.fst r1).bind fun r2 => (ref05_DocSplit_l32 K k (r2) (r0.snd.fst.set r0.snd.snd.snd.fst.toNat
  [nth 0 (nth [] r0.snd.fst r0.snd.snd.snd.fst.toNat) 0,
    Go.IntKind.i64.wrap
      (nth 0 (nth [] r0.snd.fst r0.snd.snd.snd.fst.toNat)
          1 +
        1)]) (r0.snd.snd.fst.set r0.snd.snd.snd.fst.toNat
  (setP (nth [] r0.snd.snd.fst r0.snd.snd.snd.fst.toNat) 0
    (D.l []))) (r0.snd.snd.snd.snd.fst) (r0.snd.snd.snd.snd.snd))))
    none)
    none)
    none))
    (some ((q13, x2_0, x2_1))))
def ref05_DocSplit_l32_w (K k : Nat) : List U → Option (List (List Int) × Int × Int) := fun us => match us with | [.r l12, .rr q13, .d dd14, .i x2_0, .i x2_1] => ref05_DocSplit_l32 K k l12 q13 dd14 x2_0 x2_1 | _ => none
theorem ref05_DocSplit_l32_eq (K k : Nat) (l12 : List Int) (q13 : List (List Int)) (dd14 : List (List D)) (x2_0 : Int) (x2_1 : Int) : (round1K Go.Proofs.Try.prog (env_ref01_Compare_ro K) (ref05_DocSplit_v35 K) (lp (bodyOf Go.Proofs.Try.f11) 3) ref05_DocSplit_l32_pre (.exit 6) ref05_DocSplit_l32_post0 ref05_DocSplit_l32_dec0 (ref05_DocSplit_l32_w K k) [.r l12, .rr q13, .d dd14, .i x2_0, .i x2_1]).den2 = ref05_DocSplit_l32 K (k + 1) l12 q13 dd14 x2_0 x2_1 := by kernel_rfl
def ref05_DocSplit_l32_s (K : Nat) : Vm.LS := .one ref05_DocSplit_l32_pre _ (.exit 6) ref05_DocSplit_l32_post0 (ref05_DocSplit_l32_w K K) ref05_DocSplit_l32_enc0
theorem ref05_DocSplit_l32_ok (K : Nat) : LoopOk Go.Proofs.Try.prog (lp (bodyOf Go.Proofs.Try.f11) 3) (ref05_DocSplit_l32_s K) := loop_oneK hmix (env_ref01_Compare_ro_ok K) (lenv := ref05_DocSplit_v35 K) (L := ref05_DocSplit_l32_w K) (enc := ref05_DocSplit_l32_enc0) (dec := ref05_DocSplit_l32_dec0) (lps_ok (l := [lp (lp (bodyOf Go.Proofs.Try.f11) 3) 0]) (by kernel_rfl) ⟨⟨35, ref05_DocSplit_l35_s K, by kernel_rfl, by kernel_rfl, ref05_DocSplit_l35_ok K⟩, trivial⟩) (fun u r h => by unfold ref05_DocSplit_l32_dec0 at h; split at h; (obtain rfl := Option.some.inj h; rfl); cases h) (fun us => by unfold ref05_DocSplit_l32_w; split <;> first | rfl | (simp only [ref05_DocSplit_l32])) (fun k us r h => by unfold ref05_DocSplit_l32_w at h; split at h; exact ((den2_eq _).symm.trans (ref05_DocSplit_l32_eq K k _ _ _ _ _)).trans h; cases h) K
def ref05_DocSplit_v32 (K : Nat) : Nat → Option Vm.LS := addL (ref05_DocSplit_v35 K) 32 (ref05_DocSplit_l32_s K)
def ref05_DocSplit_l24_pre : Vm.Pat := ⟨178, [(8, .pv (.one (.row .u64 false))), (11, .pv (.one (.row .u64 false))), (12, .pv (.one (.row .u64 false))), (13, .pv (.one (.recs [.i64, .i64] true))), (14, .pv (.one (.grow [.sl [.int .u64]]))), (75, .pv (.one (.row .i64 false))), (76, .pv (.one (.int .i64))), (77, .pv (.one (.int .i64))), (2, .box 0 0)], [.cells [.int .i64, .int .i64]], []⟩
def ref05_DocSplit_l24_post0 : Vm.Pat := ⟨178, [(12, .pv (.one (.row .u64 false))), (13, .pv (.one (.recs [.i64, .i64] true))), (14, .pv (.one (.grow [.sl [.int .u64]]))), (2, .box 0 0)], [.cells [.int .i64, .int .i64]], []⟩
def ref05_DocSplit_l24_enc0 : List Int × List (List Int) × List (List D) × Int × Int → List U := fun r => [.r r.1, .rr r.2.1, .d r.2.2.1, .i r.2.2.2.1, .i r.2.2.2.2]
def ref05_DocSplit_l24_dec0 : List U → Option (List Int × List (List Int) × List (List D) × Int × Int) := fun u => match u with | [.r l12, .rr q13, .d dd14, .i x2_0, .i x2_1] => some (l12, q13, dd14, x2_0, x2_1) | _ => none
def ref05_DocSplit_l24 (K : Nat) : Nat → List Int → List Int → List Int → List (List Int) → List (List D) → List Int → Int → Int → Int → Int → Option (List Int × List (List Int) × List (List D) × Int × Int)
  | 0, _, _, _, _, _, _, _, _, _, _ => none
  | k + 1, l8, l11, l12, q13, dd14, l75, x76, x77, x2_0, x2_1 => (bi (Decidable.decide (x77 < x76))
    (bi (Decidable.decide (0 ≤ x77) && Decidable.decide (x77 < (↑l75.length : Int)))
    ((ref01_Word K (Go.IntKind.u64.wrap (nth 0 l75 x77.toNat))).bind fun r0 => ((ref01_Times K l11 r0).bind fun r1 => ((ref01_Quo K r1 l8).bind fun r2 => ((ref01_Fits K r2.fst).bind fun r3 => (bi (Decidable.decide (0 ≤ x77) && Decidable.decide (x77 < (↑q13.length : Int)))
    (bi (Decidable.decide (0 ≤ x77) && Decidable.decide (x77 < (↑dd14.length : Int)))
    ((ref01_Minus K l12 r2.fst).bind fun r4 => (ref05_DocSplit_l24 K k (l8) (l11) (r4) (q13.set x77.toNat [x2_0, Go.IntKind.i64.wrap r3.fst]) (dd14.set x77.toNat
  (setP (nth [] dd14 x77.toNat) 0
    (D.l (List.map (fun x => [D.i x]) r2.snd)))) (l75) (x76) (Go.IntKind.i64.wrap (x77 + 1)) (x2_0) (x2_1)))
    none)
    none)))))
    none)
    (some ((l12, q13, dd14, x2_0, x2_1))))
def ref05_DocSplit_l24_w (K k : Nat) : List U → Option (List Int × List (List Int) × List (List D) × Int × Int) := fun us => match us with | [.r l8, .r l11, .r l12, .rr q13, .d dd14, .r l75, .i x76, .i x77, .i x2_0, .i x2_1] => ref05_DocSplit_l24 K k l8 l11 l12 q13 dd14 l75 x76 x77 x2_0 x2_1 | _ => none
theorem ref05_DocSplit_l24_eq (K k : Nat) (l8 : List Int) (l11 : List Int) (l12 : List Int) (q13 : List (List Int)) (dd14 : List (List D)) (l75 : List Int) (x76 : Int) (x77 : Int) (x2_0 : Int) (x2_1 : Int) : (round1K Go.Proofs.Try.prog (env_ref01_Compare_ro K) (ref05_DocSplit_v32 K) (lp (bodyOf Go.Proofs.Try.f11) 2) ref05_DocSplit_l24_pre (.exit 4) ref05_DocSplit_l24_post0 ref05_DocSplit_l24_dec0 (ref05_DocSplit_l24_w K k) [.r l8, .r l11, .r l12, .rr q13, .d dd14, .r l75, .i x76, .i x77, .i x2_0, .i x2_1]).den2 = ref05_DocSplit_l24 K (k + 1) l8 l11 l12 q13 dd14 l75 x76 x77 x2_0 x2_1 := by kernel_rfl
def ref05_DocSplit_l24_s (K : Nat) : Vm.LS := .one ref05_DocSplit_l24_pre _ (.exit 4) ref05_DocSplit_l24_post0 (ref05_DocSplit_l24_w K K) ref05_DocSplit_l24_enc0
theorem ref05_DocSplit_l24_ok (K : Nat) : LoopOk Go.Proofs.Try.prog (lp (bodyOf Go.Proofs.Try.f11) 2) (ref05_DocSplit_l24_s K) := loop_oneK hmix (env_ref01_Compare_ro_ok K) (lenv := ref05_DocSplit_v32 K) (L := ref05_DocSplit_l24_w K) (enc := ref05_DocSplit_l24_enc0) (dec := ref05_DocSplit_l24_dec0) (lps_ok (l := []) (by kernel_rfl) trivial) (fun u r h => by unfold ref05_DocSplit_l24_dec0 at h; split at h; (obtain rfl := Option.some.inj h; rfl); cases h) (fun us => by unfold ref05_DocSplit_l24_w; split <;> first | rfl | (simp only [ref05_DocSplit_l24])) (fun k us r h => by unfold ref05_DocSplit_l24_w at h; split at h; exact ((den2_eq _).symm.trans (ref05_DocSplit_l24_eq K k _ _ _ _ _ _ _ _ _ _)).trans h; cases h) K
def ref05_DocSplit_v24 (K : Nat) : Nat → Option Vm.LS := addL (ref05_DocSplit_v32 K) 24 (ref05_DocSplit_l24_s K)
def ref05_DocSplit_l13_pre : Vm.Pat := ⟨178, [(1, .pv (.one (.row .i64 false))), (8, .pv (.one (.row .u64 false))), (49, .pv (.one (.row .i64 false))), (50, .pv (.one (.int .i64))), (51, .pv (.one (.int .i64))), (2, .box 0 0)], [.cells [.int .i64, .int .i64]], []⟩
def ref05_DocSplit_l13_post0 : Vm.Pat := ⟨178, [(1, .pv (.one (.row .i64 false))), (8, .pv (.one (.row .u64 false))), (2, .box 0 0)], [.cells [.int .i64, .int .i64]], []⟩
def ref05_DocSplit_l13_enc0 : List Int × List Int × Int × Int → List U := fun r => [.r r.1, .r r.2.1, .i r.2.2.1, .i r.2.2.2]
def ref05_DocSplit_l13_dec0 : List U → Option (List Int × List Int × Int × Int) := fun u => match u with | [.r l1, .r l8, .i x2_0, .i x2_1] => some (l1, l8, x2_0, x2_1) | _ => none
def ref05_DocSplit_l13 (K : Nat) : Nat → List Int → List Int → List Int → Int → Int → Int → Int → Option (List Int × List Int × Int × Int)
  | 0, _, _, _, _, _, _, _ => none
  | k + 1, l1, l8, l49, x50, x51, x2_0, x2_1 => (bi (Decidable.decide (x51 < x50))
    (bi (Decidable.decide (0 ≤ x51) && Decidable.decide (x51 < (↑l49.length : Int)))
    ((ref01_Word K (Go.IntKind.u64.wrap (nth 0 l49 x51.toNat))).bind fun r0 => ((ref01_Plus K l8 r0).bind fun r1 => (ref05_DocSplit_l13 K k (l1) (r1) (l49) (x50) (Go.IntKind.i64.wrap (x51 + 1)) (x2_0) (x2_1))))
    none)
    (some ((l1, l8, x2_0, x2_1))))
def ref05_DocSplit_l13_w (K k : Nat) : List U → Option (List Int × List Int × Int × Int) := fun us => match us with | [.r l1, .r l8, .r l49, .i x50, .i x51, .i x2_0, .i x2_1] => ref05_DocSplit_l13 K k l1 l8 l49 x50 x51 x2_0 x2_1 | _ => none
theorem ref05_DocSplit_l13_eq (K k : Nat) (l1 : List Int) (l8 : List Int) (l49 : List Int) (x50 : Int) (x51 : Int) (x2_0 : Int) (x2_1 : Int) : (round1K Go.Proofs.Try.prog (env_ref01_Compare_ro K) (ref05_DocSplit_v24 K) (lp (bodyOf Go.Proofs.Try.f11) 1) ref05_DocSplit_l13_pre (.exit 2) ref05_DocSplit_l13_post0 ref05_DocSplit_l13_dec0 (ref05_DocSplit_l13_w K k) [.r l1, .r l8, .r l49, .i x50, .i x51, .i x2_0, .i x2_1]).den2 = ref05_DocSplit_l13 K (k + 1) l1 l8 l49 x50 x51 x2_0 x2_1 := by kernel_rfl
def ref05_DocSplit_l13_s (K : Nat) : Vm.LS := .one ref05_DocSplit_l13_pre _ (.exit 2) ref05_DocSplit_l13_post0 (ref05_DocSplit_l13_w K K) ref05_DocSplit_l13_enc0
theorem ref05_DocSplit_l13_ok (K : Nat) : LoopOk Go.Proofs.Try.prog (lp (bodyOf Go.Proofs.Try.f11) 1) (ref05_DocSplit_l13_s K) := loop_oneK hmix (env_ref01_Compare_ro_ok K) (lenv := ref05_DocSplit_v24 K) (L := ref05_DocSplit_l13_w K) (enc := ref05_DocSplit_l13_enc0) (dec := ref05_DocSplit_l13_dec0) (lps_ok (l := []) (by kernel_rfl) trivial) (fun u r h => by unfold ref05_DocSplit_l13_dec0 at h; split at h; (obtain rfl := Option.some.inj h; rfl); cases h) (fun us => by unfold ref05_DocSplit_l13_w; split <;> first | rfl | (simp only [ref05_DocSplit_l13])) (fun k us r h => by unfold ref05_DocSplit_l13_w at h; split at h; exact ((den2_eq _).symm.trans (ref05_DocSplit_l13_eq K k _ _ _ _ _ _ _)).trans h; cases h) K
def ref05_DocSplit_v13 (K : Nat) : Nat → Option Vm.LS := addL (ref05_DocSplit_v24 K) 13 (ref05_DocSplit_l13_s K)
def ref05_DocSplit_l2_pre : Vm.Pat := ⟨178, [(1, .pv (.one (.row .i64 false))), (24, .pv (.one (.row .i64 false))), (25, .pv (.one (.int .i64))), (26, .pv (.one (.int .i64))), (2, .box 0 0)], [.cells [.int .i64, .int .i64]], []⟩
def ref05_DocSplit_l2_post0 : Vm.Pat := ⟨178, [(1, .pv (.one (.row .i64 false))), (2, .box 0 0)], [.cells [.int .i64, .int .i64]], []⟩
def ref05_DocSplit_l2_enc0 : List Int × Int × Int → List U := fun r => [.r r.1, .i r.2.1, .i r.2.2]
def ref05_DocSplit_l2_dec0 : List U → Option (List Int × Int × Int) := fun u => match u with | [.r l1, .i x2_0, .i x2_1] => some (l1, x2_0, x2_1) | _ => none
def ref05_DocSplit_l2_post1 : Vm.Pat := ⟨178, [(4, .pv (.one (.recs [.i64, .i64] false))), (5, .pv (.one (.int .i64)))], [], []⟩
def ref05_DocSplit_l2_enc1 : List (List Int) × Int → List U := fun r => [.rr r.1, .i r.2]
def ref05_DocSplit_l2_dec1 : List U → Option (List (List Int) × Int) := fun u => match u with | [.rr q4, .i x5] => some (q4, x5) | _ => none
def ref05_DocSplit_l2 (K : Nat) : Nat → List Int → List Int → Int → Int → Int → Int → Option ((List Int × Int × Int) ⊕ (List (List Int) × Int))
  | 0, _, _, _, _, _, _ => none
  | k + 1, l1, l24, x25, x26, x2_0, x2_1 => (bi (Decidable.decide (x26 < x25))
    (bi (Decidable.decide (0 ≤ x26) && Decidable.decide (x26 < (↑l24.length : Int)))
    (bi (Decidable.decide (nth 0 l24 x26.toNat < 0))
    (some (Sum.inr ([], 1)))
    (bi (Decidable.decide (nth 0 l24 x26.toNat > 1000000000))
    (some (Sum.inr ([], 1)))
    (ref05_DocSplit_l2 K k (l1) (l24) (x25) (Go.IntKind.i64.wrap (x26 + 1)) (x2_0) (x2_1))))
    none)
    (some (Sum.inl (l1, x2_0, x2_1))))
def ref05_DocSplit_l2_w (K k : Nat) : List U → Option ((List Int × Int × Int) ⊕ (List (List Int) × Int)) := fun us => match us with | [.r l1, .r l24, .i x25, .i x26, .i x2_0, .i x2_1] => ref05_DocSplit_l2 K k l1 l24 x25 x26 x2_0 x2_1 | _ => none
theorem ref05_DocSplit_l2_eq (K k : Nat) (l1 : List Int) (l24 : List Int) (x25 : Int) (x26 : Int) (x2_0 : Int) (x2_1 : Int) : (round2K Go.Proofs.Try.prog (env_ref01_Compare_ro K) (ref05_DocSplit_v13 K) (lp (bodyOf Go.Proofs.Try.f11) 0) ref05_DocSplit_l2_pre (.exit 0) ref05_DocSplit_l2_post0 .ret ref05_DocSplit_l2_post1 ref05_DocSplit_l2_dec0 ref05_DocSplit_l2_dec1 (ref05_DocSplit_l2_w K k) [.r l1, .r l24, .i x25, .i x26, .i x2_0, .i x2_1]).den2 = ref05_DocSplit_l2 K (k + 1) l1 l24 x25 x26 x2_0 x2_1 := by kernel_rfl
def ref05_DocSplit_l2_s (K : Nat) : Vm.LS := .two ref05_DocSplit_l2_pre _ _ (.exit 0) ref05_DocSplit_l2_post0 .ret ref05_DocSplit_l2_post1 (ref05_DocSplit_l2_w K K) ref05_DocSplit_l2_enc0 ref05_DocSplit_l2_enc1
theorem ref05_DocSplit_l2_ok (K : Nat) : LoopOk Go.Proofs.Try.prog (lp (bodyOf Go.Proofs.Try.f11) 0) (ref05_DocSplit_l2_s K) := loop_twoK hmix (env_ref01_Compare_ro_ok K) (lenv := ref05_DocSplit_v13 K) (L := ref05_DocSplit_l2_w K) (enc := ref05_DocSplit_l2_enc0) (dec := ref05_DocSplit_l2_dec0) (enc' := ref05_DocSplit_l2_enc1) (dec' := ref05_DocSplit_l2_dec1) (lps_ok (l := []) (by kernel_rfl) trivial) (fun u r h => by unfold ref05_DocSplit_l2_dec0 at h; split at h; (obtain rfl := Option.some.inj h; rfl); cases h) (fun u r h => by unfold ref05_DocSplit_l2_dec1 at h; split at h; (obtain rfl := Option.some.inj h; rfl); cases h) (fun us => by unfold ref05_DocSplit_l2_w; split <;> first | rfl | (simp only [ref05_DocSplit_l2])) (fun k us r h => by unfold ref05_DocSplit_l2_w at h; split at h; exact ((den2_eq _).symm.trans (ref05_DocSplit_l2_eq K k _ _ _ _ _ _)).trans h; cases h) K
def ref05_DocSplit_v2 (K : Nat) : Nat → Option Vm.LS := addL (ref05_DocSplit_v13 K) 2 (ref05_DocSplit_l2_s K)
def ref05_DocSplit_dec : List U → Option (List (List Int) × Int) := fun u => match u with | [.rr q0, .i x1] => some (q0, x1) | _ => none
def ref05_DocSplit_enc : (List (List Int) × Int) → List U := fun r => [.rr r.1, .i r.2]
def ref05_DocSplit (K : Nat) (x0_0 : Int) (x0_1 : Int) (l1 : List Int) : Option (List (List Int) × Int) := (casO (ref05_DocSplit_l2 K K l1 l1 (↑l1.length : Int) 0 x0_0 x0_1) (fun r0 => (bi ((↑r0.fst.length : Int) == 0)
    (some (([], 2)))
    (bi (Decidable.decide ((↑r0.fst.length : Int) > 64))
    (some (([], 2)))
    ((ref05_Form K r0.snd.fst r0.snd.snd).bind fun r1 => (bi (!r1)
    (some (([], 3)))
    ((ref01_Word K 0).bind fun r2 => ((ref05_DocSplit_l13 K K r0.fst r2 r0.fst (↑r0.fst.length : Int) 0 r0.snd.fst r0.snd.snd).bind fun r3 => (bi ((↑r3.snd.fst.length : Int) == 0)
    (some (([], 5)))
    ((ref01_Made K r3.snd.snd.snd).bind fun r4 => (bi (Decidable.decide (0 ≤ (↑r3.fst.length : Int)) && Decidable.decide ((↑r3.fst.length : Int) ≤ (↑r3.fst.length : Int)) &&
  Decidable.decide ((↑r3.fst.length : Int) ≤ 8796093022208))
    (bi (Decidable.decide (0 ≤ (↑r3.fst.length : Int)) && Decidable.decide ((↑r3.fst.length : Int) ≤ (↑r3.fst.length : Int)) &&
  Decidable.decide ((↑r3.fst.length : Int) ≤ 5864062014805))
    ((ref05_DocSplit_l24 K K r3.snd.fst r4.snd r4.snd
  (List.replicate (↑r3.fst.length : Int).toNat (List.replicate 2 0))
  (List.replicate (↑r3.fst.length : Int).toNat [D.l []]) r3.fst (↑r3.fst.length : Int) 0
  r3.snd.snd.fst r3.snd.snd.snd).bind fun r5 => ((ref05_DocSplit_l32 K K r5.fst r5.snd.fst r5.snd.snd.fst r5.snd.snd.snd.fst
  r5.snd.snd.snd.snd).bind fun r6 => ((ref05_DocSplit_l44 K K r6.fst (↑r6.fst.length : Int) 0 r6.snd.fst r6.snd.snd).bind fun r7 => (some ((r7, 0))))))
    none)
    none)))))))))) (fun r8 => (some ((r8.fst, r8.snd)))))
theorem ref05_DocSplit_eq (K : Nat) (x0_0 : Int) (x0_1 : Int) (l1 : List Int) : (runFK Go.Proofs.Try.prog (env_ref01_Compare_ro K) (ref05_DocSplit_v2 K) Go.Proofs.Try.f11 [.agg [.int .i64, .int .i64], .one (.row .i64 false)] [.one (.recs [.i64, .i64] false), .one (.int .i64)] ref05_DocSplit_dec [.i x0_0, .i x0_1, .r l1]).den2 = ref05_DocSplit K x0_0 x0_1 l1 := by kernel_rfl
def ref05_DocSplit_w (K : Nat) : List U → Option (List (List Int) × Int) := fun us => match us with | [.i x0_0, .i x0_1, .r l1] => ref05_DocSplit K x0_0 x0_1 l1 | _ => none
def ref05_DocSplit_spec (K : Nat) : Vm.Spec := ⟨[.agg [.int .i64, .int .i64], .one (.row .i64 false)], [.one (.recs [.i64, .i64] false), .one (.int .i64)], List (List Int) × Int, ref05_DocSplit_w K, ref05_DocSplit_enc⟩
theorem ref05_DocSplit_ok (K : Nat) : FnOk Go.Proofs.Try.prog 11 (ref05_DocSplit_spec K) := fn_okK' hmix (env_ref01_Compare_ro_ok K) (lenv := ref05_DocSplit_v2 K) (args := [.agg [.int .i64, .int .i64], .one (.row .i64 false)]) (res := [.one (.recs [.i64, .i64] false), .one (.int .i64)]) (G := ref05_DocSplit_w K) (enc := ref05_DocSplit_enc) Go.Proofs.Try.func11 (lps_fn (l := [lp (bodyOf Go.Proofs.Try.f11) 0, lp (bodyOf Go.Proofs.Try.f11) 1, lp (bodyOf Go.Proofs.Try.f11) 2, lp (bodyOf Go.Proofs.Try.f11) 3, lp (bodyOf Go.Proofs.Try.f11) 4]) (by kernel_rfl) ⟨⟨2, ref05_DocSplit_l2_s K, by kernel_rfl, by kernel_rfl, ref05_DocSplit_l2_ok K⟩, ⟨⟨13, ref05_DocSplit_l13_s K, by kernel_rfl, by kernel_rfl, ref05_DocSplit_l13_ok K⟩, ⟨⟨24, ref05_DocSplit_l24_s K, by kernel_rfl, by kernel_rfl, ref05_DocSplit_l24_ok K⟩, ⟨⟨32, ref05_DocSplit_l32_s K, by kernel_rfl, by kernel_rfl, ref05_DocSplit_l32_ok K⟩, ⟨⟨44, ref05_DocSplit_l44_s K, by kernel_rfl, by kernel_rfl, ref05_DocSplit_l44_ok K⟩, trivial⟩⟩⟩⟩⟩) (dec := ref05_DocSplit_dec) (fun u r h => by unfold ref05_DocSplit_dec at h; split at h; (obtain rfl := Option.some.inj h; rfl); cases h) (fun us r h => by unfold ref05_DocSplit_w at h; split at h; exact ((den2_eq _).symm.trans (ref05_DocSplit_eq K _ _ _)).trans h; cases h)
def env_ref05_DocSplit (K : Nat) : FuncId → Option Vm.Spec := addS (env_ref01_Compare_ro K) 11 (ref05_DocSplit_spec K)
theorem env_ref05_DocSplit_ok (K : Nat) : EnvOk Go.Proofs.Try.prog (env_ref05_DocSplit K) := addS_ok (env_ref01_Compare_ro_ok K) (.inl ⟨callable Go.Proofs.Try.func11 (by kernel_rfl) (by kernel_rfl), ref05_DocSplit_ok K⟩)
end
end Go.Proofs.Ytfeifhlnidkbbaa.F
