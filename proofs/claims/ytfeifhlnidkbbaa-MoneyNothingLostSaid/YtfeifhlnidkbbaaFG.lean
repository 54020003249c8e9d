import Derived.Test.YtfeifhlnidkbbaaVmY
import Derived.Test.YtfeifhlnidkbbaaProg
import Derived.Test.YtfeifhlnidkbbaaFF
namespace Go.Proofs.Ytfeifhlnidkbbaa.F
open Go Go.Proofs.Ytfeifhlnidkbbaa.Vm
set_option maxRecDepth 1000000
set_option linter.unusedVariables false
-- passbook/passbooklaw05.MoneyNothingLost
def law05_MoneyNothingLost_l35_pre : Vm.Pat := ⟨203, [(5, .pv (.one (.row .i64 false))), (6, .pv (.one (.int .i64))), (9, .pv (.one (.recs [.i64, .i64] false))), (11, .pv (.one (.int .i64))), (12, .pv (.one (.int .i64))), (13, .pv (.one (.int .i64))), (15, .pv (.one (.int .i64))), (94, .pv (.one (.recs [.i64, .i64] false))), (95, .pv (.one (.int .i64))), (96, .pv (.one (.int .i64))), (163, .pv (.one (.int .i64))), (164, .pv (.one (.int .i64))), (2, .box 0 0)], [.cells [.int .i64, .int .i64]], []⟩
def law05_MoneyNothingLost_l35_post0 : Vm.Pat := ⟨203, [(5, .pv (.one (.row .i64 false))), (6, .pv (.one (.int .i64))), (9, .pv (.one (.recs [.i64, .i64] false))), (11, .pv (.one (.int .i64))), (12, .pv (.one (.int .i64))), (94, .pv (.one (.recs [.i64, .i64] false))), (95, .pv (.one (.int .i64))), (96, .pv (.one (.int .i64))), (2, .box 0 0)], [.cells [.int .i64, .int .i64]], []⟩
def law05_MoneyNothingLost_l35_enc0 : List Int × Int × List (List Int) × Int × Int × List (List Int) × Int × Int × Int × Int → List U := fun r => [.r r.1, .i r.2.1, .rr r.2.2.1, .i r.2.2.2.1, .i r.2.2.2.2.1, .rr r.2.2.2.2.2.1, .i r.2.2.2.2.2.2.1, .i r.2.2.2.2.2.2.2.1, .i r.2.2.2.2.2.2.2.2.1, .i r.2.2.2.2.2.2.2.2.2]
def law05_MoneyNothingLost_l35_dec0 : List U → Option (List Int × Int × List (List Int) × Int × Int × List (List Int) × Int × Int × Int × Int) := fun u => match u with | [.r l5, .i x6, .rr q9, .i x11, .i x12, .rr q94, .i x95, .i x96, .i x2_0, .i x2_1] => some (l5, x6, q9, x11, x12, q94, x95, x96, x2_0, x2_1) | _ => none
def law05_MoneyNothingLost_l35_post1 : Vm.Pat := ⟨203, [(4, .pv (.one (.bool)))], [], []⟩
def law05_MoneyNothingLost_l35_enc1 : Bool → List U := fun r => [.b r]
def law05_MoneyNothingLost_l35_dec1 : List U → Option (Bool) := fun u => match u with | [.b c4] => some (c4) | _ => none
def law05_MoneyNothingLost_l35 (K : Nat) : Nat → List Int → Int → List (List Int) → Int → Int → Int → Int → List (List Int) → Int → Int → Int → Int → Int → Int → Option ((List Int × Int × List (List Int) × Int × Int × List (List Int) × Int × Int × Int × Int) ⊕ (Bool))
  | 0, _, _, _, _, _, _, _, _, _, _, _, _, _, _ => none
  | k + 1, l5, x6, q9, x11, x12, x13, x15, q94, x95, x96, x163, x164, x2_0, x2_1 => (bi (Decidable.decide (x164 < x163))
    (bi (Decidable.decide (0 ≤ x164) && Decidable.decide (x164 < (↑q9.length : Int)))
    (bi (Decidable.decide (x2_1 < 0))
    (bi (Decidable.decide (0 ≤ x164) && Decidable.decide (x164 < (↑l5.length : Int)))
    (bi (Decidable.decide (0 ≤ x13) && Decidable.decide (x13 < (↑l5.length : Int)))
    (bi (nth 0 l5 x164.toNat == nth 0 l5 x13.toNat)
    (bi (Decidable.decide
  (Go.IntKind.i64.wrap
      (0 - nth 0 (nth [] q9 x164.toNat) 1) <
    x15))
    (some (Sum.inr Bool.false))
    (bi (Decidable.decide
  (Go.IntKind.i64.wrap
      (0 - nth 0 (nth [] q9 x164.toNat) 1) >
    Go.IntKind.i64.wrap (x15 + 1)))
    (some (Sum.inr Bool.false))
    (law05_MoneyNothingLost_l35 K k (l5) (x6) (q9) (x11) (x12) (x13) (x15) (q94) (x95) (x96) (x163) (Go.IntKind.i64.wrap (x164 + 1)) (x2_0) (x2_1))))
    (law05_MoneyNothingLost_l35 K k (l5) (x6) (q9) (x11) (x12) (x13) (x15) (q94) (x95) (x96) (x163) (Go.IntKind.i64.wrap (x164 + 1)) (x2_0) (x2_1)))
    none)
    none)
    (bi (Decidable.decide (0 ≤ x164) && Decidable.decide (x164 < (↑l5.length : Int)))
    (bi (Decidable.decide (0 ≤ x13) && Decidable.decide (x13 < (↑l5.length : Int)))
    (bi (nth 0 l5 x164.toNat == nth 0 l5 x13.toNat)
    (bi (Decidable.decide (nth 0 (nth [] q9 x164.toNat) 1 < x15))
    (some (Sum.inr Bool.false))
    (bi (Decidable.decide
  (nth 0 (nth [] q9 x164.toNat) 1 >
    Go.IntKind.i64.wrap (x15 + 1)))
    (some (Sum.inr Bool.false))
    (law05_MoneyNothingLost_l35 K k (l5) (x6) (q9) (x11) (x12) (x13) (x15) (q94) (x95) (x96) (x163) (Go.IntKind.i64.wrap (x164 + 1)) (x2_0) (x2_1))))
    (law05_MoneyNothingLost_l35 K k (l5) (x6) (q9) (x11) (x12) (x13) (x15) (q94) (x95) (x96) (x163) (Go.IntKind.i64.wrap (x164 + 1)) (x2_0) (x2_1)))
    none)
    none))
    none)
    (some (Sum.inl (l5, x6, q9, x11, x12, q94, x95, x96, x2_0, x2_1))))
def law05_MoneyNothingLost_l35_w (K k : Nat) : List U → Option ((List Int × Int × List (List Int) × Int × Int × List (List Int) × Int × Int × Int × Int) ⊕ (Bool)) := fun us => match us with | [.r l5, .i x6, .rr q9, .i x11, .i x12, .i x13, .i x15, .rr q94, .i x95, .i x96, .i x163, .i x164, .i x2_0, .i x2_1] => law05_MoneyNothingLost_l35 K k l5 x6 q9 x11 x12 x13 x15 q94 x95 x96 x163 x164 x2_0 x2_1 | _ => none
theorem law05_MoneyNothingLost_l35_eq (K k : Nat) (l5 : List Int) (x6 : Int) (q9 : List (List Int)) (x11 : Int) (x12 : Int) (x13 : Int) (x15 : Int) (q94 : List (List Int)) (x95 : Int) (x96 : Int) (x163 : Int) (x164 : Int) (x2_0 : Int) (x2_1 : Int) : (round2 Go.Proofs.Try.prog (env_law05_MoneyScaled K) (lenv0) (lp (lp (bodyOf Go.Proofs.Try.f4) 1) 0) law05_MoneyNothingLost_l35_pre (.exit 4) law05_MoneyNothingLost_l35_post0 .ret law05_MoneyNothingLost_l35_post1 law05_MoneyNothingLost_l35_dec0 law05_MoneyNothingLost_l35_dec1 (law05_MoneyNothingLost_l35_w K k) [.r l5, .i x6, .rr q9, .i x11, .i x12, .i x13, .i x15, .rr q94, .i x95, .i x96, .i x163, .i x164, .i x2_0, .i x2_1]).den2 = law05_MoneyNothingLost_l35 K (k + 1) l5 x6 q9 x11 x12 x13 x15 q94 x95 x96 x163 x164 x2_0 x2_1 := by kernel_rfl
def law05_MoneyNothingLost_l35_s (K : Nat) : Vm.LS := .two law05_MoneyNothingLost_l35_pre _ _ (.exit 4) law05_MoneyNothingLost_l35_post0 .ret law05_MoneyNothingLost_l35_post1 (law05_MoneyNothingLost_l35_w K K) law05_MoneyNothingLost_l35_enc0 law05_MoneyNothingLost_l35_enc1
theorem law05_MoneyNothingLost_l35_ok (K : Nat) : LoopOk Go.Proofs.Try.prog (lp (lp (bodyOf Go.Proofs.Try.f4) 1) 0) (law05_MoneyNothingLost_l35_s K) := loop_two hmix (env_law05_MoneyScaled_ok K) (lenv := lenv0) (L := law05_MoneyNothingLost_l35_w K) (enc := law05_MoneyNothingLost_l35_enc0) (dec := law05_MoneyNothingLost_l35_dec0) (enc' := law05_MoneyNothingLost_l35_enc1) (dec' := law05_MoneyNothingLost_l35_dec1) (lps_ok (l := []) (by kernel_rfl) trivial) (fun u r h => by unfold law05_MoneyNothingLost_l35_dec0 at h; split at h; (obtain rfl := Option.some.inj h; rfl); cases h) (fun u r h => by unfold law05_MoneyNothingLost_l35_dec1 at h; split at h; (obtain rfl := Option.some.inj h; rfl); cases h) (fun us => by unfold law05_MoneyNothingLost_l35_w; split <;> first | rfl | (simp only [law05_MoneyNothingLost_l35])) (fun k us r h => by unfold law05_MoneyNothingLost_l35_w at h; split at h; exact ((den2_eq _).symm.trans (law05_MoneyNothingLost_l35_eq K k _ _ _ _ _ _ _ _ _ _ _ _ _ _)).trans h; cases h) K
def law05_MoneyNothingLost_v35 (K : Nat) : Nat → Option Vm.LS := addL (lenv0) 35 (law05_MoneyNothingLost_l35_s K)
def law05_MoneyNothingLost_l24_pre : Vm.Pat := ⟨203, [(5, .pv (.one (.row .i64 false))), (6, .pv (.one (.int .i64))), (9, .pv (.one (.recs [.i64, .i64] false))), (11, .pv (.one (.int .i64))), (12, .pv (.one (.int .i64))), (94, .pv (.one (.recs [.i64, .i64] false))), (95, .pv (.one (.int .i64))), (96, .pv (.one (.int .i64))), (2, .box 0 0)], [.cells [.int .i64, .int .i64]], []⟩
def law05_MoneyNothingLost_l24_post0 : Vm.Pat := ⟨203, [(11, .pv (.one (.int .i64))), (2, .box 0 0)], [.cells [.int .i64, .int .i64]], []⟩
def law05_MoneyNothingLost_l24_enc0 : Int × Int × Int → List U := fun r => [.i r.1, .i r.2.1, .i r.2.2]
def law05_MoneyNothingLost_l24_dec0 : List U → Option (Int × Int × Int) := fun u => match u with | [.i x11, .i x2_0, .i x2_1] => some (x11, x2_0, x2_1) | _ => none
def law05_MoneyNothingLost_l24_post1 : Vm.Pat := ⟨203, [(4, .pv (.one (.bool)))], [], []⟩
def law05_MoneyNothingLost_l24_enc1 : Bool → List U := fun r => [.b r]
def law05_MoneyNothingLost_l24_dec1 : List U → Option (Bool) := fun u => match u with | [.b c4] => some (c4) | _ => none
def law05_MoneyNothingLost_l24 (K : Nat) : Nat → List Int → Int → List (List Int) → Int → Int → List (List Int) → Int → Int → Int → Int → Option ((Int × Int × Int) ⊕ (Bool))
  | 0, _, _, _, _, _, _, _, _, _, _ => none
  | k + 1, l5, x6, q9, x11, x12, q94, x95, x96, x2_0, x2_1 => (bi (Decidable.decide (x96 < x95))
    (bi (Decidable.decide (0 ≤ x96) && Decidable.decide (x96 < (↑q94.length : Int)))
    (bi (Decidable.decide (x2_1 < 0))
    ((ref01_Word K (Go.IntKind.u64.wrap x12)).bind fun r0 => (bi (Decidable.decide (0 ≤ x96) && Decidable.decide (x96 < (↑l5.length : Int)))
    ((ref01_Word K (Go.IntKind.u64.wrap (nth 0 l5 x96.toNat))).bind fun r1 => ((ref01_Times K r0 r1).bind fun r2 => ((ref01_Word K (Go.IntKind.u64.wrap x6)).bind fun r3 => ((ref01_Quo K r2 r3).bind fun r4 => ((ref01_Fits K r4.fst).bind fun r5 => (bi (nth 0 (nth [] q94 x96.toNat) 0 != x2_0)
    (some (Sum.inr Bool.false))
    (bi (Go.IntKind.i64.wrap (0 - nth 0 (nth [] q94 x96.toNat) 1) !=
  Go.IntKind.i64.wrap r5.fst)
    (bi (Go.IntKind.i64.wrap (0 - nth 0 (nth [] q94 x96.toNat) 1) !=
  Go.IntKind.i64.wrap (Go.IntKind.i64.wrap r5.fst + 1))
    (some (Sum.inr Bool.false))
    (bi (Decidable.decide (0 ≤ x96) && Decidable.decide (x96 < (↑l5.length : Int)))
    (bi (nth 0 l5 x96.toNat == 0)
    (bi (Go.IntKind.i64.wrap (0 - nth 0 (nth [] q94 x96.toNat) 1) !=
  0)
    (some (Sum.inr Bool.false))
    (casO (law05_MoneyNothingLost_l35 K K l5 x6 q9
  (Go.IntKind.i64.wrap
    (x11 + nth 0 (nth [] q94 x96.toNat) 1))
  x12 x96
  (Go.IntKind.i64.wrap (0 - nth 0 (nth [] q94 x96.toNat) 1))
  q94 x95 x96 x96 0 x2_0 x2_1) (fun r6 => (law05_MoneyNothingLost_l24 K k (r6.fst) (r6.snd.fst) (r6.snd.snd.fst) (r6.snd.snd.snd.fst) (r6.snd.snd.snd.snd.fst) (r6.snd.snd.snd.snd.snd.fst) (r6.snd.snd.snd.snd.snd.snd.fst) (Go.IntKind.i64.wrap (r6.snd.snd.snd.snd.snd.snd.snd.fst + 1)) (r6.snd.snd.snd.snd.snd.snd.snd.snd.fst) (r6.snd.snd.snd.snd.snd.snd.snd.snd.snd))) (fun r7 => (some (Sum.inr r7)))))
    (casO (law05_MoneyNothingLost_l35 K K l5 x6 q9
  (Go.IntKind.i64.wrap
    (x11 + nth 0 (nth [] q94 x96.toNat) 1))
  x12 x96
  (Go.IntKind.i64.wrap (0 - nth 0 (nth [] q94 x96.toNat) 1))
  q94 x95 x96 x96 0 x2_0 x2_1) (fun r8 => (law05_MoneyNothingLost_l24 K k (r8.fst) (r8.snd.fst) (r8.snd.snd.fst) (r8.snd.snd.snd.fst) (r8.snd.snd.snd.snd.fst) (r8.snd.snd.snd.snd.snd.fst) (r8.snd.snd.snd.snd.snd.snd.fst) (Go.IntKind.i64.wrap (r8.snd.snd.snd.snd.snd.snd.snd.fst + 1)) (r8.snd.snd.snd.snd.snd.snd.snd.snd.fst) (r8.snd.snd.snd.snd.snd.snd.snd.snd.snd))) (fun r9 => (some (Sum.inr r9)))))
    none))
    (bi (Decidable.decide (0 ≤ x96) && Decidable.decide (x96 < (↑l5.length : Int)))
    (bi (nth 0 l5 x96.toNat == 0)
    (bi (Go.IntKind.i64.wrap (0 - nth 0 (nth [] q94 x96.toNat) 1) !=
  0)
    (some (Sum.inr Bool.false))
    (casO (law05_MoneyNothingLost_l35 K K l5 x6 q9
  (Go.IntKind.i64.wrap
    (x11 + nth 0 (nth [] q94 x96.toNat) 1))
  x12 x96
  (Go.IntKind.i64.wrap (0 - nth 0 (nth [] q94 x96.toNat) 1))
  q94 x95 x96 x96 0 x2_0 x2_1) (fun r10 => (law05_MoneyNothingLost_l24 K k (r10.fst) (r10.snd.fst) (r10.snd.snd.fst) (r10.snd.snd.snd.fst) (r10.snd.snd.snd.snd.fst) (r10.snd.snd.snd.snd.snd.fst) (r10.snd.snd.snd.snd.snd.snd.fst) (Go.IntKind.i64.wrap (r10.snd.snd.snd.snd.snd.snd.snd.fst + 1)) (r10.snd.snd.snd.snd.snd.snd.snd.snd.fst) (r10.snd.snd.snd.snd.snd.snd.snd.snd.snd))) (fun r11 => (some (Sum.inr r11)))))
    (casO (law05_MoneyNothingLost_l35 K K l5 x6 q9
  (Go.IntKind.i64.wrap
    (x11 + nth 0 (nth [] q94 x96.toNat) 1))
  x12 x96
  (Go.IntKind.i64.wrap (0 - nth 0 (nth [] q94 x96.toNat) 1))
  q94 x95 x96 x96 0 x2_0 x2_1) (fun r12 => (law05_MoneyNothingLost_l24 K k (r12.fst) (r12.snd.fst) (r12.snd.snd.fst) (r12.snd.snd.snd.fst) (r12.snd.snd.snd.snd.fst) (r12.snd.snd.snd.snd.snd.fst) (r12.snd.snd.snd.snd.snd.snd.fst) (Go.IntKind.i64.wrap (r12.snd.snd.snd.snd.snd.snd.snd.fst + 1)) (r12.snd.snd.snd.snd.snd.snd.snd.snd.fst) (r12.snd.snd.snd.snd.snd.snd.snd.snd.snd))) (fun r13 => (some (Sum.inr r13)))))
    none))))))))
    none))
    ((ref01_Word K (Go.IntKind.u64.wrap x12)).bind fun r14 => (bi (Decidable.decide (0 ≤ x96) && Decidable.decide (x96 < (↑l5.length : Int)))
    ((ref01_Word K (Go.IntKind.u64.wrap (nth 0 l5 x96.toNat))).bind fun r15 => ((ref01_Times K r14 r15).bind fun r16 => ((ref01_Word K (Go.IntKind.u64.wrap x6)).bind fun r17 => ((ref01_Quo K r16 r17).bind fun r18 => ((ref01_Fits K r18.fst).bind fun r19 => (bi (nth 0 (nth [] q94 x96.toNat) 0 != x2_0)
    (some (Sum.inr Bool.false))
    (bi (nth 0 (nth [] q94 x96.toNat) 1 !=
  Go.IntKind.i64.wrap r19.fst)
    (bi (nth 0 (nth [] q94 x96.toNat) 1 !=
  Go.IntKind.i64.wrap (Go.IntKind.i64.wrap r19.fst + 1))
    (some (Sum.inr Bool.false))
    (bi (Decidable.decide (0 ≤ x96) && Decidable.decide (x96 < (↑l5.length : Int)))
    (bi (nth 0 l5 x96.toNat == 0)
    (bi (nth 0 (nth [] q94 x96.toNat) 1 != 0)
    (some (Sum.inr Bool.false))
    (casO (law05_MoneyNothingLost_l35 K K l5 x6 q9
  (Go.IntKind.i64.wrap
    (x11 + nth 0 (nth [] q94 x96.toNat) 1))
  x12 x96 (nth 0 (nth [] q94 x96.toNat) 1) q94 x95 x96 x96 0
  x2_0 x2_1) (fun r20 => (law05_MoneyNothingLost_l24 K k (r20.fst) (r20.snd.fst) (r20.snd.snd.fst) (r20.snd.snd.snd.fst) (r20.snd.snd.snd.snd.fst) (r20.snd.snd.snd.snd.snd.fst) (r20.snd.snd.snd.snd.snd.snd.fst) (Go.IntKind.i64.wrap (r20.snd.snd.snd.snd.snd.snd.snd.fst + 1)) (r20.snd.snd.snd.snd.snd.snd.snd.snd.fst) (r20.snd.snd.snd.snd.snd.snd.snd.snd.snd))) (fun r21 => (some (Sum.inr r21)))))
    (casO (law05_MoneyNothingLost_l35 K K l5 x6 q9
  (Go.IntKind.i64.wrap
    (x11 + nth 0 (nth [] q94 x96.toNat) 1))
  x12 x96 (nth 0 (nth [] q94 x96.toNat) 1) q94 x95 x96 x96 0
  x2_0 x2_1) (fun r22 => (law05_MoneyNothingLost_l24 K k (r22.fst) (r22.snd.fst) (r22.snd.snd.fst) (r22.snd.snd.snd.fst) (r22.snd.snd.snd.snd.fst) (r22.snd.snd.snd.snd.snd.fst) (r22.snd.snd.snd.snd.snd.snd.fst) (Go.IntKind.i64.wrap (r22.snd.snd.snd.snd.snd.snd.snd.fst + 1)) (r22.snd.snd.snd.snd.snd.snd.snd.snd.fst) (r22.snd.snd.snd.snd.snd.snd.snd.snd.snd))) (fun r23 => (some (Sum.inr r23)))))
    none))
    (bi (Decidable.decide (0 ≤ x96) && Decidable.decide (x96 < (↑l5.length : Int)))
    (bi (nth 0 l5 x96.toNat == 0)
    (bi (nth 0 (nth [] q94 x96.toNat) 1 != 0)
    (some (Sum.inr Bool.false))
    (casO (law05_MoneyNothingLost_l35 K K l5 x6 q9
  (Go.IntKind.i64.wrap
    (x11 + nth 0 (nth [] q94 x96.toNat) 1))
  x12 x96 (nth 0 (nth [] q94 x96.toNat) 1) q94 x95 x96 x96 0
  x2_0 x2_1) (fun r24 => (law05_MoneyNothingLost_l24 K k (r24.fst) (r24.snd.fst) (r24.snd.snd.fst) (r24.snd.snd.snd.fst) (r24.snd.snd.snd.snd.fst) (r24.snd.snd.snd.snd.snd.fst) (r24.snd.snd.snd.snd.snd.snd.fst) (Go.IntKind.i64.wrap (r24.snd.snd.snd.snd.snd.snd.snd.fst + 1)) (r24.snd.snd.snd.snd.snd.snd.snd.snd.fst) (r24.snd.snd.snd.snd.snd.snd.snd.snd.snd))) (fun r25 => (some (Sum.inr r25)))))
    (casO (law05_MoneyNothingLost_l35 K K l5 x6 q9
  (Go.IntKind.i64.wrap
    (x11 + nth 0 (nth [] q94 x96.toNat) 1))
  x12 x96 (nth 0 (nth [] q94 x96.toNat) 1) q94 x95 x96 x96 0
  x2_0 x2_1) (fun r26 => (law05_MoneyNothingLost_l24 K k (r26.fst) (r26.snd.fst) (r26.snd.snd.fst) (r26.snd.snd.snd.fst) (r26.snd.snd.snd.snd.fst) (r26.snd.snd.snd.snd.snd.fst) (r26.snd.snd.snd.snd.snd.snd.fst) (Go.IntKind.i64.wrap (r26.snd.snd.snd.snd.snd.snd.snd.fst + 1)) (r26.snd.snd.snd.snd.snd.snd.snd.snd.fst) (r26.snd.snd.snd.snd.snd.snd.snd.snd.snd))) (fun r27 => (some (Sum.inr r27)))))
    none))))))))
    none)))
    none)
    (some (Sum.inl (x11, x2_0, x2_1))))
def law05_MoneyNothingLost_l24_w (K k : Nat) : List U → Option ((Int × Int × Int) ⊕ (Bool)) := fun us => match us with | [.r l5, .i x6, .rr q9, .i x11, .i x12, .rr q94, .i x95, .i x96, .i x2_0, .i x2_1] => law05_MoneyNothingLost_l24 K k l5 x6 q9 x11 x12 q94 x95 x96 x2_0 x2_1 | _ => none
theorem law05_MoneyNothingLost_l24_eq (K k : Nat) (l5 : List Int) (x6 : Int) (q9 : List (List Int)) (x11 : Int) (x12 : Int) (q94 : List (List Int)) (x95 : Int) (x96 : Int) (x2_0 : Int) (x2_1 : Int) : (round2 Go.Proofs.Try.prog (env_law05_MoneyScaled K) (law05_MoneyNothingLost_v35 K) (lp (bodyOf Go.Proofs.Try.f4) 1) law05_MoneyNothingLost_l24_pre (.exit 2) law05_MoneyNothingLost_l24_post0 .ret law05_MoneyNothingLost_l24_post1 law05_MoneyNothingLost_l24_dec0 law05_MoneyNothingLost_l24_dec1 (law05_MoneyNothingLost_l24_w K k) [.r l5, .i x6, .rr q9, .i x11, .i x12, .rr q94, .i x95, .i x96, .i x2_0, .i x2_1]).den2 = law05_MoneyNothingLost_l24 K (k + 1) l5 x6 q9 x11 x12 q94 x95 x96 x2_0 x2_1 := by kernel_rfl
def law05_MoneyNothingLost_l24_s (K : Nat) : Vm.LS := .two law05_MoneyNothingLost_l24_pre _ _ (.exit 2) law05_MoneyNothingLost_l24_post0 .ret law05_MoneyNothingLost_l24_post1 (law05_MoneyNothingLost_l24_w K K) law05_MoneyNothingLost_l24_enc0 law05_MoneyNothingLost_l24_enc1
theorem law05_MoneyNothingLost_l24_ok (K : Nat) : LoopOk Go.Proofs.Try.prog (lp (bodyOf Go.Proofs.Try.f4) 1) (law05_MoneyNothingLost_l24_s K) := loop_two hmix (env_law05_MoneyScaled_ok K) (lenv := law05_MoneyNothingLost_v35 K) (L := law05_MoneyNothingLost_l24_w K) (enc := law05_MoneyNothingLost_l24_enc0) (dec := law05_MoneyNothingLost_l24_dec0) (enc' := law05_MoneyNothingLost_l24_enc1) (dec' := law05_MoneyNothingLost_l24_dec1) (lps_ok (l := [lp (lp (bodyOf Go.Proofs.Try.f4) 1) 0]) (by kernel_rfl) ⟨⟨35, law05_MoneyNothingLost_l35_s K, by kernel_rfl, by kernel_rfl, law05_MoneyNothingLost_l35_ok K⟩, trivial⟩) (fun u r h => by unfold law05_MoneyNothingLost_l24_dec0 at h; split at h; (obtain rfl := Option.some.inj h; rfl); cases h) (fun u r h => by unfold law05_MoneyNothingLost_l24_dec1 at h; split at h; (obtain rfl := Option.some.inj h; rfl); cases h) (fun us => by unfold law05_MoneyNothingLost_l24_w; split <;> first | rfl | (simp only [law05_MoneyNothingLost_l24])) (fun k us r h => by unfold law05_MoneyNothingLost_l24_w at h; split at h; exact ((den2_eq _).symm.trans (law05_MoneyNothingLost_l24_eq K k _ _ _ _ _ _ _ _ _ _)).trans h; cases h) K
def law05_MoneyNothingLost_v24 (K : Nat) : Nat → Option Vm.LS := addL (law05_MoneyNothingLost_v35 K) 24 (law05_MoneyNothingLost_l24_s K)
def law05_MoneyNothingLost_l9_pre : Vm.Pat := ⟨203, [(5, .pv (.one (.row .i64 true))), (6, .pv (.one (.int .i64))), (39, .pv (.one (.row .u16 false))), (40, .pv (.one (.int .i64))), (41, .pv (.one (.int .i64))), (2, .box 0 0)], [.cells [.int .i64, .int .i64]], []⟩
def law05_MoneyNothingLost_l9_post0 : Vm.Pat := ⟨203, [(5, .pv (.one (.row .i64 true))), (6, .pv (.one (.int .i64))), (2, .box 0 0)], [.cells [.int .i64, .int .i64]], []⟩
def law05_MoneyNothingLost_l9_enc0 : List Int × Int × Int × Int → List U := fun r => [.r r.1, .i r.2.1, .i r.2.2.1, .i r.2.2.2]
def law05_MoneyNothingLost_l9_dec0 : List U → Option (List Int × Int × Int × Int) := fun u => match u with | [.r l5, .i x6, .i x2_0, .i x2_1] => some (l5, x6, x2_0, x2_1) | _ => none
def law05_MoneyNothingLost_l9 (K : Nat) : Nat → List Int → Int → List Int → Int → Int → Int → Int → Option (List Int × Int × Int × Int)
  | 0, _, _, _, _, _, _, _ => none
  | k + 1, l5, x6, l39, x40, x41, x2_0, x2_1 => (bi (Decidable.decide (x41 < x40))
    (bi (Decidable.decide (0 ≤ x41) && Decidable.decide (x41 < (↑l39.length : Int)))
    (bi (Decidable.decide (l5.length + 1 ≤ 8796093022208))
    (law05_MoneyNothingLost_l9 K k (l5 ++ [Go.IntKind.i64.wrap (nth 0 l39 x41.toNat)]) (Go.IntKind.i64.wrap (x6 + Go.IntKind.i64.wrap (nth 0 l39 x41.toNat))) (l39) (x40) (Go.IntKind.i64.wrap (x41 + 1)) (x2_0) (x2_1))
    none)
    none)
    (some ((l5, x6, x2_0, x2_1))))
def law05_MoneyNothingLost_l9_w (K k : Nat) : List U → Option (List Int × Int × Int × Int) := fun us => match us with | [.r l5, .i x6, .r l39, .i x40, .i x41, .i x2_0, .i x2_1] => law05_MoneyNothingLost_l9 K k l5 x6 l39 x40 x41 x2_0 x2_1 | _ => none
theorem law05_MoneyNothingLost_l9_eq (K k : Nat) (l5 : List Int) (x6 : Int) (l39 : List Int) (x40 : Int) (x41 : Int) (x2_0 : Int) (x2_1 : Int) : (round1 Go.Proofs.Try.prog (env_law05_MoneyScaled K) (law05_MoneyNothingLost_v24 K) (lp (bodyOf Go.Proofs.Try.f4) 0) law05_MoneyNothingLost_l9_pre (.exit 0) law05_MoneyNothingLost_l9_post0 law05_MoneyNothingLost_l9_dec0 (law05_MoneyNothingLost_l9_w K k) [.r l5, .i x6, .r l39, .i x40, .i x41, .i x2_0, .i x2_1]).den2 = law05_MoneyNothingLost_l9 K (k + 1) l5 x6 l39 x40 x41 x2_0 x2_1 := by kernel_rfl
def law05_MoneyNothingLost_l9_s (K : Nat) : Vm.LS := .one law05_MoneyNothingLost_l9_pre _ (.exit 0) law05_MoneyNothingLost_l9_post0 (law05_MoneyNothingLost_l9_w K K) law05_MoneyNothingLost_l9_enc0
theorem law05_MoneyNothingLost_l9_ok (K : Nat) : LoopOk Go.Proofs.Try.prog (lp (bodyOf Go.Proofs.Try.f4) 0) (law05_MoneyNothingLost_l9_s K) := loop_one hmix (env_law05_MoneyScaled_ok K) (lenv := law05_MoneyNothingLost_v24 K) (L := law05_MoneyNothingLost_l9_w K) (enc := law05_MoneyNothingLost_l9_enc0) (dec := law05_MoneyNothingLost_l9_dec0) (lps_ok (l := []) (by kernel_rfl) trivial) (fun u r h => by unfold law05_MoneyNothingLost_l9_dec0 at h; split at h; (obtain rfl := Option.some.inj h; rfl); cases h) (fun us => by unfold law05_MoneyNothingLost_l9_w; split <;> first | rfl | (simp only [law05_MoneyNothingLost_l9])) (fun k us r h => by unfold law05_MoneyNothingLost_l9_w at h; split at h; exact ((den2_eq _).symm.trans (law05_MoneyNothingLost_l9_eq K k _ _ _ _ _ _ _)).trans h; cases h) K
def law05_MoneyNothingLost_v9 (K : Nat) : Nat → Option Vm.LS := addL (law05_MoneyNothingLost_v24 K) 9 (law05_MoneyNothingLost_l9_s K)
def law05_MoneyNothingLost_dec : List U → Option (Bool) := fun u => match u with | [.b c0] => some (c0) | _ => none
def law05_MoneyNothingLost_enc : (Bool) → List U := fun r => [.b r]
def law05_MoneyNothingLost (K : Nat) (x0_0 : Int) (x0_1 : Int) (l1 : List Int) : Option (Bool) := ((law05_awake K).bind fun r0 => (bi (!r0)
    (some Bool.false)
    (bi (Bool.true && Decidable.decide (0 ≤ if 64 < (↑l1.length : Int) then 64 else (↑l1.length : Int)) &&
  Decidable.decide ((if 64 < (↑l1.length : Int) then 64 else (↑l1.length : Int)) ≤ (↑l1.length : Int)))
    ((law05_MoneyNothingLost_l9 K K [] 0
  (List.take ((if 64 < (↑l1.length : Int) then 64 else (↑l1.length : Int)).toNat - 0) (List.drop 0 l1))
  (↑((if 64 < (↑l1.length : Int) then 64 else (↑l1.length : Int)).toNat - 0) : Int) 0
  (Go.IntKind.i64.wrap ((Go.IntKind.u64.wrap x0_0).tmod 4)) (x0_1.tmod 10000000000001)).bind fun r1 => ((money_Split K r1.snd.snd.fst r1.snd.snd.snd r1.fst).bind fun r2 => (bi (r1.snd.fst == 0)
    (bi ((↑r2.fst.length : Int) == 0)
    (bi (r2.snd == 5)
    (some Bool.true)
    (bi ((↑r1.fst.length : Int) == 0)
    (some (r2.snd == 2))
    (some Bool.false)))
    (some Bool.false))
    (bi (r2.snd != 0)
    (some Bool.false)
    (bi ((↑r2.fst.length : Int) != (↑r1.fst.length : Int))
    (some Bool.false)
    (bi (Decidable.decide (r1.snd.snd.snd < 0))
    (casO (law05_MoneyNothingLost_l24 K K r1.fst r1.snd.fst r2.fst 0
  (Go.IntKind.i64.wrap (0 - r1.snd.snd.snd)) r2.fst (↑r2.fst.length : Int) 0 r1.snd.snd.fst r1.snd.snd.snd) (fun r3 => (some (r3.fst == r3.snd.snd))) (fun r4 => (some r4)))
    (casO (law05_MoneyNothingLost_l24 K K r1.fst r1.snd.fst r2.fst 0 r1.snd.snd.snd r2.fst
  (↑r2.fst.length : Int) 0 r1.snd.snd.fst r1.snd.snd.snd) (fun r5 => (some (r5.fst == r5.snd.snd))) (fun r6 => (some r6)))))))))
    none)))
theorem law05_MoneyNothingLost_eq (K : Nat) (x0_0 : Int) (x0_1 : Int) (l1 : List Int) : (runF Go.Proofs.Try.prog (env_law05_MoneyScaled K) (law05_MoneyNothingLost_v9 K) Go.Proofs.Try.f4 [.agg [.int .i64, .int .i64], .one (.row .u16 false)] [.one (.bool)] law05_MoneyNothingLost_dec [.i x0_0, .i x0_1, .r l1]).den2 = law05_MoneyNothingLost K x0_0 x0_1 l1 := by kernel_rfl
def law05_MoneyNothingLost_w (K : Nat) : List U → Option (Bool) := fun us => match us with | [.i x0_0, .i x0_1, .r l1] => law05_MoneyNothingLost K x0_0 x0_1 l1 | _ => none
def law05_MoneyNothingLost_spec (K : Nat) : Vm.Spec := ⟨[.agg [.int .i64, .int .i64], .one (.row .u16 false)], [.one (.bool)], Bool, law05_MoneyNothingLost_w K, law05_MoneyNothingLost_enc⟩
theorem law05_MoneyNothingLost_ok (K : Nat) : FnOk Go.Proofs.Try.prog 4 (law05_MoneyNothingLost_spec K) := fn_ok' hmix (env_law05_MoneyScaled_ok K) (lenv := law05_MoneyNothingLost_v9 K) (args := [.agg [.int .i64, .int .i64], .one (.row .u16 false)]) (res := [.one (.bool)]) (G := law05_MoneyNothingLost_w K) (enc := law05_MoneyNothingLost_enc) Go.Proofs.Try.func4 (lps_fn (l := [lp (bodyOf Go.Proofs.Try.f4) 0, lp (bodyOf Go.Proofs.Try.f4) 1]) (by kernel_rfl) ⟨⟨9, law05_MoneyNothingLost_l9_s K, by kernel_rfl, by kernel_rfl, law05_MoneyNothingLost_l9_ok K⟩, ⟨⟨24, law05_MoneyNothingLost_l24_s K, by kernel_rfl, by kernel_rfl, law05_MoneyNothingLost_l24_ok K⟩, trivial⟩⟩) (dec := law05_MoneyNothingLost_dec) (fun u r h => by unfold law05_MoneyNothingLost_dec at h; split at h; (obtain rfl := Option.some.inj h; rfl); cases h) (fun us r h => by unfold law05_MoneyNothingLost_w at h; split at h; exact ((den2_eq _).symm.trans (law05_MoneyNothingLost_eq K _ _ _)).trans h; cases h)
def env_law05_MoneyNothingLost (K : Nat) : FuncId → Option Vm.Spec := addS (env_law05_MoneyScaled K) 4 (law05_MoneyNothingLost_spec K)
theorem env_law05_MoneyNothingLost_ok (K : Nat) : EnvOk Go.Proofs.Try.prog (env_law05_MoneyNothingLost K) := addS_ok (env_law05_MoneyScaled_ok K) (.inl ⟨callable Go.Proofs.Try.func4 (by kernel_rfl) (by kernel_rfl), law05_MoneyNothingLost_ok K⟩)
end Go.Proofs.Ytfeifhlnidkbbaa.F
