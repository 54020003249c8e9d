import Derived.Test.YtfeifhlnidkbbaaVmY
import Derived.Test.YtfeifhlnidkbbaaVmRc
import Derived.Test.YtfeifhlnidkbbaaProg
import Derived.Test.YtfeifhlnidkbbaaFC
namespace Go.Proofs.Ytfeifhlnidkbbaa.F
open Go Go.Proofs.Ytfeifhlnidkbbaa.Vm
set_option maxRecDepth 1000000
set_option linter.unusedVariables false
-- passbook/money.Split$1
def money_Split_1_dec : List U → Option (Int) := fun u => match u with | [.i x0] => some (x0) | _ => none
def money_Split_1_enc : (Int) → List U := fun r => [.i r]
def money_Split_1 (K : Nat) (x0_0 : Int) (x0_1 : Int) (x0_2 : Int) (x1_0 : Int) (x1_1 : Int) (x1_2 : Int) : Option (Int) := ((cmp_Compare_uint64_ K x1_1 x0_1).bind fun r0 => (some r0))
theorem money_Split_1_eq (K : Nat) (x0_0 : Int) (x0_1 : Int) (x0_2 : Int) (x1_0 : Int) (x1_1 : Int) (x1_2 : Int) : (runF Go.Proofs.Try.prog (env_money_Write K) (lenv0) Go.Proofs.Try.f34 [.agg [.int .i64, .int .u64, .int .i64], .agg [.int .i64, .int .u64, .int .i64]] [.one (.int .i64)] money_Split_1_dec [.i x0_0, .i x0_1, .i x0_2, .i x1_0, .i x1_1, .i x1_2]).den2 = money_Split_1 K x0_0 x0_1 x0_2 x1_0 x1_1 x1_2 := by kernel_rfl
def money_Split_1_w (K : Nat) : List U → Option (Int) := fun us => match us with | [.i x0_0, .i x0_1, .i x0_2, .i x1_0, .i x1_1, .i x1_2] => money_Split_1 K x0_0 x0_1 x0_2 x1_0 x1_1 x1_2 | _ => none
def money_Split_1_spec (K : Nat) : Vm.Spec := ⟨[.agg [.int .i64, .int .u64, .int .i64], .agg [.int .i64, .int .u64, .int .i64]], [.one (.int .i64)], Int, money_Split_1_w K, money_Split_1_enc⟩
theorem money_Split_1_ok (K : Nat) : FnOk Go.Proofs.Try.prog 34 (money_Split_1_spec K) := fn_ok' hmix (env_money_Write_ok K) (lenv := lenv0) (args := [.agg [.int .i64, .int .u64, .int .i64], .agg [.int .i64, .int .u64, .int .i64]]) (res := [.one (.int .i64)]) (G := money_Split_1_w K) (enc := money_Split_1_enc) Go.Proofs.Try.func34 (lps_fn (l := []) (by kernel_rfl) trivial) (dec := money_Split_1_dec) (fun u r h => by unfold money_Split_1_dec at h; split at h; (obtain rfl := Option.some.inj h; rfl); cases h) (fun us r h => by unfold money_Split_1_w at h; split at h; exact ((den2_eq _).symm.trans (money_Split_1_eq K _ _ _ _ _ _)).trans h; cases h)
def env_money_Split_1 (K : Nat) : FuncId → Option Vm.Spec := addS (env_money_Write K) 34 (money_Split_1_spec K)
theorem env_money_Split_1_ok (K : Nat) : EnvOk Go.Proofs.Try.prog (env_money_Split_1 K) := addS_ok (env_money_Write_ok K) (.inl ⟨callable Go.Proofs.Try.func34 (by kernel_rfl) (by kernel_rfl), money_Split_1_ok K⟩)
-- slices.insertionSortCmpFunc[passbook/money.share]
def slices_insertionSortCmpFunc_money_share__l4_pre : Vm.Pat := ⟨53, [(1, .pv (.one (.int .i64))), (2, .pv (.one (.int .i64))), (3, .pv (.one (.fn 34))), (8, .pv (.one (.int .i64))), (9, .pv (.one (.int .i64))), (0, .slf 0)], [.recs [.i64, .u64, .i64]], [0]⟩
def slices_insertionSortCmpFunc_money_share__l4_post0 : Vm.Pat := ⟨53, [(1, .pv (.one (.int .i64))), (2, .pv (.one (.int .i64))), (3, .pv (.one (.fn 34))), (8, .pv (.one (.int .i64))), (0, .slf 0)], [.recs [.i64, .u64, .i64]], [0]⟩
def slices_insertionSortCmpFunc_money_share__l4_enc0 : Int × Int × Int × List (List Int) → List U := fun r => [.i r.1, .i r.2.1, .n, .i r.2.2.1, .rr r.2.2.2]
def slices_insertionSortCmpFunc_money_share__l4_dec0 : List U → Option (Int × Int × Int × List (List Int)) := fun u => match u with | [.i x1, .i x2, .n, .i x8, .rr q0] => some (x1, x2, x8, q0) | _ => none
def slices_insertionSortCmpFunc_money_share__l4 (K : Nat) : Nat → Int → Int → Int → Int → List (List Int) → Option (Int × Int × Int × List (List Int))
  | 0, _, _, _, _, _ => none
  | k + 1, x1, x2, x8, x9, q0 => (bi (Decidable.decide (x9 > x1))
    (bi (Decidable.decide (0 ≤ x9) && Decidable.decide (x9 < (↑q0.length : Int)))
    (bi (Decidable.decide (0 ≤ Go.IntKind.i64.wrap (x9 - 1)) &&
  Decidable.decide (Go.IntKind.i64.wrap (x9 - 1) < (↑q0.length : Int)))
    ((money_Split_1 K
  (nth 0 (nth [] q0 x9.toNat) 0)
  (nth 0 (nth [] q0 x9.toNat) 1)
  (nth 0 (nth [] q0 x9.toNat) 2)
  (nth 0 (nth [] q0 (Go.IntKind.i64.wrap (x9 - 1)).toNat) 0)
  (nth 0 (nth [] q0 (Go.IntKind.i64.wrap (x9 - 1)).toNat) 1)
  (nth 0 (nth [] q0 (Go.IntKind.i64.wrap (x9 - 1)).toNat) 2)).bind fun r0 => (bi (Decidable.decide (r0 < 0))
    (bi (Decidable.decide (0 ≤ Go.IntKind.i64.wrap (x9 - 1)) &&
  Decidable.decide (Go.IntKind.i64.wrap (x9 - 1) < (↑q0.length : Int)))
    (bi (Decidable.decide (0 ≤ x9) && Decidable.decide (x9 < (↑q0.length : Int)))
    (bi (Decidable.decide (0 ≤ x9) && Decidable.decide (x9 < (↑q0.length : Int)))
    (bi (Decidable.decide (0 ≤ Go.IntKind.i64.wrap (x9 - 1)) &&
  Decidable.decide
    (Go.IntKind.i64.wrap (x9 - 1) <
      (↑(q0.set x9.toNat
              [nth 0
                  (nth [] q0 (Go.IntKind.i64.wrap (x9 - 1)).toNat) 0,
                nth 0
                  (nth [] q0 (Go.IntKind.i64.wrap (x9 - 1)).toNat) 1,
                nth 0
                  (nth [] q0 (Go.IntKind.i64.wrap (x9 - 1)).toNat) 2]).length :
        Int)))
    (slices_insertionSortCmpFunc_money_share__l4 K k (x1) (x2) (x8) (Go.IntKind.i64.wrap (x9 - 1)) ((q0.set x9.toNat
      [nth 0
          (nth [] q0 (Go.IntKind.i64.wrap (x9 - 1)).toNat) 0,
        nth 0
          (nth [] q0 (Go.IntKind.i64.wrap (x9 - 1)).toNat) 1,
        nth 0
          (nth [] q0 (Go.IntKind.i64.wrap (x9 - 1)).toNat) 2]).set
  (Go.IntKind.i64.wrap (x9 - 1)).toNat
  [nth 0 (nth [] q0 x9.toNat) 0,
    nth 0 (nth [] q0 x9.toNat) 1,
    nth 0 (nth [] q0 x9.toNat) 2]))
    none)
    none)
    none)
    none)
    (some ((x1, x2, x8, q0)))))
    none)
    none)
    (some ((x1, x2, x8, q0))))
def slices_insertionSortCmpFunc_money_share__l4_w (K k : Nat) : List U → Option (Int × Int × Int × List (List Int)) := fun us => match us with | [.i x1, .i x2, .n, .i x8, .i x9, .rr q0] => slices_insertionSortCmpFunc_money_share__l4 K k x1 x2 x8 x9 q0 | _ => none
theorem slices_insertionSortCmpFunc_money_share__l4_eq (K k : Nat) (x1 : Int) (x2 : Int) (x8 : Int) (x9 : Int) (q0 : List (List Int)) : (round1 Go.Proofs.Try.prog (env_money_Split_1 K) (lenv0) (lp (lp (bodyOf Go.Proofs.Try.f79) 0) 0) slices_insertionSortCmpFunc_money_share__l4_pre (.exit 2) slices_insertionSortCmpFunc_money_share__l4_post0 slices_insertionSortCmpFunc_money_share__l4_dec0 (slices_insertionSortCmpFunc_money_share__l4_w K k) [.i x1, .i x2, .n, .i x8, .i x9, .rr q0]).den2 = slices_insertionSortCmpFunc_money_share__l4 K (k + 1) x1 x2 x8 x9 q0 := by kernel_rfl
def slices_insertionSortCmpFunc_money_share__l4_s (K : Nat) : Vm.LS := .one slices_insertionSortCmpFunc_money_share__l4_pre _ (.exit 2) slices_insertionSortCmpFunc_money_share__l4_post0 (slices_insertionSortCmpFunc_money_share__l4_w K K) slices_insertionSortCmpFunc_money_share__l4_enc0
theorem slices_insertionSortCmpFunc_money_share__l4_ok (K : Nat) : LoopOk Go.Proofs.Try.prog (lp (lp (bodyOf Go.Proofs.Try.f79) 0) 0) (slices_insertionSortCmpFunc_money_share__l4_s K) := loop_one hmix (env_money_Split_1_ok K) (lenv := lenv0) (L := slices_insertionSortCmpFunc_money_share__l4_w K) (enc := slices_insertionSortCmpFunc_money_share__l4_enc0) (dec := slices_insertionSortCmpFunc_money_share__l4_dec0) (lps_ok (l := []) (by kernel_rfl) trivial) (fun u r h => by unfold slices_insertionSortCmpFunc_money_share__l4_dec0 at h; split at h; (obtain rfl := Option.some.inj h; rfl); cases h) (fun us => by unfold slices_insertionSortCmpFunc_money_share__l4_w; split <;> first | rfl | (simp only [slices_insertionSortCmpFunc_money_share__l4])) (fun k us r h => by unfold slices_insertionSortCmpFunc_money_share__l4_w at h; split at h; exact ((den2_eq _).symm.trans (slices_insertionSortCmpFunc_money_share__l4_eq K k _ _ _ _ _)).trans h; cases h) K
def slices_insertionSortCmpFunc_money_share__v4 (K : Nat) : Nat → Option Vm.LS := addL (lenv0) 4 (slices_insertionSortCmpFunc_money_share__l4_s K)
def slices_insertionSortCmpFunc_money_share__l1_pre : Vm.Pat := ⟨53, [(1, .pv (.one (.int .i64))), (2, .pv (.one (.int .i64))), (3, .pv (.one (.fn 34))), (8, .pv (.one (.int .i64))), (0, .slf 0)], [.recs [.i64, .u64, .i64]], [0]⟩
def slices_insertionSortCmpFunc_money_share__l1_post0 : Vm.Pat := ⟨53, [(0, .slf 0)], [.recs [.i64, .u64, .i64]], [0]⟩
def slices_insertionSortCmpFunc_money_share__l1_enc0 : List (List Int) → List U := fun r => [.rr r]
def slices_insertionSortCmpFunc_money_share__l1_dec0 : List U → Option (List (List Int)) := fun u => match u with | [.rr q0] => some (q0) | _ => none
def slices_insertionSortCmpFunc_money_share__l1 (K : Nat) : Nat → Int → Int → Int → List (List Int) → Option (List (List Int))
  | 0, _, _, _, _ => none
  | k + 1, x1, x2, x8, q0 => (bi (Decidable.decide (x8 < x2))
    ((slices_insertionSortCmpFunc_money_share__l4 K K x1 x2 x8 x8 q0).bind fun r0 => (slices_insertionSortCmpFunc_money_share__l1 K k (r0.fst) (r0.snd.fst) (Go.IntKind.i64.wrap (r0.snd.snd.fst + 1)) (r0.snd.snd.snd)))
    (some q0))
def slices_insertionSortCmpFunc_money_share__l1_w (K k : Nat) : List U → Option (List (List Int)) := fun us => match us with | [.i x1, .i x2, .n, .i x8, .rr q0] => slices_insertionSortCmpFunc_money_share__l1 K k x1 x2 x8 q0 | _ => none
theorem slices_insertionSortCmpFunc_money_share__l1_eq (K k : Nat) (x1 : Int) (x2 : Int) (x8 : Int) (q0 : List (List Int)) : (round1 Go.Proofs.Try.prog (env_money_Split_1 K) (slices_insertionSortCmpFunc_money_share__v4 K) (lp (bodyOf Go.Proofs.Try.f79) 0) slices_insertionSortCmpFunc_money_share__l1_pre (.exit 0) slices_insertionSortCmpFunc_money_share__l1_post0 slices_insertionSortCmpFunc_money_share__l1_dec0 (slices_insertionSortCmpFunc_money_share__l1_w K k) [.i x1, .i x2, .n, .i x8, .rr q0]).den2 = slices_insertionSortCmpFunc_money_share__l1 K (k + 1) x1 x2 x8 q0 := by kernel_rfl
def slices_insertionSortCmpFunc_money_share__l1_s (K : Nat) : Vm.LS := .one slices_insertionSortCmpFunc_money_share__l1_pre _ (.exit 0) slices_insertionSortCmpFunc_money_share__l1_post0 (slices_insertionSortCmpFunc_money_share__l1_w K K) slices_insertionSortCmpFunc_money_share__l1_enc0
theorem slices_insertionSortCmpFunc_money_share__l1_ok (K : Nat) : LoopOk Go.Proofs.Try.prog (lp (bodyOf Go.Proofs.Try.f79) 0) (slices_insertionSortCmpFunc_money_share__l1_s K) := loop_one hmix (env_money_Split_1_ok K) (lenv := slices_insertionSortCmpFunc_money_share__v4 K) (L := slices_insertionSortCmpFunc_money_share__l1_w K) (enc := slices_insertionSortCmpFunc_money_share__l1_enc0) (dec := slices_insertionSortCmpFunc_money_share__l1_dec0) (lps_ok (l := [lp (lp (bodyOf Go.Proofs.Try.f79) 0) 0]) (by kernel_rfl) ⟨⟨4, slices_insertionSortCmpFunc_money_share__l4_s K, by kernel_rfl, by kernel_rfl, slices_insertionSortCmpFunc_money_share__l4_ok K⟩, trivial⟩) (fun u r h => by unfold slices_insertionSortCmpFunc_money_share__l1_dec0 at h; split at h; (obtain rfl := Option.some.inj h; rfl); cases h) (fun us => by unfold slices_insertionSortCmpFunc_money_share__l1_w; split <;> first | rfl | (simp only [slices_insertionSortCmpFunc_money_share__l1])) (fun k us r h => by unfold slices_insertionSortCmpFunc_money_share__l1_w at h; split at h; exact ((den2_eq _).symm.trans (slices_insertionSortCmpFunc_money_share__l1_eq K k _ _ _ _)).trans h; cases h) K
def slices_insertionSortCmpFunc_money_share__v1 (K : Nat) : Nat → Option Vm.LS := addL (slices_insertionSortCmpFunc_money_share__v4 K) 1 (slices_insertionSortCmpFunc_money_share__l1_s K)
def slices_insertionSortCmpFunc_money_share__dec : List U → Option (List (List Int)) := fun u => match u with | [.rr q0] => some (q0) | _ => none
def slices_insertionSortCmpFunc_money_share__enc : (List (List Int)) → List U := fun r => [.rr r]
def slices_insertionSortCmpFunc_money_share_ (K : Nat) (q0 : List (List Int)) (x1 : Int) (x2 : Int) : Option (List (List Int)) := ((slices_insertionSortCmpFunc_money_share__l1 K K x1 x2 (Go.IntKind.i64.wrap (x1 + 1)) q0).bind fun r0 => (bi (Decidable.decide (r0.length = q0.length))
    (some r0)
    none))
theorem slices_insertionSortCmpFunc_money_share__eq (K : Nat) (q0 : List (List Int)) (x1 : Int) (x2 : Int) : (runF Go.Proofs.Try.prog (env_money_Split_1 K) (slices_insertionSortCmpFunc_money_share__v1 K) Go.Proofs.Try.f79 [.one (.recs [.i64, .u64, .i64] true), .one (.int .i64), .one (.int .i64), .one (.fn 34)] [] slices_insertionSortCmpFunc_money_share__dec [.rr q0, .i x1, .i x2, .n]).den2 = slices_insertionSortCmpFunc_money_share_ K q0 x1 x2 := by kernel_rfl
def slices_insertionSortCmpFunc_money_share__w (K : Nat) : List U → Option (List (List Int)) := fun us => match us with | [.rr q0, .i x1, .i x2, .n] => slices_insertionSortCmpFunc_money_share_ K q0 x1 x2 | _ => none
def slices_insertionSortCmpFunc_money_share__spec (K : Nat) : Vm.Spec := ⟨[.one (.recs [.i64, .u64, .i64] true), .one (.int .i64), .one (.int .i64), .one (.fn 34)], [], List (List Int), slices_insertionSortCmpFunc_money_share__w K, slices_insertionSortCmpFunc_money_share__enc⟩
theorem slices_insertionSortCmpFunc_money_share__ok (K : Nat) : FnOk Go.Proofs.Try.prog 79 (slices_insertionSortCmpFunc_money_share__spec K) := fn_ok' hmix (env_money_Split_1_ok K) (lenv := slices_insertionSortCmpFunc_money_share__v1 K) (args := [.one (.recs [.i64, .u64, .i64] true), .one (.int .i64), .one (.int .i64), .one (.fn 34)]) (res := []) (G := slices_insertionSortCmpFunc_money_share__w K) (enc := slices_insertionSortCmpFunc_money_share__enc) Go.Proofs.Try.func79 (lps_fn (l := [lp (bodyOf Go.Proofs.Try.f79) 0]) (by kernel_rfl) ⟨⟨1, slices_insertionSortCmpFunc_money_share__l1_s K, by kernel_rfl, by kernel_rfl, slices_insertionSortCmpFunc_money_share__l1_ok K⟩, trivial⟩) (dec := slices_insertionSortCmpFunc_money_share__dec) (fun u r h => by unfold slices_insertionSortCmpFunc_money_share__dec at h; split at h; (obtain rfl := Option.some.inj h; rfl); cases h) (fun us r h => by unfold slices_insertionSortCmpFunc_money_share__w at h; split at h; exact ((den2_eq _).symm.trans (slices_insertionSortCmpFunc_money_share__eq K _ _ _)).trans h; cases h)
def env_slices_insertionSortCmpFunc_money_share_ (K : Nat) : FuncId → Option Vm.Spec := addS (env_money_Split_1 K) 79 (slices_insertionSortCmpFunc_money_share__spec K)
theorem env_slices_insertionSortCmpFunc_money_share__ok (K : Nat) : EnvOk Go.Proofs.Try.prog (env_slices_insertionSortCmpFunc_money_share_ K) := addS_ok (env_money_Split_1_ok K) (.inl ⟨callable Go.Proofs.Try.func79 (by kernel_rfl) (by kernel_rfl), slices_insertionSortCmpFunc_money_share__ok K⟩)
-- slices.swapRangeCmpFunc[passbook/money.share]
def slices_swapRangeCmpFunc_money_share__l1_pre : Vm.Pat := ⟨38, [(1, .pv (.one (.int .i64))), (2, .pv (.one (.int .i64))), (3, .pv (.one (.int .i64))), (10, .pv (.one (.int .i64))), (0, .slf 0)], [.recs [.i64, .u64, .i64]], [0]⟩
def slices_swapRangeCmpFunc_money_share__l1_post0 : Vm.Pat := ⟨38, [(0, .slf 0)], [.recs [.i64, .u64, .i64]], [0]⟩
def slices_swapRangeCmpFunc_money_share__l1_enc0 : List (List Int) → List U := fun r => [.rr r]
def slices_swapRangeCmpFunc_money_share__l1_dec0 : List U → Option (List (List Int)) := fun u => match u with | [.rr q0] => some (q0) | _ => none
def slices_swapRangeCmpFunc_money_share__l1 (K : Nat) : Nat → Int → Int → Int → Int → List (List Int) → Option (List (List Int))
  | 0, _, _, _, _, _ => none
  | k + 1, x1, x2, x3, x10, q0 => (bi (Decidable.decide (x10 < x3))
    (bi (Decidable.decide (0 ≤ Go.IntKind.i64.wrap (x2 + x10)) &&
  Decidable.decide (Go.IntKind.i64.wrap (x2 + x10) < (↑q0.length : Int)))
    (bi (Decidable.decide (0 ≤ Go.IntKind.i64.wrap (x1 + x10)) &&
  Decidable.decide (Go.IntKind.i64.wrap (x1 + x10) < (↑q0.length : Int)))
    (bi (Decidable.decide (0 ≤ Go.IntKind.i64.wrap (x1 + x10)) &&
  Decidable.decide (Go.IntKind.i64.wrap (x1 + x10) < (↑q0.length : Int)))
    (bi (Decidable.decide (0 ≤ Go.IntKind.i64.wrap (x2 + x10)) &&
  Decidable.decide
    (Go.IntKind.i64.wrap (x2 + x10) <
      (↑(q0.set (Go.IntKind.i64.wrap (x1 + x10)).toNat
              [nth 0
                  (nth [] q0 (Go.IntKind.i64.wrap (x2 + x10)).toNat) 0,
                nth 0
                  (nth [] q0 (Go.IntKind.i64.wrap (x2 + x10)).toNat) 1,
                nth 0
                  (nth [] q0 (Go.IntKind.i64.wrap (x2 + x10)).toNat) 2]).length :
        Int)))
    (slices_swapRangeCmpFunc_money_share__l1 K k (x1) (x2) (x3) (Go.IntKind.i64.wrap (x10 + 1)) ((q0.set (Go.IntKind.i64.wrap (x1 + x10)).toNat
      [nth 0
          (nth [] q0 (Go.IntKind.i64.wrap (x2 + x10)).toNat) 0,
        nth 0
          (nth [] q0 (Go.IntKind.i64.wrap (x2 + x10)).toNat) 1,
        nth 0
          (nth [] q0 (Go.IntKind.i64.wrap (x2 + x10)).toNat) 2]).set
  (Go.IntKind.i64.wrap (x2 + x10)).toNat
  [nth 0 (nth [] q0 (Go.IntKind.i64.wrap (x1 + x10)).toNat)
      0,
    nth 0 (nth [] q0 (Go.IntKind.i64.wrap (x1 + x10)).toNat)
      1,
    nth 0 (nth [] q0 (Go.IntKind.i64.wrap (x1 + x10)).toNat)
      2]))
    none)
    none)
    none)
    none)
    (some q0))
def slices_swapRangeCmpFunc_money_share__l1_w (K k : Nat) : List U → Option (List (List Int)) := fun us => match us with | [.i x1, .i x2, .i x3, .i x10, .rr q0] => slices_swapRangeCmpFunc_money_share__l1 K k x1 x2 x3 x10 q0 | _ => none
theorem slices_swapRangeCmpFunc_money_share__l1_eq (K k : Nat) (x1 : Int) (x2 : Int) (x3 : Int) (x10 : Int) (q0 : List (List Int)) : (round1 Go.Proofs.Try.prog (env_slices_insertionSortCmpFunc_money_share_ K) (lenv0) (lp (bodyOf Go.Proofs.Try.f92) 0) slices_swapRangeCmpFunc_money_share__l1_pre (.exit 0) slices_swapRangeCmpFunc_money_share__l1_post0 slices_swapRangeCmpFunc_money_share__l1_dec0 (slices_swapRangeCmpFunc_money_share__l1_w K k) [.i x1, .i x2, .i x3, .i x10, .rr q0]).den2 = slices_swapRangeCmpFunc_money_share__l1 K (k + 1) x1 x2 x3 x10 q0 := by kernel_rfl
def slices_swapRangeCmpFunc_money_share__l1_s (K : Nat) : Vm.LS := .one slices_swapRangeCmpFunc_money_share__l1_pre _ (.exit 0) slices_swapRangeCmpFunc_money_share__l1_post0 (slices_swapRangeCmpFunc_money_share__l1_w K K) slices_swapRangeCmpFunc_money_share__l1_enc0
theorem slices_swapRangeCmpFunc_money_share__l1_ok (K : Nat) : LoopOk Go.Proofs.Try.prog (lp (bodyOf Go.Proofs.Try.f92) 0) (slices_swapRangeCmpFunc_money_share__l1_s K) := loop_one hmix (env_slices_insertionSortCmpFunc_money_share__ok K) (lenv := lenv0) (L := slices_swapRangeCmpFunc_money_share__l1_w K) (enc := slices_swapRangeCmpFunc_money_share__l1_enc0) (dec := slices_swapRangeCmpFunc_money_share__l1_dec0) (lps_ok (l := []) (by kernel_rfl) trivial) (fun u r h => by unfold slices_swapRangeCmpFunc_money_share__l1_dec0 at h; split at h; (obtain rfl := Option.some.inj h; rfl); cases h) (fun us => by unfold slices_swapRangeCmpFunc_money_share__l1_w; split <;> first | rfl | (simp only [slices_swapRangeCmpFunc_money_share__l1])) (fun k us r h => by unfold slices_swapRangeCmpFunc_money_share__l1_w at h; split at h; exact ((den2_eq _).symm.trans (slices_swapRangeCmpFunc_money_share__l1_eq K k _ _ _ _ _)).trans h; cases h) K
def slices_swapRangeCmpFunc_money_share__v1 (K : Nat) : Nat → Option Vm.LS := addL (lenv0) 1 (slices_swapRangeCmpFunc_money_share__l1_s K)
def slices_swapRangeCmpFunc_money_share__dec : List U → Option (List (List Int)) := fun u => match u with | [.rr q0] => some (q0) | _ => none
def slices_swapRangeCmpFunc_money_share__enc : (List (List Int)) → List U := fun r => [.rr r]
def slices_swapRangeCmpFunc_money_share_ (K : Nat) (q0 : List (List Int)) (x1 : Int) (x2 : Int) (x3 : Int) : Option (List (List Int)) := ((slices_swapRangeCmpFunc_money_share__l1 K K x1 x2 x3 0 q0).bind fun r0 => (bi (Decidable.decide (r0.length = q0.length))
    (some r0)
    none))
theorem slices_swapRangeCmpFunc_money_share__eq (K : Nat) (q0 : List (List Int)) (x1 : Int) (x2 : Int) (x3 : Int) : (runF Go.Proofs.Try.prog (env_slices_insertionSortCmpFunc_money_share_ K) (slices_swapRangeCmpFunc_money_share__v1 K) Go.Proofs.Try.f92 [.one (.recs [.i64, .u64, .i64] true), .one (.int .i64), .one (.int .i64), .one (.int .i64), .one (.fn 34)] [] slices_swapRangeCmpFunc_money_share__dec [.rr q0, .i x1, .i x2, .i x3, .n]).den2 = slices_swapRangeCmpFunc_money_share_ K q0 x1 x2 x3 := by kernel_rfl
def slices_swapRangeCmpFunc_money_share__w (K : Nat) : List U → Option (List (List Int)) := fun us => match us with | [.rr q0, .i x1, .i x2, .i x3, .n] => slices_swapRangeCmpFunc_money_share_ K q0 x1 x2 x3 | _ => none
def slices_swapRangeCmpFunc_money_share__spec (K : Nat) : Vm.Spec := ⟨[.one (.recs [.i64, .u64, .i64] true), .one (.int .i64), .one (.int .i64), .one (.int .i64), .one (.fn 34)], [], List (List Int), slices_swapRangeCmpFunc_money_share__w K, slices_swapRangeCmpFunc_money_share__enc⟩
theorem slices_swapRangeCmpFunc_money_share__ok (K : Nat) : FnOk Go.Proofs.Try.prog 92 (slices_swapRangeCmpFunc_money_share__spec K) := fn_ok' hmix (env_slices_insertionSortCmpFunc_money_share__ok K) (lenv := slices_swapRangeCmpFunc_money_share__v1 K) (args := [.one (.recs [.i64, .u64, .i64] true), .one (.int .i64), .one (.int .i64), .one (.int .i64), .one (.fn 34)]) (res := []) (G := slices_swapRangeCmpFunc_money_share__w K) (enc := slices_swapRangeCmpFunc_money_share__enc) Go.Proofs.Try.func92 (lps_fn (l := [lp (bodyOf Go.Proofs.Try.f92) 0]) (by kernel_rfl) ⟨⟨1, slices_swapRangeCmpFunc_money_share__l1_s K, by kernel_rfl, by kernel_rfl, slices_swapRangeCmpFunc_money_share__l1_ok K⟩, trivial⟩) (dec := slices_swapRangeCmpFunc_money_share__dec) (fun u r h => by unfold slices_swapRangeCmpFunc_money_share__dec at h; split at h; (obtain rfl := Option.some.inj h; rfl); cases h) (fun us r h => by unfold slices_swapRangeCmpFunc_money_share__w at h; split at h; exact ((den2_eq _).symm.trans (slices_swapRangeCmpFunc_money_share__eq K _ _ _ _)).trans h; cases h)
def env_slices_swapRangeCmpFunc_money_share_ (K : Nat) : FuncId → Option Vm.Spec := addS (env_slices_insertionSortCmpFunc_money_share_ K) 92 (slices_swapRangeCmpFunc_money_share__spec K)
theorem env_slices_swapRangeCmpFunc_money_share__ok (K : Nat) : EnvOk Go.Proofs.Try.prog (env_slices_swapRangeCmpFunc_money_share_ K) := addS_ok (env_slices_insertionSortCmpFunc_money_share__ok K) (.inl ⟨callable Go.Proofs.Try.func92 (by kernel_rfl) (by kernel_rfl), slices_swapRangeCmpFunc_money_share__ok K⟩)
-- slices.rotateCmpFunc[passbook/money.share]
def slices_rotateCmpFunc_money_share__l2_pre : Vm.Pat := ⟨58, [(2, .pv (.one (.int .i64))), (4, .pv (.one (.fn 34))), (10, .pv (.one (.int .i64))), (11, .pv (.one (.int .i64))), (0, .slf 0)], [.recs [.i64, .u64, .i64]], [0]⟩
def slices_rotateCmpFunc_money_share__l2_post0 : Vm.Pat := ⟨58, [(2, .pv (.one (.int .i64))), (4, .pv (.one (.fn 34))), (10, .pv (.one (.int .i64))), (0, .slf 0)], [.recs [.i64, .u64, .i64]], [0]⟩
def slices_rotateCmpFunc_money_share__l2_enc0 : Int × Int × List (List Int) → List U := fun r => [.i r.1, .n, .i r.2.1, .rr r.2.2]
def slices_rotateCmpFunc_money_share__l2_dec0 : List U → Option (Int × Int × List (List Int)) := fun u => match u with | [.i x2, .n, .i x10, .rr q0] => some (x2, x10, q0) | _ => none
def slices_rotateCmpFunc_money_share__l2 (K : Nat) : Nat → Int → Int → Int → List (List Int) → Option (Int × Int × List (List Int))
  | 0, _, _, _, _ => none
  | k + 1, x2, x10, x11, q0 => (bi (x10 != x11)
    (bi (Decidable.decide (x10 > x11))
    ((slices_swapRangeCmpFunc_money_share_ K q0 (Go.IntKind.i64.wrap (x2 - x10)) x2 x11).bind fun r0 => (slices_rotateCmpFunc_money_share__l2 K k (x2) (Go.IntKind.i64.wrap (x10 - x11)) (x11) (r0)))
    ((slices_swapRangeCmpFunc_money_share_ K q0 (Go.IntKind.i64.wrap (x2 - x10))
  (Go.IntKind.i64.wrap (Go.IntKind.i64.wrap (x2 + x11) - x10)) x10).bind fun r1 => (slices_rotateCmpFunc_money_share__l2 K k (x2) (x10) (Go.IntKind.i64.wrap (x11 - x10)) (r1))))
    (some ((x2, x10, q0))))
def slices_rotateCmpFunc_money_share__l2_w (K k : Nat) : List U → Option (Int × Int × List (List Int)) := fun us => match us with | [.i x2, .n, .i x10, .i x11, .rr q0] => slices_rotateCmpFunc_money_share__l2 K k x2 x10 x11 q0 | _ => none
theorem slices_rotateCmpFunc_money_share__l2_eq (K k : Nat) (x2 : Int) (x10 : Int) (x11 : Int) (q0 : List (List Int)) : (round1 Go.Proofs.Try.prog (env_slices_swapRangeCmpFunc_money_share_ K) (lenv0) (lp (bodyOf Go.Proofs.Try.f87) 0) slices_rotateCmpFunc_money_share__l2_pre (.exit 0) slices_rotateCmpFunc_money_share__l2_post0 slices_rotateCmpFunc_money_share__l2_dec0 (slices_rotateCmpFunc_money_share__l2_w K k) [.i x2, .n, .i x10, .i x11, .rr q0]).den2 = slices_rotateCmpFunc_money_share__l2 K (k + 1) x2 x10 x11 q0 := by kernel_rfl
def slices_rotateCmpFunc_money_share__l2_s (K : Nat) : Vm.LS := .one slices_rotateCmpFunc_money_share__l2_pre _ (.exit 0) slices_rotateCmpFunc_money_share__l2_post0 (slices_rotateCmpFunc_money_share__l2_w K K) slices_rotateCmpFunc_money_share__l2_enc0
theorem slices_rotateCmpFunc_money_share__l2_ok (K : Nat) : LoopOk Go.Proofs.Try.prog (lp (bodyOf Go.Proofs.Try.f87) 0) (slices_rotateCmpFunc_money_share__l2_s K) := loop_one hmix (env_slices_swapRangeCmpFunc_money_share__ok K) (lenv := lenv0) (L := slices_rotateCmpFunc_money_share__l2_w K) (enc := slices_rotateCmpFunc_money_share__l2_enc0) (dec := slices_rotateCmpFunc_money_share__l2_dec0) (lps_ok (l := []) (by kernel_rfl) trivial) (fun u r h => by unfold slices_rotateCmpFunc_money_share__l2_dec0 at h; split at h; (obtain rfl := Option.some.inj h; rfl); cases h) (fun us => by unfold slices_rotateCmpFunc_money_share__l2_w; split <;> first | rfl | (simp only [slices_rotateCmpFunc_money_share__l2])) (fun k us r h => by unfold slices_rotateCmpFunc_money_share__l2_w at h; split at h; exact ((den2_eq _).symm.trans (slices_rotateCmpFunc_money_share__l2_eq K k _ _ _ _)).trans h; cases h) K
def slices_rotateCmpFunc_money_share__v2 (K : Nat) : Nat → Option Vm.LS := addL (lenv0) 2 (slices_rotateCmpFunc_money_share__l2_s K)
def slices_rotateCmpFunc_money_share__dec : List U → Option (List (List Int)) := fun u => match u with | [.rr q0] => some (q0) | _ => none
def slices_rotateCmpFunc_money_share__enc : (List (List Int)) → List U := fun r => [.rr r]
def slices_rotateCmpFunc_money_share_ (K : Nat) (q0 : List (List Int)) (x1 : Int) (x2 : Int) (x3 : Int) : Option (List (List Int)) := ((slices_rotateCmpFunc_money_share__l2 K K x2 (Go.IntKind.i64.wrap (x2 - x1))
  (Go.IntKind.i64.wrap (x3 - x2)) q0).bind fun r0 => ((slices_swapRangeCmpFunc_money_share_ K r0.snd.snd
  (Go.IntKind.i64.wrap (r0.fst - r0.snd.fst)) r0.fst r0.snd.fst).bind fun r1 => (bi (Decidable.decide (List.length r1 = q0.length))
    (some r1)
    none)))
theorem slices_rotateCmpFunc_money_share__eq (K : Nat) (q0 : List (List Int)) (x1 : Int) (x2 : Int) (x3 : Int) : (runF Go.Proofs.Try.prog (env_slices_swapRangeCmpFunc_money_share_ K) (slices_rotateCmpFunc_money_share__v2 K) Go.Proofs.Try.f87 [.one (.recs [.i64, .u64, .i64] true), .one (.int .i64), .one (.int .i64), .one (.int .i64), .one (.fn 34)] [] slices_rotateCmpFunc_money_share__dec [.rr q0, .i x1, .i x2, .i x3, .n]).den2 = slices_rotateCmpFunc_money_share_ K q0 x1 x2 x3 := by kernel_rfl
def slices_rotateCmpFunc_money_share__w (K : Nat) : List U → Option (List (List Int)) := fun us => match us with | [.rr q0, .i x1, .i x2, .i x3, .n] => slices_rotateCmpFunc_money_share_ K q0 x1 x2 x3 | _ => none
def slices_rotateCmpFunc_money_share__spec (K : Nat) : Vm.Spec := ⟨[.one (.recs [.i64, .u64, .i64] true), .one (.int .i64), .one (.int .i64), .one (.int .i64), .one (.fn 34)], [], List (List Int), slices_rotateCmpFunc_money_share__w K, slices_rotateCmpFunc_money_share__enc⟩
theorem slices_rotateCmpFunc_money_share__ok (K : Nat) : FnOk Go.Proofs.Try.prog 87 (slices_rotateCmpFunc_money_share__spec K) := fn_ok' hmix (env_slices_swapRangeCmpFunc_money_share__ok K) (lenv := slices_rotateCmpFunc_money_share__v2 K) (args := [.one (.recs [.i64, .u64, .i64] true), .one (.int .i64), .one (.int .i64), .one (.int .i64), .one (.fn 34)]) (res := []) (G := slices_rotateCmpFunc_money_share__w K) (enc := slices_rotateCmpFunc_money_share__enc) Go.Proofs.Try.func87 (lps_fn (l := [lp (bodyOf Go.Proofs.Try.f87) 0]) (by kernel_rfl) ⟨⟨2, slices_rotateCmpFunc_money_share__l2_s K, by kernel_rfl, by kernel_rfl, slices_rotateCmpFunc_money_share__l2_ok K⟩, trivial⟩) (dec := slices_rotateCmpFunc_money_share__dec) (fun u r h => by unfold slices_rotateCmpFunc_money_share__dec at h; split at h; (obtain rfl := Option.some.inj h; rfl); cases h) (fun us r h => by unfold slices_rotateCmpFunc_money_share__w at h; split at h; exact ((den2_eq _).symm.trans (slices_rotateCmpFunc_money_share__eq K _ _ _ _)).trans h; cases h)
def env_slices_rotateCmpFunc_money_share_ (K : Nat) : FuncId → Option Vm.Spec := addS (env_slices_swapRangeCmpFunc_money_share_ K) 87 (slices_rotateCmpFunc_money_share__spec K)
theorem env_slices_rotateCmpFunc_money_share__ok (K : Nat) : EnvOk Go.Proofs.Try.prog (env_slices_rotateCmpFunc_money_share_ K) := addS_ok (env_slices_swapRangeCmpFunc_money_share__ok K) (.inl ⟨callable Go.Proofs.Try.func87 (by kernel_rfl) (by kernel_rfl), slices_rotateCmpFunc_money_share__ok K⟩)
-- slices.symMergeCmpFunc[passbook/money.share]
def slices_symMergeCmpFunc_money_share__l33_pre : Vm.Pat := ⟨220, [(1, .pv (.one (.int .i64))), (2, .pv (.one (.int .i64))), (3, .pv (.one (.int .i64))), (4, .pv (.one (.fn 34))), (18, .pv (.one (.int .i64))), (19, .pv (.one (.int .i64))), (20, .pv (.one (.int .i64))), (21, .pv (.one (.int .i64))), (22, .pv (.one (.int .i64))), (0, .slf 0)], [.recs [.i64, .u64, .i64]], [0]⟩
def slices_symMergeCmpFunc_money_share__l33_post0 : Vm.Pat := ⟨220, [(1, .pv (.one (.int .i64))), (2, .pv (.one (.int .i64))), (3, .pv (.one (.int .i64))), (4, .pv (.one (.fn 34))), (18, .pv (.one (.int .i64))), (19, .pv (.one (.int .i64))), (20, .pv (.one (.int .i64))), (0, .slf 0)], [.recs [.i64, .u64, .i64]], [0]⟩
def slices_symMergeCmpFunc_money_share__l33_enc0 : Int × Int × Int × Int × Int × Int × List (List Int) → List U := fun r => [.i r.1, .i r.2.1, .i r.2.2.1, .n, .i r.2.2.2.1, .i r.2.2.2.2.1, .i r.2.2.2.2.2.1, .rr r.2.2.2.2.2.2]
def slices_symMergeCmpFunc_money_share__l33_dec0 : List U → Option (Int × Int × Int × Int × Int × Int × List (List Int)) := fun u => match u with | [.i x1, .i x2, .i x3, .n, .i x18, .i x19, .i x20, .rr q0] => some (x1, x2, x3, x18, x19, x20, q0) | _ => none
def slices_symMergeCmpFunc_money_share__l33 (K : Nat) : Nat → Int → Int → Int → Int → Int → Int → Int → Int → List (List Int) → Option (Int × Int × Int × Int × Int × Int × List (List Int))
  | 0, _, _, _, _, _, _, _, _, _ => none
  | k + 1, x1, x2, x3, x18, x19, x20, x21, x22, q0 => (bi (Decidable.decide (x20 < x21))
    (bi (Decidable.decide
    (0 ≤
      Go.IntKind.i64.wrap
        (x22 - Go.IntKind.i64.wrap ((Go.IntKind.u64.wrap (Go.IntKind.i64.wrap (x20 + x21))).fdiv 2))) &&
  Decidable.decide
    (Go.IntKind.i64.wrap (x22 - Go.IntKind.i64.wrap ((Go.IntKind.u64.wrap (Go.IntKind.i64.wrap (x20 + x21))).fdiv 2)) <
      (↑q0.length : Int)))
    (bi (Decidable.decide (0 ≤ Go.IntKind.i64.wrap ((Go.IntKind.u64.wrap (Go.IntKind.i64.wrap (x20 + x21))).fdiv 2)) &&
  Decidable.decide
    (Go.IntKind.i64.wrap ((Go.IntKind.u64.wrap (Go.IntKind.i64.wrap (x20 + x21))).fdiv 2) < (↑q0.length : Int)))
    ((money_Split_1 K
  (nth 0
    (nth [] q0
      (Go.IntKind.i64.wrap
          (x22 - Go.IntKind.i64.wrap ((Go.IntKind.u64.wrap (Go.IntKind.i64.wrap (x20 + x21))).fdiv 2))).toNat)
    0)
  (nth 0
    (nth [] q0
      (Go.IntKind.i64.wrap
          (x22 - Go.IntKind.i64.wrap ((Go.IntKind.u64.wrap (Go.IntKind.i64.wrap (x20 + x21))).fdiv 2))).toNat)
    1)
  (nth 0
    (nth [] q0
      (Go.IntKind.i64.wrap
          (x22 - Go.IntKind.i64.wrap ((Go.IntKind.u64.wrap (Go.IntKind.i64.wrap (x20 + x21))).fdiv 2))).toNat)
    2)
  (nth 0
    (nth [] q0
      (Go.IntKind.i64.wrap ((Go.IntKind.u64.wrap (Go.IntKind.i64.wrap (x20 + x21))).fdiv 2)).toNat)
    0)
  (nth 0
    (nth [] q0
      (Go.IntKind.i64.wrap ((Go.IntKind.u64.wrap (Go.IntKind.i64.wrap (x20 + x21))).fdiv 2)).toNat)
    1)
  (nth 0
    (nth [] q0
      (Go.IntKind.i64.wrap ((Go.IntKind.u64.wrap (Go.IntKind.i64.wrap (x20 + x21))).fdiv 2)).toNat)
    2)).bind fun r0 => (bi (!Decidable.decide (r0 < 0))
    (slices_symMergeCmpFunc_money_share__l33 K k (x1) (x2) (x3) (x18) (x19) (Go.IntKind.i64.wrap (Go.IntKind.i64.wrap ((Go.IntKind.u64.wrap (Go.IntKind.i64.wrap (x20 + x21))).fdiv 2) + 1)) (x21) (x22) (q0))
    (slices_symMergeCmpFunc_money_share__l33 K k (x1) (x2) (x3) (x18) (x19) (x20) (Go.IntKind.i64.wrap ((Go.IntKind.u64.wrap (Go.IntKind.i64.wrap (x20 + x21))).fdiv 2)) (x22) (q0))))
    none)
    none)
    (some ((x1, x2, x3, x18, x19, x20, q0))))
def slices_symMergeCmpFunc_money_share__l33_w (K k : Nat) : List U → Option (Int × Int × Int × Int × Int × Int × List (List Int)) := fun us => match us with | [.i x1, .i x2, .i x3, .n, .i x18, .i x19, .i x20, .i x21, .i x22, .rr q0] => slices_symMergeCmpFunc_money_share__l33 K k x1 x2 x3 x18 x19 x20 x21 x22 q0 | _ => none
theorem slices_symMergeCmpFunc_money_share__l33_eq (K k : Nat) (x1 : Int) (x2 : Int) (x3 : Int) (x18 : Int) (x19 : Int) (x20 : Int) (x21 : Int) (x22 : Int) (q0 : List (List Int)) : (round1 Go.Proofs.Try.prog (env_slices_rotateCmpFunc_money_share_ K) (lenv0) (lp (bodyOf Go.Proofs.Try.f80) 4) slices_symMergeCmpFunc_money_share__l33_pre (.exit 8) slices_symMergeCmpFunc_money_share__l33_post0 slices_symMergeCmpFunc_money_share__l33_dec0 (slices_symMergeCmpFunc_money_share__l33_w K k) [.i x1, .i x2, .i x3, .n, .i x18, .i x19, .i x20, .i x21, .i x22, .rr q0]).den2 = slices_symMergeCmpFunc_money_share__l33 K (k + 1) x1 x2 x3 x18 x19 x20 x21 x22 q0 := by kernel_rfl
def slices_symMergeCmpFunc_money_share__l33_s (K : Nat) : Vm.LS := .one slices_symMergeCmpFunc_money_share__l33_pre _ (.exit 8) slices_symMergeCmpFunc_money_share__l33_post0 (slices_symMergeCmpFunc_money_share__l33_w K K) slices_symMergeCmpFunc_money_share__l33_enc0
theorem slices_symMergeCmpFunc_money_share__l33_ok (K : Nat) : LoopOk Go.Proofs.Try.prog (lp (bodyOf Go.Proofs.Try.f80) 4) (slices_symMergeCmpFunc_money_share__l33_s K) := loop_one hmix (env_slices_rotateCmpFunc_money_share__ok K) (lenv := lenv0) (L := slices_symMergeCmpFunc_money_share__l33_w K) (enc := slices_symMergeCmpFunc_money_share__l33_enc0) (dec := slices_symMergeCmpFunc_money_share__l33_dec0) (lps_ok (l := []) (by kernel_rfl) trivial) (fun u r h => by unfold slices_symMergeCmpFunc_money_share__l33_dec0 at h; split at h; (obtain rfl := Option.some.inj h; rfl); cases h) (fun us => by unfold slices_symMergeCmpFunc_money_share__l33_w; split <;> first | rfl | (simp only [slices_symMergeCmpFunc_money_share__l33])) (fun k us r h => by unfold slices_symMergeCmpFunc_money_share__l33_w at h; split at h; exact ((den2_eq _).symm.trans (slices_symMergeCmpFunc_money_share__l33_eq K k _ _ _ _ _ _ _ _ _)).trans h; cases h) K
def slices_symMergeCmpFunc_money_share__v33 (K : Nat) : Nat → Option Vm.LS := addL (lenv0) 33 (slices_symMergeCmpFunc_money_share__l33_s K)
def slices_symMergeCmpFunc_money_share__l21_pre : Vm.Pat := ⟨220, [(14, .pv (.one (.int .i64))), (17, .pv (.one (.int .i64))), (0, .slf 0)], [.recs [.i64, .u64, .i64]], [0]⟩
def slices_symMergeCmpFunc_money_share__l21_post0 : Vm.Pat := ⟨220, [(0, .slf 0)], [.recs [.i64, .u64, .i64]], [0]⟩
def slices_symMergeCmpFunc_money_share__l21_enc0 : List (List Int) → List U := fun r => [.rr r]
def slices_symMergeCmpFunc_money_share__l21_dec0 : List U → Option (List (List Int)) := fun u => match u with | [.rr q0] => some (q0) | _ => none
def slices_symMergeCmpFunc_money_share__l21 (K : Nat) : Nat → Int → Int → List (List Int) → Option (List (List Int))
  | 0, _, _, _ => none
  | k + 1, x14, x17, q0 => (bi (Decidable.decide (x17 > x14))
    (bi (Decidable.decide (0 ≤ Go.IntKind.i64.wrap (x17 - 1)) &&
  Decidable.decide (Go.IntKind.i64.wrap (x17 - 1) < (↑q0.length : Int)))
    (bi (Decidable.decide (0 ≤ x17) && Decidable.decide (x17 < (↑q0.length : Int)))
    (bi (Decidable.decide (0 ≤ x17) && Decidable.decide (x17 < (↑q0.length : Int)))
    (bi (Decidable.decide (0 ≤ Go.IntKind.i64.wrap (x17 - 1)) &&
  Decidable.decide
    (Go.IntKind.i64.wrap (x17 - 1) <
      (↑(q0.set x17.toNat
              [nth 0
                  (nth [] q0 (Go.IntKind.i64.wrap (x17 - 1)).toNat) 0,
                nth 0
                  (nth [] q0 (Go.IntKind.i64.wrap (x17 - 1)).toNat) 1,
                nth 0
                  (nth [] q0 (Go.IntKind.i64.wrap (x17 - 1)).toNat) 2]).length :
        Int)))
    (slices_symMergeCmpFunc_money_share__l21 K k (x14) (Go.IntKind.i64.wrap (x17 - 1)) ((q0.set x17.toNat
      [nth 0
          (nth [] q0 (Go.IntKind.i64.wrap (x17 - 1)).toNat) 0,
        nth 0
          (nth [] q0 (Go.IntKind.i64.wrap (x17 - 1)).toNat) 1,
        nth 0
          (nth [] q0 (Go.IntKind.i64.wrap (x17 - 1)).toNat) 2]).set
  (Go.IntKind.i64.wrap (x17 - 1)).toNat
  [nth 0 (nth [] q0 x17.toNat) 0,
    nth 0 (nth [] q0 x17.toNat) 1,
    nth 0 (nth [] q0 x17.toNat) 2]))
    none)
    none)
    none)
    none)
    (some q0))
def slices_symMergeCmpFunc_money_share__l21_w (K k : Nat) : List U → Option (List (List Int)) := fun us => match us with | [.i x14, .i x17, .rr q0] => slices_symMergeCmpFunc_money_share__l21 K k x14 x17 q0 | _ => none
theorem slices_symMergeCmpFunc_money_share__l21_eq (K k : Nat) (x14 : Int) (x17 : Int) (q0 : List (List Int)) : (round1 Go.Proofs.Try.prog (env_slices_rotateCmpFunc_money_share_ K) (slices_symMergeCmpFunc_money_share__v33 K) (lp (bodyOf Go.Proofs.Try.f80) 3) slices_symMergeCmpFunc_money_share__l21_pre (.exit 6) slices_symMergeCmpFunc_money_share__l21_post0 slices_symMergeCmpFunc_money_share__l21_dec0 (slices_symMergeCmpFunc_money_share__l21_w K k) [.i x14, .i x17, .rr q0]).den2 = slices_symMergeCmpFunc_money_share__l21 K (k + 1) x14 x17 q0 := by kernel_rfl
def slices_symMergeCmpFunc_money_share__l21_s (K : Nat) : Vm.LS := .one slices_symMergeCmpFunc_money_share__l21_pre _ (.exit 6) slices_symMergeCmpFunc_money_share__l21_post0 (slices_symMergeCmpFunc_money_share__l21_w K K) slices_symMergeCmpFunc_money_share__l21_enc0
theorem slices_symMergeCmpFunc_money_share__l21_ok (K : Nat) : LoopOk Go.Proofs.Try.prog (lp (bodyOf Go.Proofs.Try.f80) 3) (slices_symMergeCmpFunc_money_share__l21_s K) := loop_one hmix (env_slices_rotateCmpFunc_money_share__ok K) (lenv := slices_symMergeCmpFunc_money_share__v33 K) (L := slices_symMergeCmpFunc_money_share__l21_w K) (enc := slices_symMergeCmpFunc_money_share__l21_enc0) (dec := slices_symMergeCmpFunc_money_share__l21_dec0) (lps_ok (l := []) (by kernel_rfl) trivial) (fun u r h => by unfold slices_symMergeCmpFunc_money_share__l21_dec0 at h; split at h; (obtain rfl := Option.some.inj h; rfl); cases h) (fun us => by unfold slices_symMergeCmpFunc_money_share__l21_w; split <;> first | rfl | (simp only [slices_symMergeCmpFunc_money_share__l21])) (fun k us r h => by unfold slices_symMergeCmpFunc_money_share__l21_w at h; split at h; exact ((den2_eq _).symm.trans (slices_symMergeCmpFunc_money_share__l21_eq K k _ _ _)).trans h; cases h) K
def slices_symMergeCmpFunc_money_share__v21 (K : Nat) : Nat → Option Vm.LS := addL (slices_symMergeCmpFunc_money_share__v33 K) 21 (slices_symMergeCmpFunc_money_share__l21_s K)
def slices_symMergeCmpFunc_money_share__l15_pre : Vm.Pat := ⟨220, [(2, .pv (.one (.int .i64))), (4, .pv (.one (.fn 34))), (14, .pv (.one (.int .i64))), (15, .pv (.one (.int .i64))), (0, .slf 0)], [.recs [.i64, .u64, .i64]], [0]⟩
def slices_symMergeCmpFunc_money_share__l15_post0 : Vm.Pat := ⟨220, [(2, .pv (.one (.int .i64))), (14, .pv (.one (.int .i64))), (0, .slf 0)], [.recs [.i64, .u64, .i64]], [0]⟩
def slices_symMergeCmpFunc_money_share__l15_enc0 : Int × Int × List (List Int) → List U := fun r => [.i r.1, .i r.2.1, .rr r.2.2]
def slices_symMergeCmpFunc_money_share__l15_dec0 : List U → Option (Int × Int × List (List Int)) := fun u => match u with | [.i x2, .i x14, .rr q0] => some (x2, x14, q0) | _ => none
def slices_symMergeCmpFunc_money_share__l15 (K : Nat) : Nat → Int → Int → Int → List (List Int) → Option (Int × Int × List (List Int))
  | 0, _, _, _, _ => none
  | k + 1, x2, x14, x15, q0 => (bi (Decidable.decide (x14 < x15))
    (bi (Decidable.decide (0 ≤ x2) && Decidable.decide (x2 < (↑q0.length : Int)))
    (bi (Decidable.decide (0 ≤ Go.IntKind.i64.wrap ((Go.IntKind.u64.wrap (Go.IntKind.i64.wrap (x14 + x15))).fdiv 2)) &&
  Decidable.decide
    (Go.IntKind.i64.wrap ((Go.IntKind.u64.wrap (Go.IntKind.i64.wrap (x14 + x15))).fdiv 2) < (↑q0.length : Int)))
    ((money_Split_1 K
  (nth 0 (nth [] q0 x2.toNat) 0)
  (nth 0 (nth [] q0 x2.toNat) 1)
  (nth 0 (nth [] q0 x2.toNat) 2)
  (nth 0
    (nth [] q0
      (Go.IntKind.i64.wrap ((Go.IntKind.u64.wrap (Go.IntKind.i64.wrap (x14 + x15))).fdiv 2)).toNat)
    0)
  (nth 0
    (nth [] q0
      (Go.IntKind.i64.wrap ((Go.IntKind.u64.wrap (Go.IntKind.i64.wrap (x14 + x15))).fdiv 2)).toNat)
    1)
  (nth 0
    (nth [] q0
      (Go.IntKind.i64.wrap ((Go.IntKind.u64.wrap (Go.IntKind.i64.wrap (x14 + x15))).fdiv 2)).toNat)
    2)).bind fun r0 => (bi (!Decidable.decide (r0 < 0))
    (slices_symMergeCmpFunc_money_share__l15 K k (x2) (Go.IntKind.i64.wrap (Go.IntKind.i64.wrap ((Go.IntKind.u64.wrap (Go.IntKind.i64.wrap (x14 + x15))).fdiv 2) + 1)) (x15) (q0))
    (slices_symMergeCmpFunc_money_share__l15 K k (x2) (x14) (Go.IntKind.i64.wrap ((Go.IntKind.u64.wrap (Go.IntKind.i64.wrap (x14 + x15))).fdiv 2)) (q0))))
    none)
    none)
    (some ((x2, x14, q0))))
def slices_symMergeCmpFunc_money_share__l15_w (K k : Nat) : List U → Option (Int × Int × List (List Int)) := fun us => match us with | [.i x2, .n, .i x14, .i x15, .rr q0] => slices_symMergeCmpFunc_money_share__l15 K k x2 x14 x15 q0 | _ => none
theorem slices_symMergeCmpFunc_money_share__l15_eq (K k : Nat) (x2 : Int) (x14 : Int) (x15 : Int) (q0 : List (List Int)) : (round1 Go.Proofs.Try.prog (env_slices_rotateCmpFunc_money_share_ K) (slices_symMergeCmpFunc_money_share__v21 K) (lp (bodyOf Go.Proofs.Try.f80) 2) slices_symMergeCmpFunc_money_share__l15_pre (.exit 4) slices_symMergeCmpFunc_money_share__l15_post0 slices_symMergeCmpFunc_money_share__l15_dec0 (slices_symMergeCmpFunc_money_share__l15_w K k) [.i x2, .n, .i x14, .i x15, .rr q0]).den2 = slices_symMergeCmpFunc_money_share__l15 K (k + 1) x2 x14 x15 q0 := by kernel_rfl
def slices_symMergeCmpFunc_money_share__l15_s (K : Nat) : Vm.LS := .one slices_symMergeCmpFunc_money_share__l15_pre _ (.exit 4) slices_symMergeCmpFunc_money_share__l15_post0 (slices_symMergeCmpFunc_money_share__l15_w K K) slices_symMergeCmpFunc_money_share__l15_enc0
theorem slices_symMergeCmpFunc_money_share__l15_ok (K : Nat) : LoopOk Go.Proofs.Try.prog (lp (bodyOf Go.Proofs.Try.f80) 2) (slices_symMergeCmpFunc_money_share__l15_s K) := loop_one hmix (env_slices_rotateCmpFunc_money_share__ok K) (lenv := slices_symMergeCmpFunc_money_share__v21 K) (L := slices_symMergeCmpFunc_money_share__l15_w K) (enc := slices_symMergeCmpFunc_money_share__l15_enc0) (dec := slices_symMergeCmpFunc_money_share__l15_dec0) (lps_ok (l := []) (by kernel_rfl) trivial) (fun u r h => by unfold slices_symMergeCmpFunc_money_share__l15_dec0 at h; split at h; (obtain rfl := Option.some.inj h; rfl); cases h) (fun us => by unfold slices_symMergeCmpFunc_money_share__l15_w; split <;> first | rfl | (simp only [slices_symMergeCmpFunc_money_share__l15])) (fun k us r h => by unfold slices_symMergeCmpFunc_money_share__l15_w at h; split at h; exact ((den2_eq _).symm.trans (slices_symMergeCmpFunc_money_share__l15_eq K k _ _ _ _)).trans h; cases h) K
def slices_symMergeCmpFunc_money_share__v15 (K : Nat) : Nat → Option Vm.LS := addL (slices_symMergeCmpFunc_money_share__v21 K) 15 (slices_symMergeCmpFunc_money_share__l15_s K)
def slices_symMergeCmpFunc_money_share__l9_pre : Vm.Pat := ⟨220, [(10, .pv (.one (.int .i64))), (13, .pv (.one (.int .i64))), (0, .slf 0)], [.recs [.i64, .u64, .i64]], [0]⟩
def slices_symMergeCmpFunc_money_share__l9_post0 : Vm.Pat := ⟨220, [(0, .slf 0)], [.recs [.i64, .u64, .i64]], [0]⟩
def slices_symMergeCmpFunc_money_share__l9_enc0 : List (List Int) → List U := fun r => [.rr r]
def slices_symMergeCmpFunc_money_share__l9_dec0 : List U → Option (List (List Int)) := fun u => match u with | [.rr q0] => some (q0) | _ => none
def slices_symMergeCmpFunc_money_share__l9 (K : Nat) : Nat → Int → Int → List (List Int) → Option (List (List Int))
  | 0, _, _, _ => none
  | k + 1, x10, x13, q0 => (bi (Decidable.decide (x13 < Go.IntKind.i64.wrap (x10 - 1)))
    (bi (Decidable.decide (0 ≤ Go.IntKind.i64.wrap (x13 + 1)) &&
  Decidable.decide (Go.IntKind.i64.wrap (x13 + 1) < (↑q0.length : Int)))
    (bi (Decidable.decide (0 ≤ x13) && Decidable.decide (x13 < (↑q0.length : Int)))
    (bi (Decidable.decide (0 ≤ x13) && Decidable.decide (x13 < (↑q0.length : Int)))
    (bi (Decidable.decide (0 ≤ Go.IntKind.i64.wrap (x13 + 1)) &&
  Decidable.decide
    (Go.IntKind.i64.wrap (x13 + 1) <
      (↑(q0.set x13.toNat
              [nth 0
                  (nth [] q0 (Go.IntKind.i64.wrap (x13 + 1)).toNat) 0,
                nth 0
                  (nth [] q0 (Go.IntKind.i64.wrap (x13 + 1)).toNat) 1,
                nth 0
                  (nth [] q0 (Go.IntKind.i64.wrap (x13 + 1)).toNat) 2]).length :
        Int)))
    (slices_symMergeCmpFunc_money_share__l9 K k (x10) (Go.IntKind.i64.wrap (x13 + 1)) ((q0.set x13.toNat
      [nth 0
          (nth [] q0 (Go.IntKind.i64.wrap (x13 + 1)).toNat) 0,
        nth 0
          (nth [] q0 (Go.IntKind.i64.wrap (x13 + 1)).toNat) 1,
        nth 0
          (nth [] q0 (Go.IntKind.i64.wrap (x13 + 1)).toNat) 2]).set
  (Go.IntKind.i64.wrap (x13 + 1)).toNat
  [nth 0 (nth [] q0 x13.toNat) 0,
    nth 0 (nth [] q0 x13.toNat) 1,
    nth 0 (nth [] q0 x13.toNat) 2]))
    none)
    none)
    none)
    none)
    (some q0))
def slices_symMergeCmpFunc_money_share__l9_w (K k : Nat) : List U → Option (List (List Int)) := fun us => match us with | [.i x10, .i x13, .rr q0] => slices_symMergeCmpFunc_money_share__l9 K k x10 x13 q0 | _ => none
theorem slices_symMergeCmpFunc_money_share__l9_eq (K k : Nat) (x10 : Int) (x13 : Int) (q0 : List (List Int)) : (round1 Go.Proofs.Try.prog (env_slices_rotateCmpFunc_money_share_ K) (slices_symMergeCmpFunc_money_share__v15 K) (lp (bodyOf Go.Proofs.Try.f80) 1) slices_symMergeCmpFunc_money_share__l9_pre (.exit 2) slices_symMergeCmpFunc_money_share__l9_post0 slices_symMergeCmpFunc_money_share__l9_dec0 (slices_symMergeCmpFunc_money_share__l9_w K k) [.i x10, .i x13, .rr q0]).den2 = slices_symMergeCmpFunc_money_share__l9 K (k + 1) x10 x13 q0 := by kernel_rfl
def slices_symMergeCmpFunc_money_share__l9_s (K : Nat) : Vm.LS := .one slices_symMergeCmpFunc_money_share__l9_pre _ (.exit 2) slices_symMergeCmpFunc_money_share__l9_post0 (slices_symMergeCmpFunc_money_share__l9_w K K) slices_symMergeCmpFunc_money_share__l9_enc0
theorem slices_symMergeCmpFunc_money_share__l9_ok (K : Nat) : LoopOk Go.Proofs.Try.prog (lp (bodyOf Go.Proofs.Try.f80) 1) (slices_symMergeCmpFunc_money_share__l9_s K) := loop_one hmix (env_slices_rotateCmpFunc_money_share__ok K) (lenv := slices_symMergeCmpFunc_money_share__v15 K) (L := slices_symMergeCmpFunc_money_share__l9_w K) (enc := slices_symMergeCmpFunc_money_share__l9_enc0) (dec := slices_symMergeCmpFunc_money_share__l9_dec0) (lps_ok (l := []) (by kernel_rfl) trivial) (fun u r h => by unfold slices_symMergeCmpFunc_money_share__l9_dec0 at h; split at h; (obtain rfl := Option.some.inj h; rfl); cases h) (fun us => by unfold slices_symMergeCmpFunc_money_share__l9_w; split <;> first | rfl | (simp only [slices_symMergeCmpFunc_money_share__l9])) (fun k us r h => by unfold slices_symMergeCmpFunc_money_share__l9_w at h; split at h; exact ((den2_eq _).symm.trans (slices_symMergeCmpFunc_money_share__l9_eq K k _ _ _)).trans h; cases h) K
def slices_symMergeCmpFunc_money_share__v9 (K : Nat) : Nat → Option Vm.LS := addL (slices_symMergeCmpFunc_money_share__v15 K) 9 (slices_symMergeCmpFunc_money_share__l9_s K)
def slices_symMergeCmpFunc_money_share__l3_pre : Vm.Pat := ⟨220, [(1, .pv (.one (.int .i64))), (4, .pv (.one (.fn 34))), (10, .pv (.one (.int .i64))), (11, .pv (.one (.int .i64))), (0, .slf 0)], [.recs [.i64, .u64, .i64]], [0]⟩
def slices_symMergeCmpFunc_money_share__l3_post0 : Vm.Pat := ⟨220, [(1, .pv (.one (.int .i64))), (10, .pv (.one (.int .i64))), (0, .slf 0)], [.recs [.i64, .u64, .i64]], [0]⟩
def slices_symMergeCmpFunc_money_share__l3_enc0 : Int × Int × List (List Int) → List U := fun r => [.i r.1, .i r.2.1, .rr r.2.2]
def slices_symMergeCmpFunc_money_share__l3_dec0 : List U → Option (Int × Int × List (List Int)) := fun u => match u with | [.i x1, .i x10, .rr q0] => some (x1, x10, q0) | _ => none
def slices_symMergeCmpFunc_money_share__l3 (K : Nat) : Nat → Int → Int → Int → List (List Int) → Option (Int × Int × List (List Int))
  | 0, _, _, _, _ => none
  | k + 1, x1, x10, x11, q0 => (bi (Decidable.decide (x10 < x11))
    (bi (Decidable.decide (0 ≤ Go.IntKind.i64.wrap ((Go.IntKind.u64.wrap (Go.IntKind.i64.wrap (x10 + x11))).fdiv 2)) &&
  Decidable.decide
    (Go.IntKind.i64.wrap ((Go.IntKind.u64.wrap (Go.IntKind.i64.wrap (x10 + x11))).fdiv 2) < (↑q0.length : Int)))
    (bi (Decidable.decide (0 ≤ x1) && Decidable.decide (x1 < (↑q0.length : Int)))
    ((money_Split_1 K
  (nth 0
    (nth [] q0
      (Go.IntKind.i64.wrap ((Go.IntKind.u64.wrap (Go.IntKind.i64.wrap (x10 + x11))).fdiv 2)).toNat)
    0)
  (nth 0
    (nth [] q0
      (Go.IntKind.i64.wrap ((Go.IntKind.u64.wrap (Go.IntKind.i64.wrap (x10 + x11))).fdiv 2)).toNat)
    1)
  (nth 0
    (nth [] q0
      (Go.IntKind.i64.wrap ((Go.IntKind.u64.wrap (Go.IntKind.i64.wrap (x10 + x11))).fdiv 2)).toNat)
    2)
  (nth 0 (nth [] q0 x1.toNat) 0)
  (nth 0 (nth [] q0 x1.toNat) 1)
  (nth 0 (nth [] q0 x1.toNat) 2)).bind fun r0 => (bi (Decidable.decide (r0 < 0))
    (slices_symMergeCmpFunc_money_share__l3 K k (x1) (Go.IntKind.i64.wrap (Go.IntKind.i64.wrap ((Go.IntKind.u64.wrap (Go.IntKind.i64.wrap (x10 + x11))).fdiv 2) + 1)) (x11) (q0))
    (slices_symMergeCmpFunc_money_share__l3 K k (x1) (x10) (Go.IntKind.i64.wrap ((Go.IntKind.u64.wrap (Go.IntKind.i64.wrap (x10 + x11))).fdiv 2)) (q0))))
    none)
    none)
    (some ((x1, x10, q0))))
def slices_symMergeCmpFunc_money_share__l3_w (K k : Nat) : List U → Option (Int × Int × List (List Int)) := fun us => match us with | [.i x1, .n, .i x10, .i x11, .rr q0] => slices_symMergeCmpFunc_money_share__l3 K k x1 x10 x11 q0 | _ => none
theorem slices_symMergeCmpFunc_money_share__l3_eq (K k : Nat) (x1 : Int) (x10 : Int) (x11 : Int) (q0 : List (List Int)) : (round1 Go.Proofs.Try.prog (env_slices_rotateCmpFunc_money_share_ K) (slices_symMergeCmpFunc_money_share__v9 K) (lp (bodyOf Go.Proofs.Try.f80) 0) slices_symMergeCmpFunc_money_share__l3_pre (.exit 0) slices_symMergeCmpFunc_money_share__l3_post0 slices_symMergeCmpFunc_money_share__l3_dec0 (slices_symMergeCmpFunc_money_share__l3_w K k) [.i x1, .n, .i x10, .i x11, .rr q0]).den2 = slices_symMergeCmpFunc_money_share__l3 K (k + 1) x1 x10 x11 q0 := by kernel_rfl
def slices_symMergeCmpFunc_money_share__l3_s (K : Nat) : Vm.LS := .one slices_symMergeCmpFunc_money_share__l3_pre _ (.exit 0) slices_symMergeCmpFunc_money_share__l3_post0 (slices_symMergeCmpFunc_money_share__l3_w K K) slices_symMergeCmpFunc_money_share__l3_enc0
theorem slices_symMergeCmpFunc_money_share__l3_ok (K : Nat) : LoopOk Go.Proofs.Try.prog (lp (bodyOf Go.Proofs.Try.f80) 0) (slices_symMergeCmpFunc_money_share__l3_s K) := loop_one hmix (env_slices_rotateCmpFunc_money_share__ok K) (lenv := slices_symMergeCmpFunc_money_share__v9 K) (L := slices_symMergeCmpFunc_money_share__l3_w K) (enc := slices_symMergeCmpFunc_money_share__l3_enc0) (dec := slices_symMergeCmpFunc_money_share__l3_dec0) (lps_ok (l := []) (by kernel_rfl) trivial) (fun u r h => by unfold slices_symMergeCmpFunc_money_share__l3_dec0 at h; split at h; (obtain rfl := Option.some.inj h; rfl); cases h) (fun us => by unfold slices_symMergeCmpFunc_money_share__l3_w; split <;> first | rfl | (simp only [slices_symMergeCmpFunc_money_share__l3])) (fun k us r h => by unfold slices_symMergeCmpFunc_money_share__l3_w at h; split at h; exact ((den2_eq _).symm.trans (slices_symMergeCmpFunc_money_share__l3_eq K k _ _ _ _)).trans h; cases h) K
def slices_symMergeCmpFunc_money_share__v3 (K : Nat) : Nat → Option Vm.LS := addL (slices_symMergeCmpFunc_money_share__v9 K) 3 (slices_symMergeCmpFunc_money_share__l3_s K)
def slices_symMergeCmpFunc_money_share__dec : List U → Option (List (List Int)) := fun u => match u with | [.rr q0] => some (q0) | _ => none
def slices_symMergeCmpFunc_money_share__enc : (List (List Int)) → List U := fun r => [.rr r]
def slices_symMergeCmpFunc_money_share__r (K : Nat) : Nat → List (List Int) → Int → Int → Int → Option (List (List Int))
  | 0, _, _, _, _ => none
  | k + 1, q0, x1, x2, x3 => (bi (Go.IntKind.i64.wrap (x2 - x1) == 1)
    ((slices_symMergeCmpFunc_money_share__l3 K K x1 x2 x3 q0).bind fun r0 => ((slices_symMergeCmpFunc_money_share__l9 K K r0.snd.fst r0.fst r0.snd.snd).bind fun r1 => (bi (Decidable.decide (r1.length = q0.length))
    (some r1)
    none)))
    (bi (Go.IntKind.i64.wrap (x3 - x2) == 1)
    ((slices_symMergeCmpFunc_money_share__l15 K K x2 x1 x2 q0).bind fun r2 => ((slices_symMergeCmpFunc_money_share__l21 K K r2.snd.fst r2.fst r2.snd.snd).bind fun r3 => (bi (Decidable.decide (r3.length = q0.length))
    (some r3)
    none)))
    (bi (Decidable.decide (x2 > Go.IntKind.i64.wrap ((Go.IntKind.u64.wrap (Go.IntKind.i64.wrap (x1 + x3))).fdiv 2)))
    ((slices_symMergeCmpFunc_money_share__l33 K K x1 x2 x3
  (Go.IntKind.i64.wrap ((Go.IntKind.u64.wrap (Go.IntKind.i64.wrap (x1 + x3))).fdiv 2))
  (Go.IntKind.i64.wrap (Go.IntKind.i64.wrap ((Go.IntKind.u64.wrap (Go.IntKind.i64.wrap (x1 + x3))).fdiv 2) + x2))
  (Go.IntKind.i64.wrap
    (Go.IntKind.i64.wrap (Go.IntKind.i64.wrap ((Go.IntKind.u64.wrap (Go.IntKind.i64.wrap (x1 + x3))).fdiv 2) + x2) -
      x3))
  (Go.IntKind.i64.wrap ((Go.IntKind.u64.wrap (Go.IntKind.i64.wrap (x1 + x3))).fdiv 2))
  (Go.IntKind.i64.wrap
    (Go.IntKind.i64.wrap (Go.IntKind.i64.wrap ((Go.IntKind.u64.wrap (Go.IntKind.i64.wrap (x1 + x3))).fdiv 2) + x2) - 1))
  q0).bind fun r4 => (bi (Decidable.decide (r4.snd.snd.snd.snd.snd.fst < r4.snd.fst))
    (bi (Decidable.decide (r4.snd.fst < Go.IntKind.i64.wrap (r4.snd.snd.snd.snd.fst - r4.snd.snd.snd.snd.snd.fst)))
    ((slices_rotateCmpFunc_money_share_ K r4.snd.snd.snd.snd.snd.snd r4.snd.snd.snd.snd.snd.fst
  r4.snd.fst (Go.IntKind.i64.wrap (r4.snd.snd.snd.snd.fst - r4.snd.snd.snd.snd.snd.fst))).bind fun r5 => (bi (Decidable.decide (r4.fst < r4.snd.snd.snd.snd.snd.fst))
    (bi (Decidable.decide (r4.snd.snd.snd.snd.snd.fst < r4.snd.snd.snd.fst))
    ((slices_symMergeCmpFunc_money_share__r K k (r5) (r4.fst) (r4.snd.snd.snd.snd.snd.fst) (r4.snd.snd.snd.fst)).bind fun r6 => (bi (Decidable.decide (r4.snd.snd.snd.fst < Go.IntKind.i64.wrap (r4.snd.snd.snd.snd.fst - r4.snd.snd.snd.snd.snd.fst)))
    (bi (Decidable.decide (Go.IntKind.i64.wrap (r4.snd.snd.snd.snd.fst - r4.snd.snd.snd.snd.snd.fst) < r4.snd.snd.fst))
    ((slices_symMergeCmpFunc_money_share__r K k (r6) (r4.snd.snd.snd.fst) (Go.IntKind.i64.wrap (r4.snd.snd.snd.snd.fst - r4.snd.snd.snd.snd.snd.fst)) (r4.snd.snd.fst)).bind fun r7 => (bi (Decidable.decide (List.length r7 = q0.length))
    (some r7)
    none))
    (bi (Decidable.decide (List.length r6 = q0.length))
    (some r6)
    none))
    (bi (Decidable.decide (List.length r6 = q0.length))
    (some r6)
    none)))
    (bi (Decidable.decide (r4.snd.snd.snd.fst < Go.IntKind.i64.wrap (r4.snd.snd.snd.snd.fst - r4.snd.snd.snd.snd.snd.fst)))
    (bi (Decidable.decide (Go.IntKind.i64.wrap (r4.snd.snd.snd.snd.fst - r4.snd.snd.snd.snd.snd.fst) < r4.snd.snd.fst))
    ((slices_symMergeCmpFunc_money_share__r K k (r5) (r4.snd.snd.snd.fst) (Go.IntKind.i64.wrap (r4.snd.snd.snd.snd.fst - r4.snd.snd.snd.snd.snd.fst)) (r4.snd.snd.fst)).bind fun r8 => (bi (Decidable.decide (List.length r8 = q0.length))
    (some r8)
    none))
    (bi (Decidable.decide (List.length r5 = q0.length))
    (some r5)
    none))
    (bi (Decidable.decide (List.length r5 = q0.length))
    (some r5)
    none)))
    (bi (Decidable.decide (r4.snd.snd.snd.fst < Go.IntKind.i64.wrap (r4.snd.snd.snd.snd.fst - r4.snd.snd.snd.snd.snd.fst)))
    (bi (Decidable.decide (Go.IntKind.i64.wrap (r4.snd.snd.snd.snd.fst - r4.snd.snd.snd.snd.snd.fst) < r4.snd.snd.fst))
    ((slices_symMergeCmpFunc_money_share__r K k (r5) (r4.snd.snd.snd.fst) (Go.IntKind.i64.wrap (r4.snd.snd.snd.snd.fst - r4.snd.snd.snd.snd.snd.fst)) (r4.snd.snd.fst)).bind fun r9 => (bi (Decidable.decide (List.length r9 = q0.length))
    (some r9)
    none))
    (bi (Decidable.decide (List.length r5 = q0.length))
    (some r5)
    none))
    (bi (Decidable.decide (List.length r5 = q0.length))
    (some r5)
    none))))
    (bi (Decidable.decide (r4.fst < r4.snd.snd.snd.snd.snd.fst))
    (bi (Decidable.decide (r4.snd.snd.snd.snd.snd.fst < r4.snd.snd.snd.fst))
    ((slices_symMergeCmpFunc_money_share__r K k (r4.snd.snd.snd.snd.snd.snd) (r4.fst) (r4.snd.snd.snd.snd.snd.fst) (r4.snd.snd.snd.fst)).bind fun r10 => (bi (Decidable.decide (r4.snd.snd.snd.fst < Go.IntKind.i64.wrap (r4.snd.snd.snd.snd.fst - r4.snd.snd.snd.snd.snd.fst)))
    (bi (Decidable.decide (Go.IntKind.i64.wrap (r4.snd.snd.snd.snd.fst - r4.snd.snd.snd.snd.snd.fst) < r4.snd.snd.fst))
    ((slices_symMergeCmpFunc_money_share__r K k (r10) (r4.snd.snd.snd.fst) (Go.IntKind.i64.wrap (r4.snd.snd.snd.snd.fst - r4.snd.snd.snd.snd.snd.fst)) (r4.snd.snd.fst)).bind fun r11 => (bi (Decidable.decide (List.length r11 = q0.length))
    (some r11)
    none))
    (bi (Decidable.decide (List.length r10 = q0.length))
    (some r10)
    none))
    (bi (Decidable.decide (List.length r10 = q0.length))
    (some r10)
    none)))
    (bi (Decidable.decide (r4.snd.snd.snd.fst < Go.IntKind.i64.wrap (r4.snd.snd.snd.snd.fst - r4.snd.snd.snd.snd.snd.fst)))
    (bi (Decidable.decide (Go.IntKind.i64.wrap (r4.snd.snd.snd.snd.fst - r4.snd.snd.snd.snd.snd.fst) < r4.snd.snd.fst))
    ((slices_symMergeCmpFunc_money_share__r K k (r4.snd.snd.snd.snd.snd.snd) (r4.snd.snd.snd.fst) (Go.IntKind.i64.wrap (r4.snd.snd.snd.snd.fst - r4.snd.snd.snd.snd.snd.fst)) (r4.snd.snd.fst)).bind fun r12 => (bi (Decidable.decide (List.length r12 = q0.length))
    (some r12)
    none))
    (bi (Decidable.decide (r4.snd.snd.snd.snd.snd.snd.length = q0.length))
    (some (r4.snd.snd.snd.snd.snd.snd))
    none))
    (bi (Decidable.decide (r4.snd.snd.snd.snd.snd.snd.length = q0.length))
    (some (r4.snd.snd.snd.snd.snd.snd))
    none)))
    (bi (Decidable.decide (r4.snd.snd.snd.fst < Go.IntKind.i64.wrap (r4.snd.snd.snd.snd.fst - r4.snd.snd.snd.snd.snd.fst)))
    (bi (Decidable.decide (Go.IntKind.i64.wrap (r4.snd.snd.snd.snd.fst - r4.snd.snd.snd.snd.snd.fst) < r4.snd.snd.fst))
    ((slices_symMergeCmpFunc_money_share__r K k (r4.snd.snd.snd.snd.snd.snd) (r4.snd.snd.snd.fst) (Go.IntKind.i64.wrap (r4.snd.snd.snd.snd.fst - r4.snd.snd.snd.snd.snd.fst)) (r4.snd.snd.fst)).bind fun r13 => (bi (Decidable.decide (List.length r13 = q0.length))
    (some r13)
    none))
    (bi (Decidable.decide (r4.snd.snd.snd.snd.snd.snd.length = q0.length))
    (some (r4.snd.snd.snd.snd.snd.snd))
    none))
    (bi (Decidable.decide (r4.snd.snd.snd.snd.snd.snd.length = q0.length))
    (some (r4.snd.snd.snd.snd.snd.snd))
    none))))
    (bi (Decidable.decide (r4.fst < r4.snd.snd.snd.snd.snd.fst))
    (bi (Decidable.decide (r4.snd.snd.snd.snd.snd.fst < r4.snd.snd.snd.fst))
    ((slices_symMergeCmpFunc_money_share__r K k (r4.snd.snd.snd.snd.snd.snd) (r4.fst) (r4.snd.snd.snd.snd.snd.fst) (r4.snd.snd.snd.fst)).bind fun r14 => (bi (Decidable.decide (r4.snd.snd.snd.fst < Go.IntKind.i64.wrap (r4.snd.snd.snd.snd.fst - r4.snd.snd.snd.snd.snd.fst)))
    (bi (Decidable.decide (Go.IntKind.i64.wrap (r4.snd.snd.snd.snd.fst - r4.snd.snd.snd.snd.snd.fst) < r4.snd.snd.fst))
    ((slices_symMergeCmpFunc_money_share__r K k (r14) (r4.snd.snd.snd.fst) (Go.IntKind.i64.wrap (r4.snd.snd.snd.snd.fst - r4.snd.snd.snd.snd.snd.fst)) (r4.snd.snd.fst)).bind fun r15 => (bi (Decidable.decide (List.length r15 = q0.length))
    (some r15)
    none))
    (bi (Decidable.decide (List.length r14 = q0.length))
    (some r14)
    none))
    (bi (Decidable.decide (List.length r14 = q0.length))
    (some r14)
    none)))
    (bi (Decidable.decide (r4.snd.snd.snd.fst < Go.IntKind.i64.wrap (r4.snd.snd.snd.snd.fst - r4.snd.snd.snd.snd.snd.fst)))
    (bi (Decidable.decide (Go.IntKind.i64.wrap (r4.snd.snd.snd.snd.fst - r4.snd.snd.snd.snd.snd.fst) < r4.snd.snd.fst))
    ((slices_symMergeCmpFunc_money_share__r K k (r4.snd.snd.snd.snd.snd.snd) (r4.snd.snd.snd.fst) (Go.IntKind.i64.wrap (r4.snd.snd.snd.snd.fst - r4.snd.snd.snd.snd.snd.fst)) (r4.snd.snd.fst)).bind fun r16 => (bi (Decidable.decide (List.length r16 = q0.length))
    (some r16)
    none))
    (bi (Decidable.decide (r4.snd.snd.snd.snd.snd.snd.length = q0.length))
    (some (r4.snd.snd.snd.snd.snd.snd))
    none))
    (bi (Decidable.decide (r4.snd.snd.snd.snd.snd.snd.length = q0.length))
    (some (r4.snd.snd.snd.snd.snd.snd))
    none)))
    (bi (Decidable.decide (r4.snd.snd.snd.fst < Go.IntKind.i64.wrap (r4.snd.snd.snd.snd.fst - r4.snd.snd.snd.snd.snd.fst)))
    (bi (Decidable.decide (Go.IntKind.i64.wrap (r4.snd.snd.snd.snd.fst - r4.snd.snd.snd.snd.snd.fst) < r4.snd.snd.fst))
    ((slices_symMergeCmpFunc_money_share__r K k (r4.snd.snd.snd.snd.snd.snd) (r4.snd.snd.snd.fst) (Go.IntKind.i64.wrap (r4.snd.snd.snd.snd.fst - r4.snd.snd.snd.snd.snd.fst)) (r4.snd.snd.fst)).bind fun r17 => (bi (Decidable.decide (List.length r17 = q0.length))
    (some r17)
    none))
    (bi (Decidable.decide (r4.snd.snd.snd.snd.snd.snd.length = q0.length))
    (some (r4.snd.snd.snd.snd.snd.snd))
    none))
    (bi (Decidable.decide (r4.snd.snd.snd.snd.snd.snd.length = q0.length))
    (some (r4.snd.snd.snd.snd.snd.snd))
    none)))))
    ((slices_symMergeCmpFunc_money_share__l33 K K x1 x2 x3
  (Go.IntKind.i64.wrap ((Go.IntKind.u64.wrap (Go.IntKind.i64.wrap (x1 + x3))).fdiv 2))
  (Go.IntKind.i64.wrap (Go.IntKind.i64.wrap ((Go.IntKind.u64.wrap (Go.IntKind.i64.wrap (x1 + x3))).fdiv 2) + x2)) x1 x2
  (Go.IntKind.i64.wrap
    (Go.IntKind.i64.wrap (Go.IntKind.i64.wrap ((Go.IntKind.u64.wrap (Go.IntKind.i64.wrap (x1 + x3))).fdiv 2) + x2) - 1))
  q0).bind fun r18 => (bi (Decidable.decide (r18.snd.snd.snd.snd.snd.fst < r18.snd.fst))
    (bi (Decidable.decide (r18.snd.fst < Go.IntKind.i64.wrap (r18.snd.snd.snd.snd.fst - r18.snd.snd.snd.snd.snd.fst)))
    ((slices_rotateCmpFunc_money_share_ K r18.snd.snd.snd.snd.snd.snd r18.snd.snd.snd.snd.snd.fst
  r18.snd.fst (Go.IntKind.i64.wrap (r18.snd.snd.snd.snd.fst - r18.snd.snd.snd.snd.snd.fst))).bind fun r19 => (bi (Decidable.decide (r18.fst < r18.snd.snd.snd.snd.snd.fst))
    (bi (Decidable.decide (r18.snd.snd.snd.snd.snd.fst < r18.snd.snd.snd.fst))
    ((slices_symMergeCmpFunc_money_share__r K k (r19) (r18.fst) (r18.snd.snd.snd.snd.snd.fst) (r18.snd.snd.snd.fst)).bind fun r20 => (bi (Decidable.decide (r18.snd.snd.snd.fst < Go.IntKind.i64.wrap (r18.snd.snd.snd.snd.fst - r18.snd.snd.snd.snd.snd.fst)))
    (bi (Decidable.decide (Go.IntKind.i64.wrap (r18.snd.snd.snd.snd.fst - r18.snd.snd.snd.snd.snd.fst) < r18.snd.snd.fst))
    ((slices_symMergeCmpFunc_money_share__r K k (r20) (r18.snd.snd.snd.fst) (Go.IntKind.i64.wrap (r18.snd.snd.snd.snd.fst - r18.snd.snd.snd.snd.snd.fst)) (r18.snd.snd.fst)).bind fun r21 => (bi (Decidable.decide (List.length r21 = q0.length))
    (some r21)
    none))
    (bi (Decidable.decide (List.length r20 = q0.length))
    (some r20)
    none))
    (bi (Decidable.decide (List.length r20 = q0.length))
    (some r20)
    none)))
    (bi (Decidable.decide (r18.snd.snd.snd.fst < Go.IntKind.i64.wrap (r18.snd.snd.snd.snd.fst - r18.snd.snd.snd.snd.snd.fst)))
    (bi (Decidable.decide (Go.IntKind.i64.wrap (r18.snd.snd.snd.snd.fst - r18.snd.snd.snd.snd.snd.fst) < r18.snd.snd.fst))
    ((slices_symMergeCmpFunc_money_share__r K k (r19) (r18.snd.snd.snd.fst) (Go.IntKind.i64.wrap (r18.snd.snd.snd.snd.fst - r18.snd.snd.snd.snd.snd.fst)) (r18.snd.snd.fst)).bind fun r22 => (bi (Decidable.decide (List.length r22 = q0.length))
    (some r22)
    none))
    (bi (Decidable.decide (List.length r19 = q0.length))
    (some r19)
    none))
    (bi (Decidable.decide (List.length r19 = q0.length))
    (some r19)
    none)))
    (bi (Decidable.decide (r18.snd.snd.snd.fst < Go.IntKind.i64.wrap (r18.snd.snd.snd.snd.fst - r18.snd.snd.snd.snd.snd.fst)))
    (bi (Decidable.decide (Go.IntKind.i64.wrap (r18.snd.snd.snd.snd.fst - r18.snd.snd.snd.snd.snd.fst) < r18.snd.snd.fst))
    ((slices_symMergeCmpFunc_money_share__r K k (r19) (r18.snd.snd.snd.fst) (Go.IntKind.i64.wrap (r18.snd.snd.snd.snd.fst - r18.snd.snd.snd.snd.snd.fst)) (r18.snd.snd.fst)).bind fun r23 => (bi (Decidable.decide (List.length r23 = q0.length))
    (some r23)
    none))
    (bi (Decidable.decide (List.length r19 = q0.length))
    (some r19)
    none))
    (bi (Decidable.decide (List.length r19 = q0.length))
    (some r19)
    none))))
    (bi (Decidable.decide (r18.fst < r18.snd.snd.snd.snd.snd.fst))
    (bi (Decidable.decide (r18.snd.snd.snd.snd.snd.fst < r18.snd.snd.snd.fst))
    ((slices_symMergeCmpFunc_money_share__r K k (r18.snd.snd.snd.snd.snd.snd) (r18.fst) (r18.snd.snd.snd.snd.snd.fst) (r18.snd.snd.snd.fst)).bind fun r24 => (bi (Decidable.decide (r18.snd.snd.snd.fst < Go.IntKind.i64.wrap (r18.snd.snd.snd.snd.fst - r18.snd.snd.snd.snd.snd.fst)))
    (bi (Decidable.decide (Go.IntKind.i64.wrap (r18.snd.snd.snd.snd.fst - r18.snd.snd.snd.snd.snd.fst) < r18.snd.snd.fst))
    ((slices_symMergeCmpFunc_money_share__r K k (r24) (r18.snd.snd.snd.fst) (Go.IntKind.i64.wrap (r18.snd.snd.snd.snd.fst - r18.snd.snd.snd.snd.snd.fst)) (r18.snd.snd.fst)).bind fun r25 => (bi (Decidable.decide (List.length r25 = q0.length))
    (some r25)
    none))
    (bi (Decidable.decide (List.length r24 = q0.length))
    (some r24)
    none))
    (bi (Decidable.decide (List.length r24 = q0.length))
    (some r24)
    none)))
    (bi (Decidable.decide (r18.snd.snd.snd.fst < Go.IntKind.i64.wrap (r18.snd.snd.snd.snd.fst - r18.snd.snd.snd.snd.snd.fst)))
    (bi (Decidable.decide (Go.IntKind.i64.wrap (r18.snd.snd.snd.snd.fst - r18.snd.snd.snd.snd.snd.fst) < r18.snd.snd.fst))
    ((slices_symMergeCmpFunc_money_share__r K k (r18.snd.snd.snd.snd.snd.snd) (r18.snd.snd.snd.fst) (Go.IntKind.i64.wrap (r18.snd.snd.snd.snd.fst - r18.snd.snd.snd.snd.snd.fst)) (r18.snd.snd.fst)).bind fun r26 => (bi (Decidable.decide (List.length r26 = q0.length))
    (some r26)
    none))
    (bi (Decidable.decide (r18.snd.snd.snd.snd.snd.snd.length = q0.length))
    (some (r18.snd.snd.snd.snd.snd.snd))
    none))
    (bi (Decidable.decide (r18.snd.snd.snd.snd.snd.snd.length = q0.length))
    (some (r18.snd.snd.snd.snd.snd.snd))
    none)))
    (bi (Decidable.decide (r18.snd.snd.snd.fst < Go.IntKind.i64.wrap (r18.snd.snd.snd.snd.fst - r18.snd.snd.snd.snd.snd.fst)))
    (bi (Decidable.decide (Go.IntKind.i64.wrap (r18.snd.snd.snd.snd.fst - r18.snd.snd.snd.snd.snd.fst) < r18.snd.snd.fst))
    ((slices_symMergeCmpFunc_money_share__r K k (r18.snd.snd.snd.snd.snd.snd) (r18.snd.snd.snd.fst) (Go.IntKind.i64.wrap (r18.snd.snd.snd.snd.fst - r18.snd.snd.snd.snd.snd.fst)) (r18.snd.snd.fst)).bind fun r27 => (bi (Decidable.decide (List.length r27 = q0.length))
    (some r27)
    none))
    (bi (Decidable.decide (r18.snd.snd.snd.snd.snd.snd.length = q0.length))
    (some (r18.snd.snd.snd.snd.snd.snd))
    none))
    (bi (Decidable.decide (r18.snd.snd.snd.snd.snd.snd.length = q0.length))
    (some (r18.snd.snd.snd.snd.snd.snd))
    none))))
    (bi (Decidable.decide (r18.fst < r18.snd.snd.snd.snd.snd.fst))
    (bi (Decidable.decide (r18.snd.snd.snd.snd.snd.fst < r18.snd.snd.snd.fst))
    ((slices_symMergeCmpFunc_money_share__r K k (r18.snd.snd.snd.snd.snd.snd) (r18.fst) (r18.snd.snd.snd.snd.snd.fst) (r18.snd.snd.snd.fst)).bind fun r28 => (bi (Decidable.decide (r18.snd.snd.snd.fst < Go.IntKind.i64.wrap (r18.snd.snd.snd.snd.fst - r18.snd.snd.snd.snd.snd.fst)))
    (bi (Decidable.decide (Go.IntKind.i64.wrap (r18.snd.snd.snd.snd.fst - r18.snd.snd.snd.snd.snd.fst) < r18.snd.snd.fst))
    ((slices_symMergeCmpFunc_money_share__r K k (r28) (r18.snd.snd.snd.fst) (Go.IntKind.i64.wrap (r18.snd.snd.snd.snd.fst - r18.snd.snd.snd.snd.snd.fst)) (r18.snd.snd.fst)).bind fun r29 => (bi (Decidable.decide (List.length r29 = q0.length))
    (some r29)
    none))
    (bi (Decidable.decide (List.length r28 = q0.length))
    (some r28)
    none))
    (bi (Decidable.decide (List.length r28 = q0.length))
    (some r28)
    none)))
    (bi (Decidable.decide (r18.snd.snd.snd.fst < Go.IntKind.i64.wrap (r18.snd.snd.snd.snd.fst - r18.snd.snd.snd.snd.snd.fst)))
    (bi (Decidable.decide (Go.IntKind.i64.wrap (r18.snd.snd.snd.snd.fst - r18.snd.snd.snd.snd.snd.fst) < r18.snd.snd.fst))
    ((slices_symMergeCmpFunc_money_share__r K k (r18.snd.snd.snd.snd.snd.snd) (r18.snd.snd.snd.fst) (Go.IntKind.i64.wrap (r18.snd.snd.snd.snd.fst - r18.snd.snd.snd.snd.snd.fst)) (r18.snd.snd.fst)).bind fun r30 => (bi (Decidable.decide (List.length r30 = q0.length))
    (some r30)
    none))
    (bi (Decidable.decide (r18.snd.snd.snd.snd.snd.snd.length = q0.length))
    (some (r18.snd.snd.snd.snd.snd.snd))
    none))
    (bi (Decidable.decide (r18.snd.snd.snd.snd.snd.snd.length = q0.length))
    (some (r18.snd.snd.snd.snd.snd.snd))
    none)))
    (bi (Decidable.decide (r18.snd.snd.snd.fst < Go.IntKind.i64.wrap (r18.snd.snd.snd.snd.fst - r18.snd.snd.snd.snd.snd.fst)))
    (bi (Decidable.decide (Go.IntKind.i64.wrap (r18.snd.snd.snd.snd.fst - r18.snd.snd.snd.snd.snd.fst) < r18.snd.snd.fst))
    ((slices_symMergeCmpFunc_money_share__r K k (r18.snd.snd.snd.snd.snd.snd) (r18.snd.snd.snd.fst) (Go.IntKind.i64.wrap (r18.snd.snd.snd.snd.fst - r18.snd.snd.snd.snd.snd.fst)) (r18.snd.snd.fst)).bind fun r31 => (bi (Decidable.decide (List.length r31 = q0.length))
    (some r31)
    none))
    (bi (Decidable.decide (r18.snd.snd.snd.snd.snd.snd.length = q0.length))
    (some (r18.snd.snd.snd.snd.snd.snd))
    none))
    (bi (Decidable.decide (r18.snd.snd.snd.snd.snd.snd.length = q0.length))
    (some (r18.snd.snd.snd.snd.snd.snd))
    none))))))))
def slices_symMergeCmpFunc_money_share__rw (K k : Nat) : List U → Option (List (List Int)) := fun us => match us with | [.rr q0, .i x1, .i x2, .i x3, .n] => slices_symMergeCmpFunc_money_share__r K k q0 x1 x2 x3 | _ => none
def slices_symMergeCmpFunc_money_share__rs (K k : Nat) : Vm.Spec := ⟨[.one (.recs [.i64, .u64, .i64] true), .one (.int .i64), .one (.int .i64), .one (.int .i64), .one (.fn 34)], [], List (List Int), slices_symMergeCmpFunc_money_share__rw K k, slices_symMergeCmpFunc_money_share__enc⟩
def slices_symMergeCmpFunc_money_share_ (K : Nat) (q0 : List (List Int)) (x1 : Int) (x2 : Int) (x3 : Int) : Option (List (List Int)) := slices_symMergeCmpFunc_money_share__r K K q0 x1 x2 x3
theorem slices_symMergeCmpFunc_money_share__eq (K k : Nat) (q0 : List (List Int)) (x1 : Int) (x2 : Int) (x3 : Int) : (runF Go.Proofs.Try.prog (addS (env_slices_rotateCmpFunc_money_share_ K) 80 (slices_symMergeCmpFunc_money_share__rs K k)) (slices_symMergeCmpFunc_money_share__v3 K) Go.Proofs.Try.f80 [.one (.recs [.i64, .u64, .i64] true), .one (.int .i64), .one (.int .i64), .one (.int .i64), .one (.fn 34)] [] slices_symMergeCmpFunc_money_share__dec [.rr q0, .i x1, .i x2, .i x3, .n]).den2 = slices_symMergeCmpFunc_money_share__r K (k + 1) q0 x1 x2 x3 := by kernel_rfl
def slices_symMergeCmpFunc_money_share__spec (K : Nat) : Vm.Spec := slices_symMergeCmpFunc_money_share__rs K K
theorem slices_symMergeCmpFunc_money_share__okr (K : Nat) : ∀ k, FnOk Go.Proofs.Try.prog 80 (slices_symMergeCmpFunc_money_share__rs K k)
  | 0 => fun us r h => by unfold slices_symMergeCmpFunc_money_share__rs slices_symMergeCmpFunc_money_share__rw at h; simp only at h; split at h <;> first | (cases h; done) | (simp only [slices_symMergeCmpFunc_money_share__r] at h; cases h)
  | k + 1 => fn_ok' hmix (addS_ok (f := 80) (env_slices_rotateCmpFunc_money_share__ok K) (.inl ⟨callable Go.Proofs.Try.func80 (by kernel_rfl) (by kernel_rfl), slices_symMergeCmpFunc_money_share__okr K k⟩)) (lenv := slices_symMergeCmpFunc_money_share__v3 K) (args := [.one (.recs [.i64, .u64, .i64] true), .one (.int .i64), .one (.int .i64), .one (.int .i64), .one (.fn 34)]) (res := []) (G := slices_symMergeCmpFunc_money_share__rw K (k + 1)) (enc := slices_symMergeCmpFunc_money_share__enc) Go.Proofs.Try.func80 (lps_fn (l := [lp (bodyOf Go.Proofs.Try.f80) 0, lp (bodyOf Go.Proofs.Try.f80) 1, lp (bodyOf Go.Proofs.Try.f80) 2, lp (bodyOf Go.Proofs.Try.f80) 3, lp (bodyOf Go.Proofs.Try.f80) 4]) (by kernel_rfl) ⟨⟨3, slices_symMergeCmpFunc_money_share__l3_s K, by kernel_rfl, by kernel_rfl, slices_symMergeCmpFunc_money_share__l3_ok K⟩, ⟨⟨9, slices_symMergeCmpFunc_money_share__l9_s K, by kernel_rfl, by kernel_rfl, slices_symMergeCmpFunc_money_share__l9_ok K⟩, ⟨⟨15, slices_symMergeCmpFunc_money_share__l15_s K, by kernel_rfl, by kernel_rfl, slices_symMergeCmpFunc_money_share__l15_ok K⟩, ⟨⟨21, slices_symMergeCmpFunc_money_share__l21_s K, by kernel_rfl, by kernel_rfl, slices_symMergeCmpFunc_money_share__l21_ok K⟩, ⟨⟨33, slices_symMergeCmpFunc_money_share__l33_s K, by kernel_rfl, by kernel_rfl, slices_symMergeCmpFunc_money_share__l33_ok K⟩, trivial⟩⟩⟩⟩⟩) (dec := slices_symMergeCmpFunc_money_share__dec) (fun u r h => by unfold slices_symMergeCmpFunc_money_share__dec at h; split at h; (obtain rfl := Option.some.inj h; rfl); cases h) (fun us r h => by unfold slices_symMergeCmpFunc_money_share__rw at h; split at h; exact ((den2_eq _).symm.trans (slices_symMergeCmpFunc_money_share__eq K k _ _ _ _)).trans h; cases h)
theorem slices_symMergeCmpFunc_money_share__ok (K : Nat) : FnOk Go.Proofs.Try.prog 80 (slices_symMergeCmpFunc_money_share__spec K) := slices_symMergeCmpFunc_money_share__okr K K
def env_slices_symMergeCmpFunc_money_share_ (K : Nat) : FuncId → Option Vm.Spec := addS (env_slices_rotateCmpFunc_money_share_ K) 80 (slices_symMergeCmpFunc_money_share__spec K)
theorem env_slices_symMergeCmpFunc_money_share__ok (K : Nat) : EnvOk Go.Proofs.Try.prog (env_slices_symMergeCmpFunc_money_share_ K) := addS_ok (env_slices_rotateCmpFunc_money_share__ok K) (.inl ⟨callable Go.Proofs.Try.func80 (by kernel_rfl) (by kernel_rfl), slices_symMergeCmpFunc_money_share__ok K⟩)
-- slices.stableCmpFunc[passbook/money.share]
def slices_stableCmpFunc_money_share__l9_pre : Vm.Pat := ⟨63, [(1, .pv (.one (.int .i64))), (2, .pv (.one (.fn 34))), (6, .pv (.one (.int .i64))), (7, .pv (.one (.int .i64))), (8, .pv (.one (.int .i64))), (0, .slf 0)], [.recs [.i64, .u64, .i64]], [0]⟩
def slices_stableCmpFunc_money_share__l9_post0 : Vm.Pat := ⟨63, [(1, .pv (.one (.int .i64))), (2, .pv (.one (.fn 34))), (6, .pv (.one (.int .i64))), (7, .pv (.one (.int .i64))), (0, .slf 0)], [.recs [.i64, .u64, .i64]], [0]⟩
def slices_stableCmpFunc_money_share__l9_enc0 : Int × Int × Int × List (List Int) → List U := fun r => [.i r.1, .n, .i r.2.1, .i r.2.2.1, .rr r.2.2.2]
def slices_stableCmpFunc_money_share__l9_dec0 : List U → Option (Int × Int × Int × List (List Int)) := fun u => match u with | [.i x1, .n, .i x6, .i x7, .rr q0] => some (x1, x6, x7, q0) | _ => none
def slices_stableCmpFunc_money_share__l9 (K : Nat) : Nat → Int → Int → Int → Int → List (List Int) → Option (Int × Int × Int × List (List Int))
  | 0, _, _, _, _, _ => none
  | k + 1, x1, x6, x7, x8, q0 => (bi (Decidable.decide (x8 ≤ x1))
    ((slices_symMergeCmpFunc_money_share__r K K q0 x7 (Go.IntKind.i64.wrap (x7 + x6)) x8).bind fun r0 => (slices_stableCmpFunc_money_share__l9 K k (x1) (x6) (x8) (Go.IntKind.i64.wrap (x8 + Go.IntKind.i64.wrap (2 * x6))) (r0)))
    (some ((x1, x6, x7, q0))))
def slices_stableCmpFunc_money_share__l9_w (K k : Nat) : List U → Option (Int × Int × Int × List (List Int)) := fun us => match us with | [.i x1, .n, .i x6, .i x7, .i x8, .rr q0] => slices_stableCmpFunc_money_share__l9 K k x1 x6 x7 x8 q0 | _ => none
theorem slices_stableCmpFunc_money_share__l9_eq (K k : Nat) (x1 : Int) (x6 : Int) (x7 : Int) (x8 : Int) (q0 : List (List Int)) : (round1 Go.Proofs.Try.prog (env_slices_symMergeCmpFunc_money_share_ K) (lenv0) (lp (lp (bodyOf Go.Proofs.Try.f64) 1) 0) slices_stableCmpFunc_money_share__l9_pre (.exit 4) slices_stableCmpFunc_money_share__l9_post0 slices_stableCmpFunc_money_share__l9_dec0 (slices_stableCmpFunc_money_share__l9_w K k) [.i x1, .n, .i x6, .i x7, .i x8, .rr q0]).den2 = slices_stableCmpFunc_money_share__l9 K (k + 1) x1 x6 x7 x8 q0 := by kernel_rfl
def slices_stableCmpFunc_money_share__l9_s (K : Nat) : Vm.LS := .one slices_stableCmpFunc_money_share__l9_pre _ (.exit 4) slices_stableCmpFunc_money_share__l9_post0 (slices_stableCmpFunc_money_share__l9_w K K) slices_stableCmpFunc_money_share__l9_enc0
theorem slices_stableCmpFunc_money_share__l9_ok (K : Nat) : LoopOk Go.Proofs.Try.prog (lp (lp (bodyOf Go.Proofs.Try.f64) 1) 0) (slices_stableCmpFunc_money_share__l9_s K) := loop_one hmix (env_slices_symMergeCmpFunc_money_share__ok K) (lenv := lenv0) (L := slices_stableCmpFunc_money_share__l9_w K) (enc := slices_stableCmpFunc_money_share__l9_enc0) (dec := slices_stableCmpFunc_money_share__l9_dec0) (lps_ok (l := []) (by kernel_rfl) trivial) (fun u r h => by unfold slices_stableCmpFunc_money_share__l9_dec0 at h; split at h; (obtain rfl := Option.some.inj h; rfl); cases h) (fun us => by unfold slices_stableCmpFunc_money_share__l9_w; split <;> first | rfl | (simp only [slices_stableCmpFunc_money_share__l9])) (fun k us r h => by unfold slices_stableCmpFunc_money_share__l9_w at h; split at h; exact ((den2_eq _).symm.trans (slices_stableCmpFunc_money_share__l9_eq K k _ _ _ _ _)).trans h; cases h) K
def slices_stableCmpFunc_money_share__v9 (K : Nat) : Nat → Option Vm.LS := addL (lenv0) 9 (slices_stableCmpFunc_money_share__l9_s K)
def slices_stableCmpFunc_money_share__l7_pre : Vm.Pat := ⟨63, [(1, .pv (.one (.int .i64))), (2, .pv (.one (.fn 34))), (6, .pv (.one (.int .i64))), (0, .slf 0)], [.recs [.i64, .u64, .i64]], [0]⟩
def slices_stableCmpFunc_money_share__l7_post0 : Vm.Pat := ⟨63, [(0, .slf 0)], [.recs [.i64, .u64, .i64]], [0]⟩
def slices_stableCmpFunc_money_share__l7_enc0 : List (List Int) → List U := fun r => [.rr r]
def slices_stableCmpFunc_money_share__l7_dec0 : List U → Option (List (List Int)) := fun u => match u with | [.rr q0] => some (q0) | _ => none
def slices_stableCmpFunc_money_share__l7 (K : Nat) : Nat → Int → Int → List (List Int) → Option (List (List Int))
  | 0, _, _, _ => none
  | k + 1, x1, x6, q0 => (bi (Decidable.decide (x6 < x1))
    ((slices_stableCmpFunc_money_share__l9 K K x1 x6 0 (Go.IntKind.i64.wrap (2 * x6)) q0).bind fun r0 => (bi (Decidable.decide (Go.IntKind.i64.wrap (r0.snd.snd.fst + r0.snd.fst) < r0.fst))
    ((slices_symMergeCmpFunc_money_share__r K K r0.snd.snd.snd r0.snd.snd.fst
  (Go.IntKind.i64.wrap (r0.snd.snd.fst + r0.snd.fst)) r0.fst).bind fun r1 => (slices_stableCmpFunc_money_share__l7 K k (r0.fst) (Go.IntKind.i64.wrap (r0.snd.fst * 2)) (r1)))
    (slices_stableCmpFunc_money_share__l7 K k (r0.fst) (Go.IntKind.i64.wrap (r0.snd.fst * 2)) (r0.snd.snd.snd))))
    (some q0))
def slices_stableCmpFunc_money_share__l7_w (K k : Nat) : List U → Option (List (List Int)) := fun us => match us with | [.i x1, .n, .i x6, .rr q0] => slices_stableCmpFunc_money_share__l7 K k x1 x6 q0 | _ => none
theorem slices_stableCmpFunc_money_share__l7_eq (K k : Nat) (x1 : Int) (x6 : Int) (q0 : List (List Int)) : (round1 Go.Proofs.Try.prog (env_slices_symMergeCmpFunc_money_share_ K) (slices_stableCmpFunc_money_share__v9 K) (lp (bodyOf Go.Proofs.Try.f64) 1) slices_stableCmpFunc_money_share__l7_pre (.exit 2) slices_stableCmpFunc_money_share__l7_post0 slices_stableCmpFunc_money_share__l7_dec0 (slices_stableCmpFunc_money_share__l7_w K k) [.i x1, .n, .i x6, .rr q0]).den2 = slices_stableCmpFunc_money_share__l7 K (k + 1) x1 x6 q0 := by kernel_rfl
def slices_stableCmpFunc_money_share__l7_s (K : Nat) : Vm.LS := .one slices_stableCmpFunc_money_share__l7_pre _ (.exit 2) slices_stableCmpFunc_money_share__l7_post0 (slices_stableCmpFunc_money_share__l7_w K K) slices_stableCmpFunc_money_share__l7_enc0
theorem slices_stableCmpFunc_money_share__l7_ok (K : Nat) : LoopOk Go.Proofs.Try.prog (lp (bodyOf Go.Proofs.Try.f64) 1) (slices_stableCmpFunc_money_share__l7_s K) := loop_one hmix (env_slices_symMergeCmpFunc_money_share__ok K) (lenv := slices_stableCmpFunc_money_share__v9 K) (L := slices_stableCmpFunc_money_share__l7_w K) (enc := slices_stableCmpFunc_money_share__l7_enc0) (dec := slices_stableCmpFunc_money_share__l7_dec0) (lps_ok (l := [lp (lp (bodyOf Go.Proofs.Try.f64) 1) 0]) (by kernel_rfl) ⟨⟨9, slices_stableCmpFunc_money_share__l9_s K, by kernel_rfl, by kernel_rfl, slices_stableCmpFunc_money_share__l9_ok K⟩, trivial⟩) (fun u r h => by unfold slices_stableCmpFunc_money_share__l7_dec0 at h; split at h; (obtain rfl := Option.some.inj h; rfl); cases h) (fun us => by unfold slices_stableCmpFunc_money_share__l7_w; split <;> first | rfl | (simp only [slices_stableCmpFunc_money_share__l7])) (fun k us r h => by unfold slices_stableCmpFunc_money_share__l7_w at h; split at h; exact ((den2_eq _).symm.trans (slices_stableCmpFunc_money_share__l7_eq K k _ _ _)).trans h; cases h) K
def slices_stableCmpFunc_money_share__v7 (K : Nat) : Nat → Option Vm.LS := addL (slices_stableCmpFunc_money_share__v9 K) 7 (slices_stableCmpFunc_money_share__l7_s K)
def slices_stableCmpFunc_money_share__l2_pre : Vm.Pat := ⟨63, [(1, .pv (.one (.int .i64))), (2, .pv (.one (.fn 34))), (6, .pv (.one (.int .i64))), (7, .pv (.one (.int .i64))), (8, .pv (.one (.int .i64))), (0, .slf 0)], [.recs [.i64, .u64, .i64]], [0]⟩
def slices_stableCmpFunc_money_share__l2_post0 : Vm.Pat := ⟨63, [(1, .pv (.one (.int .i64))), (2, .pv (.one (.fn 34))), (6, .pv (.one (.int .i64))), (7, .pv (.one (.int .i64))), (0, .slf 0)], [.recs [.i64, .u64, .i64]], [0]⟩
def slices_stableCmpFunc_money_share__l2_enc0 : Int × Int × Int × List (List Int) → List U := fun r => [.i r.1, .n, .i r.2.1, .i r.2.2.1, .rr r.2.2.2]
def slices_stableCmpFunc_money_share__l2_dec0 : List U → Option (Int × Int × Int × List (List Int)) := fun u => match u with | [.i x1, .n, .i x6, .i x7, .rr q0] => some (x1, x6, x7, q0) | _ => none
def slices_stableCmpFunc_money_share__l2 (K : Nat) : Nat → Int → Int → Int → Int → List (List Int) → Option (Int × Int × Int × List (List Int))
  | 0, _, _, _, _, _ => none
  | k + 1, x1, x6, x7, x8, q0 => (bi (Decidable.decide (x8 ≤ x1))
    ((slices_insertionSortCmpFunc_money_share_ K q0 x7 x8).bind fun r0 => (slices_stableCmpFunc_money_share__l2 K k (x1) (x6) (x8) (Go.IntKind.i64.wrap (x8 + x6)) (r0)))
    (some ((x1, x6, x7, q0))))
def slices_stableCmpFunc_money_share__l2_w (K k : Nat) : List U → Option (Int × Int × Int × List (List Int)) := fun us => match us with | [.i x1, .n, .i x6, .i x7, .i x8, .rr q0] => slices_stableCmpFunc_money_share__l2 K k x1 x6 x7 x8 q0 | _ => none
theorem slices_stableCmpFunc_money_share__l2_eq (K k : Nat) (x1 : Int) (x6 : Int) (x7 : Int) (x8 : Int) (q0 : List (List Int)) : (round1 Go.Proofs.Try.prog (env_slices_symMergeCmpFunc_money_share_ K) (slices_stableCmpFunc_money_share__v7 K) (lp (bodyOf Go.Proofs.Try.f64) 0) slices_stableCmpFunc_money_share__l2_pre (.exit 0) slices_stableCmpFunc_money_share__l2_post0 slices_stableCmpFunc_money_share__l2_dec0 (slices_stableCmpFunc_money_share__l2_w K k) [.i x1, .n, .i x6, .i x7, .i x8, .rr q0]).den2 = slices_stableCmpFunc_money_share__l2 K (k + 1) x1 x6 x7 x8 q0 := by kernel_rfl
def slices_stableCmpFunc_money_share__l2_s (K : Nat) : Vm.LS := .one slices_stableCmpFunc_money_share__l2_pre _ (.exit 0) slices_stableCmpFunc_money_share__l2_post0 (slices_stableCmpFunc_money_share__l2_w K K) slices_stableCmpFunc_money_share__l2_enc0
theorem slices_stableCmpFunc_money_share__l2_ok (K : Nat) : LoopOk Go.Proofs.Try.prog (lp (bodyOf Go.Proofs.Try.f64) 0) (slices_stableCmpFunc_money_share__l2_s K) := loop_one hmix (env_slices_symMergeCmpFunc_money_share__ok K) (lenv := slices_stableCmpFunc_money_share__v7 K) (L := slices_stableCmpFunc_money_share__l2_w K) (enc := slices_stableCmpFunc_money_share__l2_enc0) (dec := slices_stableCmpFunc_money_share__l2_dec0) (lps_ok (l := []) (by kernel_rfl) trivial) (fun u r h => by unfold slices_stableCmpFunc_money_share__l2_dec0 at h; split at h; (obtain rfl := Option.some.inj h; rfl); cases h) (fun us => by unfold slices_stableCmpFunc_money_share__l2_w; split <;> first | rfl | (simp only [slices_stableCmpFunc_money_share__l2])) (fun k us r h => by unfold slices_stableCmpFunc_money_share__l2_w at h; split at h; exact ((den2_eq _).symm.trans (slices_stableCmpFunc_money_share__l2_eq K k _ _ _ _ _)).trans h; cases h) K
def slices_stableCmpFunc_money_share__v2 (K : Nat) : Nat → Option Vm.LS := addL (slices_stableCmpFunc_money_share__v7 K) 2 (slices_stableCmpFunc_money_share__l2_s K)
def slices_stableCmpFunc_money_share__dec : List U → Option (List (List Int)) := fun u => match u with | [.rr q0] => some (q0) | _ => none
def slices_stableCmpFunc_money_share__enc : (List (List Int)) → List U := fun r => [.rr r]
def slices_stableCmpFunc_money_share_ (K : Nat) (q0 : List (List Int)) (x1 : Int) : Option (List (List Int)) := ((slices_stableCmpFunc_money_share__l2 K K x1 20 0 20 q0).bind fun r0 => ((slices_insertionSortCmpFunc_money_share_ K r0.snd.snd.snd r0.snd.snd.fst r0.fst).bind fun r1 => ((slices_stableCmpFunc_money_share__l7 K K r0.fst r0.snd.fst r1).bind fun r2 => (bi (Decidable.decide (r2.length = q0.length))
    (some r2)
    none))))
theorem slices_stableCmpFunc_money_share__eq (K : Nat) (q0 : List (List Int)) (x1 : Int) : (runF Go.Proofs.Try.prog (env_slices_symMergeCmpFunc_money_share_ K) (slices_stableCmpFunc_money_share__v2 K) Go.Proofs.Try.f64 [.one (.recs [.i64, .u64, .i64] true), .one (.int .i64), .one (.fn 34)] [] slices_stableCmpFunc_money_share__dec [.rr q0, .i x1, .n]).den2 = slices_stableCmpFunc_money_share_ K q0 x1 := by kernel_rfl
def slices_stableCmpFunc_money_share__w (K : Nat) : List U → Option (List (List Int)) := fun us => match us with | [.rr q0, .i x1, .n] => slices_stableCmpFunc_money_share_ K q0 x1 | _ => none
def slices_stableCmpFunc_money_share__spec (K : Nat) : Vm.Spec := ⟨[.one (.recs [.i64, .u64, .i64] true), .one (.int .i64), .one (.fn 34)], [], List (List Int), slices_stableCmpFunc_money_share__w K, slices_stableCmpFunc_money_share__enc⟩
theorem slices_stableCmpFunc_money_share__ok (K : Nat) : FnOk Go.Proofs.Try.prog 64 (slices_stableCmpFunc_money_share__spec K) := fn_ok' hmix (env_slices_symMergeCmpFunc_money_share__ok K) (lenv := slices_stableCmpFunc_money_share__v2 K) (args := [.one (.recs [.i64, .u64, .i64] true), .one (.int .i64), .one (.fn 34)]) (res := []) (G := slices_stableCmpFunc_money_share__w K) (enc := slices_stableCmpFunc_money_share__enc) Go.Proofs.Try.func64 (lps_fn (l := [lp (bodyOf Go.Proofs.Try.f64) 0, lp (bodyOf Go.Proofs.Try.f64) 1]) (by kernel_rfl) ⟨⟨2, slices_stableCmpFunc_money_share__l2_s K, by kernel_rfl, by kernel_rfl, slices_stableCmpFunc_money_share__l2_ok K⟩, ⟨⟨7, slices_stableCmpFunc_money_share__l7_s K, by kernel_rfl, by kernel_rfl, slices_stableCmpFunc_money_share__l7_ok K⟩, trivial⟩⟩) (dec := slices_stableCmpFunc_money_share__dec) (fun u r h => by unfold slices_stableCmpFunc_money_share__dec at h; split at h; (obtain rfl := Option.some.inj h; rfl); cases h) (fun us r h => by unfold slices_stableCmpFunc_money_share__w at h; split at h; exact ((den2_eq _).symm.trans (slices_stableCmpFunc_money_share__eq K _ _)).trans h; cases h)
def env_slices_stableCmpFunc_money_share_ (K : Nat) : FuncId → Option Vm.Spec := addS (env_slices_symMergeCmpFunc_money_share_ K) 64 (slices_stableCmpFunc_money_share__spec K)
theorem env_slices_stableCmpFunc_money_share__ok (K : Nat) : EnvOk Go.Proofs.Try.prog (env_slices_stableCmpFunc_money_share_ K) := addS_ok (env_slices_symMergeCmpFunc_money_share__ok K) (.inl ⟨callable Go.Proofs.Try.func64 (by kernel_rfl) (by kernel_rfl), slices_stableCmpFunc_money_share__ok K⟩)
-- slices.SortStableFunc[[]passbook/money.share,passbook/money.share]
def slices_SortStableFunc___money_share_money_share__dec : List U → Option (List (List Int)) := fun u => match u with | [.rr q0] => some (q0) | _ => none
def slices_SortStableFunc___money_share_money_share__enc : (List (List Int)) → List U := fun r => [.rr r]
def slices_SortStableFunc___money_share_money_share_ (K : Nat) (q0 : List (List Int)) : Option (List (List Int)) := ((slices_stableCmpFunc_money_share_ K q0 (↑q0.length : Int)).bind fun r0 => (bi (Decidable.decide (List.length r0 = q0.length))
    (some r0)
    none))
theorem slices_SortStableFunc___money_share_money_share__eq (K : Nat) (q0 : List (List Int)) : (runF Go.Proofs.Try.prog (env_slices_stableCmpFunc_money_share_ K) (lenv0) Go.Proofs.Try.f33 [.one (.recs [.i64, .u64, .i64] true), .one (.fn 34)] [] slices_SortStableFunc___money_share_money_share__dec [.rr q0, .n]).den2 = slices_SortStableFunc___money_share_money_share_ K q0 := by kernel_rfl
def slices_SortStableFunc___money_share_money_share__w (K : Nat) : List U → Option (List (List Int)) := fun us => match us with | [.rr q0, .n] => slices_SortStableFunc___money_share_money_share_ K q0 | _ => none
def slices_SortStableFunc___money_share_money_share__spec (K : Nat) : Vm.Spec := ⟨[.one (.recs [.i64, .u64, .i64] true), .one (.fn 34)], [], List (List Int), slices_SortStableFunc___money_share_money_share__w K, slices_SortStableFunc___money_share_money_share__enc⟩
theorem slices_SortStableFunc___money_share_money_share__ok (K : Nat) : FnOk Go.Proofs.Try.prog 33 (slices_SortStableFunc___money_share_money_share__spec K) := fn_ok' hmix (env_slices_stableCmpFunc_money_share__ok K) (lenv := lenv0) (args := [.one (.recs [.i64, .u64, .i64] true), .one (.fn 34)]) (res := []) (G := slices_SortStableFunc___money_share_money_share__w K) (enc := slices_SortStableFunc___money_share_money_share__enc) Go.Proofs.Try.func33 (lps_fn (l := []) (by kernel_rfl) trivial) (dec := slices_SortStableFunc___money_share_money_share__dec) (fun u r h => by unfold slices_SortStableFunc___money_share_money_share__dec at h; split at h; (obtain rfl := Option.some.inj h; rfl); cases h) (fun us r h => by unfold slices_SortStableFunc___money_share_money_share__w at h; split at h; exact ((den2_eq _).symm.trans (slices_SortStableFunc___money_share_money_share__eq K _)).trans h; cases h)
def env_slices_SortStableFunc___money_share_money_share_ (K : Nat) : FuncId → Option Vm.Spec := addS (env_slices_stableCmpFunc_money_share_ K) 33 (slices_SortStableFunc___money_share_money_share__spec K)
theorem env_slices_SortStableFunc___money_share_money_share__ok (K : Nat) : EnvOk Go.Proofs.Try.prog (env_slices_SortStableFunc___money_share_money_share_ K) := addS_ok (env_slices_stableCmpFunc_money_share__ok K) (.inl ⟨callable Go.Proofs.Try.func33 (by kernel_rfl) (by kernel_rfl), slices_SortStableFunc___money_share_money_share__ok K⟩)
-- passbook/money.Split
def money_Split_l31_pre : Vm.Pat := ⟨137, [(10, .pv (.one (.int .i64))), (18, .pv (.one (.recs [.i64, .i64] true))), (105, .pv (.one (.recs [.i64, .u64, .i64] false))), (106, .pv (.one (.int .i64))), (107, .pv (.one (.int .i64))), (2, .box 0 0)], [.cells [.int .i64, .int .i64]], []⟩
def money_Split_l31_post0 : Vm.Pat := ⟨137, [(18, .pv (.one (.recs [.i64, .i64] true)))], [], []⟩
def money_Split_l31_enc0 : List (List Int) → List U := fun r => [.rr r]
def money_Split_l31_dec0 : List U → Option (List (List Int)) := fun u => match u with | [.rr q18] => some (q18) | _ => none
def money_Split_l31 (K : Nat) : Nat → Int → List (List Int) → List (List Int) → Int → Int → Int → Int → Option (List (List Int))
  | 0, _, _, _, _, _, _, _ => none
  | k + 1, x10, q18, q105, x106, x107, x2_0, x2_1 => (bi (Decidable.decide (x107 < x106))
    (bi (Decidable.decide (0 ≤ x107) && Decidable.decide (x107 < (↑q105.length : Int)))
    (bi (Decidable.decide (x107 < x10))
    (bi (Decidable.decide (x2_1 < 0))
    (bi (Decidable.decide (0 ≤ nth 0 (nth [] q105 x107.toNat) 0) &&
  Decidable.decide
    (nth 0 (nth [] q105 x107.toNat) 0 < (↑q18.length : Int)))
    (money_Split_l31 K k (x10) (q18.set (nth 0 (nth [] q105 x107.toNat) 0).toNat
  [x2_0,
    Go.IntKind.i64.wrap
      (0 -
        Go.IntKind.i64.wrap
          (nth 0 (nth [] q105 x107.toNat) 2 + 1))]) (q105) (x106) (Go.IntKind.i64.wrap (x107 + 1)) (x2_0) (x2_1))
    none)
    (bi (Decidable.decide (0 ≤ nth 0 (nth [] q105 x107.toNat) 0) &&
  Decidable.decide
    (nth 0 (nth [] q105 x107.toNat) 0 < (↑q18.length : Int)))
    (money_Split_l31 K k (x10) (q18.set (nth 0 (nth [] q105 x107.toNat) 0).toNat
  [x2_0,
    Go.IntKind.i64.wrap
      (nth 0 (nth [] q105 x107.toNat) 2 + 1)]) (q105) (x106) (Go.IntKind.i64.wrap (x107 + 1)) (x2_0) (x2_1))
    none))
    (bi (Decidable.decide (x2_1 < 0))
    (bi (Decidable.decide (0 ≤ nth 0 (nth [] q105 x107.toNat) 0) &&
  Decidable.decide
    (nth 0 (nth [] q105 x107.toNat) 0 < (↑q18.length : Int)))
    (money_Split_l31 K k (x10) (q18.set (nth 0 (nth [] q105 x107.toNat) 0).toNat
  [x2_0,
    Go.IntKind.i64.wrap
      (0 - nth 0 (nth [] q105 x107.toNat) 2)]) (q105) (x106) (Go.IntKind.i64.wrap (x107 + 1)) (x2_0) (x2_1))
    none)
    (bi (Decidable.decide (0 ≤ nth 0 (nth [] q105 x107.toNat) 0) &&
  Decidable.decide
    (nth 0 (nth [] q105 x107.toNat) 0 < (↑q18.length : Int)))
    (money_Split_l31 K k (x10) (q18.set (nth 0 (nth [] q105 x107.toNat) 0).toNat
  [x2_0, nth 0 (nth [] q105 x107.toNat) 2]) (q105) (x106) (Go.IntKind.i64.wrap (x107 + 1)) (x2_0) (x2_1))
    none)))
    none)
    (some q18))
def money_Split_l31_w (K k : Nat) : List U → Option (List (List Int)) := fun us => match us with | [.i x10, .rr q18, .rr q105, .i x106, .i x107, .i x2_0, .i x2_1] => money_Split_l31 K k x10 q18 q105 x106 x107 x2_0 x2_1 | _ => none
theorem money_Split_l31_eq (K k : Nat) (x10 : Int) (q18 : List (List Int)) (q105 : List (List Int)) (x106 : Int) (x107 : Int) (x2_0 : Int) (x2_1 : Int) : (round1 Go.Proofs.Try.prog (env_slices_SortStableFunc___money_share_money_share_ K) (lenv0) (lp (bodyOf Go.Proofs.Try.f10) 2) money_Split_l31_pre (.exit 5) money_Split_l31_post0 money_Split_l31_dec0 (money_Split_l31_w K k) [.i x10, .rr q18, .rr q105, .i x106, .i x107, .i x2_0, .i x2_1]).den2 = money_Split_l31 K (k + 1) x10 q18 q105 x106 x107 x2_0 x2_1 := by kernel_rfl
def money_Split_l31_s (K : Nat) : Vm.LS := .one money_Split_l31_pre _ (.exit 5) money_Split_l31_post0 (money_Split_l31_w K K) money_Split_l31_enc0
theorem money_Split_l31_ok (K : Nat) : LoopOk Go.Proofs.Try.prog (lp (bodyOf Go.Proofs.Try.f10) 2) (money_Split_l31_s K) := loop_one hmix (env_slices_SortStableFunc___money_share_money_share__ok K) (lenv := lenv0) (L := money_Split_l31_w K) (enc := money_Split_l31_enc0) (dec := money_Split_l31_dec0) (lps_ok (l := []) (by kernel_rfl) trivial) (fun u r h => by unfold money_Split_l31_dec0 at h; split at h; (obtain rfl := Option.some.inj h; rfl); cases h) (fun us => by unfold money_Split_l31_w; split <;> first | rfl | (simp only [money_Split_l31])) (fun k us r h => by unfold money_Split_l31_w at h; split at h; exact ((den2_eq _).symm.trans (money_Split_l31_eq K k _ _ _ _ _ _ _)).trans h; cases h) K
def money_Split_v31 (K : Nat) : Nat → Option Vm.LS := addL (lenv0) 31 (money_Split_l31_s K)
def money_Split_l21_pre : Vm.Pat := ⟨137, [(1, .pv (.one (.row .i64 false))), (6, .pv (.one (.int .i64))), (9, .pv (.one (.int .i64))), (10, .pv (.one (.int .i64))), (11, .pv (.one (.recs [.i64, .u64, .i64] true))), (64, .pv (.one (.row .i64 false))), (65, .pv (.one (.int .i64))), (66, .pv (.one (.int .i64))), (2, .box 0 0)], [.cells [.int .i64, .int .i64]], []⟩
def money_Split_l21_post0 : Vm.Pat := ⟨137, [(1, .pv (.one (.row .i64 false))), (10, .pv (.one (.int .i64))), (11, .pv (.one (.recs [.i64, .u64, .i64] true))), (2, .box 0 0)], [.cells [.int .i64, .int .i64]], []⟩
def money_Split_l21_enc0 : List Int × Int × List (List Int) × Int × Int → List U := fun r => [.r r.1, .i r.2.1, .rr r.2.2.1, .i r.2.2.2.1, .i r.2.2.2.2]
def money_Split_l21_dec0 : List U → Option (List Int × Int × List (List Int) × Int × Int) := fun u => match u with | [.r l1, .i x10, .rr q11, .i x2_0, .i x2_1] => some (l1, x10, q11, x2_0, x2_1) | _ => none
def money_Split_l21 (K : Nat) : Nat → List Int → Int → Int → Int → List (List Int) → List Int → Int → Int → Int → Int → Option (List Int × Int × List (List Int) × Int × Int)
  | 0, _, _, _, _, _, _, _, _, _, _ => none
  | k + 1, l1, x6, x9, x10, q11, l64, x65, x66, x2_0, x2_1 => (bi (Decidable.decide (x66 < x65))
    (bi (Decidable.decide (0 ≤ x66) && Decidable.decide (x66 < (↑l64.length : Int)))
    ((bits_Mul64 K (Go.IntKind.u64.wrap x9)
  (Go.IntKind.u64.wrap (nth 0 l64 x66.toNat))).bind fun r0 => ((bits_Div64 K r0.fst r0.snd (Go.IntKind.u64.wrap x6)).bind fun r1 => (bi (Decidable.decide (0 ≤ x66) && Decidable.decide (x66 < (↑q11.length : Int)))
    (money_Split_l21 K k (l1) (x6) (x9) (Go.IntKind.i64.wrap (x10 - Go.IntKind.i64.wrap r1.fst)) (q11.set x66.toNat [x66, r1.snd, Go.IntKind.i64.wrap r1.fst]) (l64) (x65) (Go.IntKind.i64.wrap (x66 + 1)) (x2_0) (x2_1))
    none)))
    none)
    (some ((l1, x10, q11, x2_0, x2_1))))
def money_Split_l21_w (K k : Nat) : List U → Option (List Int × Int × List (List Int) × Int × Int) := fun us => match us with | [.r l1, .i x6, .i x9, .i x10, .rr q11, .r l64, .i x65, .i x66, .i x2_0, .i x2_1] => money_Split_l21 K k l1 x6 x9 x10 q11 l64 x65 x66 x2_0 x2_1 | _ => none
theorem money_Split_l21_eq (K k : Nat) (l1 : List Int) (x6 : Int) (x9 : Int) (x10 : Int) (q11 : List (List Int)) (l64 : List Int) (x65 : Int) (x66 : Int) (x2_0 : Int) (x2_1 : Int) : (round1 Go.Proofs.Try.prog (env_slices_SortStableFunc___money_share_money_share_ K) (money_Split_v31 K) (lp (bodyOf Go.Proofs.Try.f10) 1) money_Split_l21_pre (.exit 3) money_Split_l21_post0 money_Split_l21_dec0 (money_Split_l21_w K k) [.r l1, .i x6, .i x9, .i x10, .rr q11, .r l64, .i x65, .i x66, .i x2_0, .i x2_1]).den2 = money_Split_l21 K (k + 1) l1 x6 x9 x10 q11 l64 x65 x66 x2_0 x2_1 := by kernel_rfl
def money_Split_l21_s (K : Nat) : Vm.LS := .one money_Split_l21_pre _ (.exit 3) money_Split_l21_post0 (money_Split_l21_w K K) money_Split_l21_enc0
theorem money_Split_l21_ok (K : Nat) : LoopOk Go.Proofs.Try.prog (lp (bodyOf Go.Proofs.Try.f10) 1) (money_Split_l21_s K) := loop_one hmix (env_slices_SortStableFunc___money_share_money_share__ok K) (lenv := money_Split_v31 K) (L := money_Split_l21_w K) (enc := money_Split_l21_enc0) (dec := money_Split_l21_dec0) (lps_ok (l := []) (by kernel_rfl) trivial) (fun u r h => by unfold money_Split_l21_dec0 at h; split at h; (obtain rfl := Option.some.inj h; rfl); cases h) (fun us => by unfold money_Split_l21_w; split <;> first | rfl | (simp only [money_Split_l21])) (fun k us r h => by unfold money_Split_l21_w at h; split at h; exact ((den2_eq _).symm.trans (money_Split_l21_eq K k _ _ _ _ _ _ _ _ _ _)).trans h; cases h) K
def money_Split_v21 (K : Nat) : Nat → Option Vm.LS := addL (money_Split_v31 K) 21 (money_Split_l21_s K)
def money_Split_l3_pre : Vm.Pat := ⟨137, [(1, .pv (.one (.row .i64 false))), (6, .pv (.one (.int .i64))), (21, .pv (.one (.row .i64 false))), (22, .pv (.one (.int .i64))), (23, .pv (.one (.int .i64))), (2, .box 0 0)], [.cells [.int .i64, .int .i64]], []⟩
def money_Split_l3_post0 : Vm.Pat := ⟨137, [(1, .pv (.one (.row .i64 false))), (6, .pv (.one (.int .i64))), (2, .box 0 0)], [.cells [.int .i64, .int .i64]], []⟩
def money_Split_l3_enc0 : List Int × Int × Int × Int → List U := fun r => [.r r.1, .i r.2.1, .i r.2.2.1, .i r.2.2.2]
def money_Split_l3_dec0 : List U → Option (List Int × Int × Int × Int) := fun u => match u with | [.r l1, .i x6, .i x2_0, .i x2_1] => some (l1, x6, x2_0, x2_1) | _ => none
def money_Split_l3_post1 : Vm.Pat := ⟨137, [(4, .pv (.one (.recs [.i64, .i64] false))), (5, .pv (.one (.int .i64)))], [], []⟩
def money_Split_l3_enc1 : List (List Int) × Int → List U := fun r => [.rr r.1, .i r.2]
def money_Split_l3_dec1 : List U → Option (List (List Int) × Int) := fun u => match u with | [.rr q4, .i x5] => some (q4, x5) | _ => none
def money_Split_l3 (K : Nat) : Nat → List Int → Int → List Int → Int → Int → Int → Int → Option ((List Int × Int × Int × Int) ⊕ (List (List Int) × Int))
  | 0, _, _, _, _, _, _, _ => none
  | k + 1, l1, x6, l21, x22, x23, x2_0, x2_1 => (bi (Decidable.decide (x23 < x22))
    (bi (Decidable.decide (0 ≤ x23) && Decidable.decide (x23 < (↑l21.length : Int)))
    (bi (Decidable.decide (nth 0 l21 x23.toNat < 0))
    (some (Sum.inr ([], 1)))
    (bi (Decidable.decide (nth 0 l21 x23.toNat > 1000000000))
    (some (Sum.inr ([], 1)))
    (money_Split_l3 K k (l1) (if 4611686018427387904 < Go.IntKind.i64.wrap (x6 + nth 0 l21 x23.toNat) then
  4611686018427387904
else Go.IntKind.i64.wrap (x6 + nth 0 l21 x23.toNat)) (l21) (x22) (Go.IntKind.i64.wrap (x23 + 1)) (x2_0) (x2_1))))
    none)
    (some (Sum.inl (l1, x6, x2_0, x2_1))))
def money_Split_l3_w (K k : Nat) : List U → Option ((List Int × Int × Int × Int) ⊕ (List (List Int) × Int)) := fun us => match us with | [.r l1, .i x6, .r l21, .i x22, .i x23, .i x2_0, .i x2_1] => money_Split_l3 K k l1 x6 l21 x22 x23 x2_0 x2_1 | _ => none
theorem money_Split_l3_eq (K k : Nat) (l1 : List Int) (x6 : Int) (l21 : List Int) (x22 : Int) (x23 : Int) (x2_0 : Int) (x2_1 : Int) : (round2 Go.Proofs.Try.prog (env_slices_SortStableFunc___money_share_money_share_ K) (money_Split_v21 K) (lp (bodyOf Go.Proofs.Try.f10) 0) money_Split_l3_pre (.exit 0) money_Split_l3_post0 .ret money_Split_l3_post1 money_Split_l3_dec0 money_Split_l3_dec1 (money_Split_l3_w K k) [.r l1, .i x6, .r l21, .i x22, .i x23, .i x2_0, .i x2_1]).den2 = money_Split_l3 K (k + 1) l1 x6 l21 x22 x23 x2_0 x2_1 := by kernel_rfl
def money_Split_l3_s (K : Nat) : Vm.LS := .two money_Split_l3_pre _ _ (.exit 0) money_Split_l3_post0 .ret money_Split_l3_post1 (money_Split_l3_w K K) money_Split_l3_enc0 money_Split_l3_enc1
theorem money_Split_l3_ok (K : Nat) : LoopOk Go.Proofs.Try.prog (lp (bodyOf Go.Proofs.Try.f10) 0) (money_Split_l3_s K) := loop_two hmix (env_slices_SortStableFunc___money_share_money_share__ok K) (lenv := money_Split_v21 K) (L := money_Split_l3_w K) (enc := money_Split_l3_enc0) (dec := money_Split_l3_dec0) (enc' := money_Split_l3_enc1) (dec' := money_Split_l3_dec1) (lps_ok (l := []) (by kernel_rfl) trivial) (fun u r h => by unfold money_Split_l3_dec0 at h; split at h; (obtain rfl := Option.some.inj h; rfl); cases h) (fun u r h => by unfold money_Split_l3_dec1 at h; split at h; (obtain rfl := Option.some.inj h; rfl); cases h) (fun us => by unfold money_Split_l3_w; split <;> first | rfl | (simp only [money_Split_l3])) (fun k us r h => by unfold money_Split_l3_w at h; split at h; exact ((den2_eq _).symm.trans (money_Split_l3_eq K k _ _ _ _ _ _ _)).trans h; cases h) K
def money_Split_v3 (K : Nat) : Nat → Option Vm.LS := addL (money_Split_v21 K) 3 (money_Split_l3_s K)
def money_Split_dec : List U → Option (List (List Int) × Int) := fun u => match u with | [.rr q0, .i x1] => some (q0, x1) | _ => none
def money_Split_enc : (List (List Int) × Int) → List U := fun r => [.rr r.1, .i r.2]
def money_Split (K : Nat) (x0_0 : Int) (x0_1 : Int) (l1 : List Int) : Option (List (List Int) × Int) := (casO (money_Split_l3 K K l1 0 l1 (↑l1.length : Int) 0 x0_0 x0_1) (fun r0 => (bi ((↑r0.fst.length : Int) == 0)
    (some (([], 2)))
    (bi (Decidable.decide ((↑r0.fst.length : Int) > 64))
    (some (([], 2)))
    ((money_Check K r0.snd.snd.fst r0.snd.snd.snd).bind fun r1 => (bi (r1 != 0)
    (some (([], 3)))
    (bi (r0.snd.fst == 0)
    (some (([], 5)))
    (bi (Decidable.decide (r0.snd.snd.snd < 0))
    (bi (Decidable.decide (0 ≤ (↑r0.fst.length : Int)) && Decidable.decide ((↑r0.fst.length : Int) ≤ (↑r0.fst.length : Int)) &&
  Decidable.decide ((↑r0.fst.length : Int) ≤ 5864062014805))
    ((money_Split_l21 K K r0.fst r0.snd.fst (Go.IntKind.i64.wrap (0 - r0.snd.snd.snd))
  (Go.IntKind.i64.wrap (0 - r0.snd.snd.snd)) (List.replicate (↑r0.fst.length : Int).toNat (List.replicate 3 0)) r0.fst
  (↑r0.fst.length : Int) 0 r0.snd.snd.fst r0.snd.snd.snd).bind fun r2 => ((slices_SortStableFunc___money_share_money_share_ K r2.snd.snd.fst).bind fun r3 => (bi (Decidable.decide (0 ≤ (↑r2.fst.length : Int)) && Decidable.decide ((↑r2.fst.length : Int) ≤ (↑r2.fst.length : Int)) &&
  Decidable.decide ((↑r2.fst.length : Int) ≤ 8796093022208))
    ((money_Split_l31 K K r2.snd.fst
  (List.replicate (↑r2.fst.length : Int).toNat (List.replicate 2 0)) r3 (↑(List.length r3) : Int) 0 r2.snd.snd.snd.fst
  r2.snd.snd.snd.snd).bind fun r4 => (some ((r4, 0))))
    none)))
    none)
    (bi (Decidable.decide (0 ≤ (↑r0.fst.length : Int)) && Decidable.decide ((↑r0.fst.length : Int) ≤ (↑r0.fst.length : Int)) &&
  Decidable.decide ((↑r0.fst.length : Int) ≤ 5864062014805))
    ((money_Split_l21 K K r0.fst r0.snd.fst r0.snd.snd.snd r0.snd.snd.snd
  (List.replicate (↑r0.fst.length : Int).toNat (List.replicate 3 0)) r0.fst (↑r0.fst.length : Int) 0 r0.snd.snd.fst
  r0.snd.snd.snd).bind fun r5 => ((slices_SortStableFunc___money_share_money_share_ K r5.snd.snd.fst).bind fun r6 => (bi (Decidable.decide (0 ≤ (↑r5.fst.length : Int)) && Decidable.decide ((↑r5.fst.length : Int) ≤ (↑r5.fst.length : Int)) &&
  Decidable.decide ((↑r5.fst.length : Int) ≤ 8796093022208))
    ((money_Split_l31 K K r5.snd.fst
  (List.replicate (↑r5.fst.length : Int).toNat (List.replicate 2 0)) r6 (↑(List.length r6) : Int) 0 r5.snd.snd.snd.fst
  r5.snd.snd.snd.snd).bind fun r7 => (some ((r7, 0))))
    none)))
    none)))))))) (fun r8 => (some ((r8.fst, r8.snd)))))
theorem money_Split_eq (K : Nat) (x0_0 : Int) (x0_1 : Int) (l1 : List Int) : (runF Go.Proofs.Try.prog (env_slices_SortStableFunc___money_share_money_share_ K) (money_Split_v3 K) Go.Proofs.Try.f10 [.agg [.int .i64, .int .i64], .one (.row .i64 false)] [.one (.recs [.i64, .i64] false), .one (.int .i64)] money_Split_dec [.i x0_0, .i x0_1, .r l1]).den2 = money_Split K x0_0 x0_1 l1 := by kernel_rfl
def money_Split_w (K : Nat) : List U → Option (List (List Int) × Int) := fun us => match us with | [.i x0_0, .i x0_1, .r l1] => money_Split K x0_0 x0_1 l1 | _ => none
def money_Split_spec (K : Nat) : Vm.Spec := ⟨[.agg [.int .i64, .int .i64], .one (.row .i64 false)], [.one (.recs [.i64, .i64] false), .one (.int .i64)], List (List Int) × Int, money_Split_w K, money_Split_enc⟩
theorem money_Split_ok (K : Nat) : FnOk Go.Proofs.Try.prog 10 (money_Split_spec K) := fn_ok' hmix (env_slices_SortStableFunc___money_share_money_share__ok K) (lenv := money_Split_v3 K) (args := [.agg [.int .i64, .int .i64], .one (.row .i64 false)]) (res := [.one (.recs [.i64, .i64] false), .one (.int .i64)]) (G := money_Split_w K) (enc := money_Split_enc) Go.Proofs.Try.func10 (lps_fn (l := [lp (bodyOf Go.Proofs.Try.f10) 0, lp (bodyOf Go.Proofs.Try.f10) 1, lp (bodyOf Go.Proofs.Try.f10) 2]) (by kernel_rfl) ⟨⟨3, money_Split_l3_s K, by kernel_rfl, by kernel_rfl, money_Split_l3_ok K⟩, ⟨⟨21, money_Split_l21_s K, by kernel_rfl, by kernel_rfl, money_Split_l21_ok K⟩, ⟨⟨31, money_Split_l31_s K, by kernel_rfl, by kernel_rfl, money_Split_l31_ok K⟩, trivial⟩⟩⟩) (dec := money_Split_dec) (fun u r h => by unfold money_Split_dec at h; split at h; (obtain rfl := Option.some.inj h; rfl); cases h) (fun us r h => by unfold money_Split_w at h; split at h; exact ((den2_eq _).symm.trans (money_Split_eq K _ _ _)).trans h; cases h)
def env_money_Split (K : Nat) : FuncId → Option Vm.Spec := addS (env_slices_SortStableFunc___money_share_money_share_ K) 10 (money_Split_spec K)
theorem env_money_Split_ok (K : Nat) : EnvOk Go.Proofs.Try.prog (env_money_Split K) := addS_ok (env_slices_SortStableFunc___money_share_money_share__ok K) (.inl ⟨callable Go.Proofs.Try.func10 (by kernel_rfl) (by kernel_rfl), money_Split_ok K⟩)
end Go.Proofs.Ytfeifhlnidkbbaa.F
