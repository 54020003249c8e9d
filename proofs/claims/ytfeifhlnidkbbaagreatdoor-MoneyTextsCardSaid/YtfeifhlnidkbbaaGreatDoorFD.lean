import Derived.Test.YtfeifhlnidkbbaaGreatDoorVmY
import Derived.Test.YtfeifhlnidkbbaaGreatDoorVmRc
import Derived.Test.YtfeifhlnidkbbaaGreatDoorProg
import Derived.Test.YtfeifhlnidkbbaaGreatDoorFC
namespace Go.Proofs.YtfeifhlnidkbbaaGreatDoor.F
open Go Go.Proofs.YtfeifhlnidkbbaaGreatDoor.Vm
set_option maxRecDepth 1000000
set_option linter.unusedVariables false
def money_Split_1_dec : List U → Option (Int) := fun u => match u with | [.i x0] => some (x0) | _ => none
def money_Split_1_enc : (Int) → List U := fun r => [.i r]
def money_Split_1 (K : Nat) (x0_0 : Int) (x0_1 : Int) (x0_2 : Int) (x1_0 : Int) (x1_1 : Int) (x1_2 : Int) : Option (Int) := ((cmp_Compare_uint64_ K x1_1 x0_1).bind fun r0 => (some r0))
theorem money_Split_1_eq (K : Nat) (x0_0 : Int) (x0_1 : Int) (x0_2 : Int) (x1_0 : Int) (x1_1 : Int) (x1_2 : Int) : (runF Tryz.prog (env_money_Write K) (lenv0) Tryz.f28 [.agg [.int .i64, .int .u64, .int .i64], .agg [.int .i64, .int .u64, .int .i64]] [.one (.int .i64)] money_Split_1_dec [.i x0_0, .i x0_1, .i x0_2, .i x1_0, .i x1_1, .i x1_2]).den2 = money_Split_1 K x0_0 x0_1 x0_2 x1_0 x1_1 x1_2 := by kernel_rfl
def money_Split_1_w (K : Nat) : List U → Option (Int) := fun us => match us with | [.i x0_0, .i x0_1, .i x0_2, .i x1_0, .i x1_1, .i x1_2] => money_Split_1 K x0_0 x0_1 x0_2 x1_0 x1_1 x1_2 | _ => none
def money_Split_1_spec (K : Nat) : Vm.Spec := ⟨[.agg [.int .i64, .int .u64, .int .i64], .agg [.int .i64, .int .u64, .int .i64]], [.one (.int .i64)], Int, money_Split_1_w K, money_Split_1_enc⟩
theorem money_Split_1_ok (K : Nat) : FnOk Tryz.prog 28 (money_Split_1_spec K) := fn_ok' hmix (env_money_Write_ok K) (lenv := lenv0) (args := [.agg [.int .i64, .int .u64, .int .i64], .agg [.int .i64, .int .u64, .int .i64]]) (res := [.one (.int .i64)]) (G := money_Split_1_w K) (enc := money_Split_1_enc) Tryz.func28 (lps_fn (l := []) (by kernel_rfl) trivial) (dec := money_Split_1_dec) (fun u r h => by unfold money_Split_1_dec at h; split at h; (cases h; rfl); cases h) (fun us r h => by unfold money_Split_1_w at h; split at h; exact ((den2_eq _).symm.trans (money_Split_1_eq K _ _ _ _ _ _)).trans h; cases h)
def env_money_Split_1 (K : Nat) : FuncId → Option Vm.Spec := addS (env_money_Write K) 28 (money_Split_1_spec K)
theorem env_money_Split_1_ok (K : Nat) : EnvOk Tryz.prog (env_money_Split_1 K) := addS_ok (env_money_Write_ok K) (.inl ⟨callable Tryz.func28 (by kernel_rfl) (by kernel_rfl), money_Split_1_ok K⟩)
def insSo_l4_pre : Vm.Pat := ⟨53, [(1, .pv (.one (.int .i64))), (2, .pv (.one (.int .i64))), (3, .pv (.one (.fn 28))), (8, .pv (.one (.int .i64))), (9, .pv (.one (.int .i64))), (0, .slf 0)], [.recs [.i64, .u64, .i64]], [0]⟩
def insSo_l4_post0 : Vm.Pat := ⟨53, [(1, .pv (.one (.int .i64))), (2, .pv (.one (.int .i64))), (3, .pv (.one (.fn 28))), (8, .pv (.one (.int .i64))), (0, .slf 0)], [.recs [.i64, .u64, .i64]], [0]⟩
def insSo_l4_enc0 : Int × Int × Int × List (List Int) → List U := fun r => [.i r.1, .i r.2.1, .n, .i r.2.2.1, .rr r.2.2.2]
def insSo_l4_dec0 : List U → Option (Int × Int × Int × List (List Int)) := fun u => match u with | [.i x1, .i x2, .n, .i x8, .rr q0] => some (x1, x2, x8, q0) | _ => none
def insSo_l4 (K : Nat) : Nat → Int → Int → Int → Int → List (List Int) → Option (Int × Int × Int × List (List Int))
  | 0, _, _, _, _, _ => none
  | k + 1, x1, x2, x8, x9, q0 => (bi (decide (x9 > x1))
    (bi (decide (0 ≤ x9) && decide (x9 < (↑q0.length : Int)))
    (bi (decide (0 ≤ IntKind.i64.wrap (x9 - 1)) &&
  decide (IntKind.i64.wrap (x9 - 1) < (↑q0.length : Int)))
    ((money_Split_1 K
  (nth 0 (nth [] q0 x9.toNat) 0)
  (nth 0 (nth [] q0 x9.toNat) 1)
  (nth 0 (nth [] q0 x9.toNat) 2)
  (nth 0
    (nth [] q0 (IntKind.i64.wrap (x9 - 1)).toNat) 0)
  (nth 0
    (nth [] q0 (IntKind.i64.wrap (x9 - 1)).toNat) 1)
  (nth 0
    (nth [] q0 (IntKind.i64.wrap (x9 - 1)).toNat) 2)).bind fun r0 => (bi (decide (r0 < 0))
    (bi (decide (0 ≤ IntKind.i64.wrap (x9 - 1)) &&
  decide (IntKind.i64.wrap (x9 - 1) < (↑q0.length : Int)))
    (bi (decide (0 ≤ x9) && decide (x9 < (↑q0.length : Int)))
    (bi (decide (0 ≤ x9) && decide (x9 < (↑q0.length : Int)))
    (bi (decide (0 ≤ IntKind.i64.wrap (x9 - 1)) &&
  decide
    (IntKind.i64.wrap (x9 - 1) <
      (↑(q0.set x9.toNat
              [nth 0
                  (nth [] q0 (IntKind.i64.wrap (x9 - 1)).toNat) 0,
                nth 0
                  (nth [] q0 (IntKind.i64.wrap (x9 - 1)).toNat) 1,
                nth 0
                  (nth [] q0 (IntKind.i64.wrap (x9 - 1)).toNat) 2]).length :
        Int)))
    (insSo_l4 K k (x1) (x2) (x8) (IntKind.i64.wrap (x9 - 1)) ((q0.set x9.toNat
      [nth 0
          (nth [] q0 (IntKind.i64.wrap (x9 - 1)).toNat) 0,
        nth 0
          (nth [] q0 (IntKind.i64.wrap (x9 - 1)).toNat) 1,
        nth 0
          (nth [] q0 (IntKind.i64.wrap (x9 - 1)).toNat) 2]).set
  (IntKind.i64.wrap (x9 - 1)).toNat
  [nth 0 (nth [] q0 x9.toNat) 0,
    nth 0 (nth [] q0 x9.toNat) 1,
    nth 0 (nth [] q0 x9.toNat) 2]))
    none)
    none)
    none)
    none)
    (some ((x1, x2, x8, q0)))))
    none)
    none)
    (some ((x1, x2, x8, q0))))
def insSo_l4_w (K k : Nat) : List U → Option (Int × Int × Int × List (List Int)) := fun us => match us with | [.i x1, .i x2, .n, .i x8, .i x9, .rr q0] => insSo_l4 K k x1 x2 x8 x9 q0 | _ => none
theorem insSo_l4_eq (K k : Nat) (x1 : Int) (x2 : Int) (x8 : Int) (x9 : Int) (q0 : List (List Int)) : (round1 Tryz.prog (env_money_Split_1 K) (lenv0) (lp (lp (bodyOf Tryz.f78) 0) 0) insSo_l4_pre (.exit 2) insSo_l4_post0 insSo_l4_dec0 (insSo_l4_w K k) [.i x1, .i x2, .n, .i x8, .i x9, .rr q0]).den2 = insSo_l4 K (k + 1) x1 x2 x8 x9 q0 := by kernel_rfl
def insSo_l4_s (K : Nat) : Vm.LS := .one insSo_l4_pre _ (.exit 2) insSo_l4_post0 (insSo_l4_w K K) insSo_l4_enc0
theorem insSo_l4_ok (K : Nat) : LoopOk Tryz.prog (lp (lp (bodyOf Tryz.f78) 0) 0) (insSo_l4_s K) := loop_one hmix (env_money_Split_1_ok K) (lenv := lenv0) (L := insSo_l4_w K) (enc := insSo_l4_enc0) (dec := insSo_l4_dec0) (lps_ok (l := []) (by kernel_rfl) trivial) (fun u r h => by unfold insSo_l4_dec0 at h; split at h; (cases h; rfl); cases h) (fun us => by unfold insSo_l4_w; split <;> first | rfl | (simp only [insSo_l4])) (fun k us r h => by unfold insSo_l4_w at h; split at h; exact ((den2_eq _).symm.trans (insSo_l4_eq K k _ _ _ _ _)).trans h; cases h) K
def insSo_v4 (K : Nat) : Nat → Option Vm.LS := addL (lenv0) 4 (insSo_l4_s K)
def insSo_l1_pre : Vm.Pat := ⟨53, [(1, .pv (.one (.int .i64))), (2, .pv (.one (.int .i64))), (3, .pv (.one (.fn 28))), (8, .pv (.one (.int .i64))), (0, .slf 0)], [.recs [.i64, .u64, .i64]], [0]⟩
def insSo_l1_post0 : Vm.Pat := ⟨53, [(0, .slf 0)], [.recs [.i64, .u64, .i64]], [0]⟩
def insSo_l1_enc0 : List (List Int) → List U := fun r => [.rr r]
def insSo_l1_dec0 : List U → Option (List (List Int)) := fun u => match u with | [.rr q0] => some (q0) | _ => none
def insSo_l1 (K : Nat) : Nat → Int → Int → Int → List (List Int) → Option (List (List Int))
  | 0, _, _, _, _ => none
  | k + 1, x1, x2, x8, q0 => (bi (decide (x8 < x2))
    ((insSo_l4 K K x1 x2 x8 x8 q0).bind fun r0 => (insSo_l1 K k (r0.fst) (r0.snd.fst) (IntKind.i64.wrap (r0.snd.snd.fst + 1)) (r0.snd.snd.snd)))
    (some q0))
def insSo_l1_w (K k : Nat) : List U → Option (List (List Int)) := fun us => match us with | [.i x1, .i x2, .n, .i x8, .rr q0] => insSo_l1 K k x1 x2 x8 q0 | _ => none
theorem insSo_l1_eq (K k : Nat) (x1 : Int) (x2 : Int) (x8 : Int) (q0 : List (List Int)) : (round1 Tryz.prog (env_money_Split_1 K) (insSo_v4 K) (lp (bodyOf Tryz.f78) 0) insSo_l1_pre (.exit 0) insSo_l1_post0 insSo_l1_dec0 (insSo_l1_w K k) [.i x1, .i x2, .n, .i x8, .rr q0]).den2 = insSo_l1 K (k + 1) x1 x2 x8 q0 := by kernel_rfl
def insSo_l1_s (K : Nat) : Vm.LS := .one insSo_l1_pre _ (.exit 0) insSo_l1_post0 (insSo_l1_w K K) insSo_l1_enc0
theorem insSo_l1_ok (K : Nat) : LoopOk Tryz.prog (lp (bodyOf Tryz.f78) 0) (insSo_l1_s K) := loop_one hmix (env_money_Split_1_ok K) (lenv := insSo_v4 K) (L := insSo_l1_w K) (enc := insSo_l1_enc0) (dec := insSo_l1_dec0) (lps_ok (l := [lp (lp (bodyOf Tryz.f78) 0) 0]) (by kernel_rfl) ⟨⟨4, insSo_l4_s K, by kernel_rfl, by kernel_rfl, insSo_l4_ok K⟩, trivial⟩) (fun u r h => by unfold insSo_l1_dec0 at h; split at h; (cases h; rfl); cases h) (fun us => by unfold insSo_l1_w; split <;> first | rfl | (simp only [insSo_l1])) (fun k us r h => by unfold insSo_l1_w at h; split at h; exact ((den2_eq _).symm.trans (insSo_l1_eq K k _ _ _ _)).trans h; cases h) K
def insSo_v1 (K : Nat) : Nat → Option Vm.LS := addL (insSo_v4 K) 1 (insSo_l1_s K)
def insSo_dec : List U → Option (List (List Int)) := fun u => match u with | [.rr q0] => some (q0) | _ => none
def insSo_enc : (List (List Int)) → List U := fun r => [.rr r]
def insSo (K : Nat) (q0 : List (List Int)) (x1 : Int) (x2 : Int) : Option (List (List Int)) := ((insSo_l1 K K x1 x2
  (IntKind.i64.wrap (x1 + 1)) q0).bind fun r0 => (bi (decide (r0.length = q0.length))
    (some r0)
    none))
theorem insSo_eq (K : Nat) (q0 : List (List Int)) (x1 : Int) (x2 : Int) : (runF Tryz.prog (env_money_Split_1 K) (insSo_v1 K) Tryz.f78 [.one (.recs [.i64, .u64, .i64] true), .one (.int .i64), .one (.int .i64), .one (.fn 28)] [] insSo_dec [.rr q0, .i x1, .i x2, .n]).den2 = insSo K q0 x1 x2 := by kernel_rfl
def insSo_w (K : Nat) : List U → Option (List (List Int)) := fun us => match us with | [.rr q0, .i x1, .i x2, .n] => insSo K q0 x1 x2 | _ => none
def insSo_spec (K : Nat) : Vm.Spec := ⟨[.one (.recs [.i64, .u64, .i64] true), .one (.int .i64), .one (.int .i64), .one (.fn 28)], [], List (List Int), insSo_w K, insSo_enc⟩
theorem insSo_ok (K : Nat) : FnOk Tryz.prog 78 (insSo_spec K) := fn_ok' hmix (env_money_Split_1_ok K) (lenv := insSo_v1 K) (args := [.one (.recs [.i64, .u64, .i64] true), .one (.int .i64), .one (.int .i64), .one (.fn 28)]) (res := []) (G := insSo_w K) (enc := insSo_enc) Tryz.func78 (lps_fn (l := [lp (bodyOf Tryz.f78) 0]) (by kernel_rfl) ⟨⟨1, insSo_l1_s K, by kernel_rfl, by kernel_rfl, insSo_l1_ok K⟩, trivial⟩) (dec := insSo_dec) (fun u r h => by unfold insSo_dec at h; split at h; (cases h; rfl); cases h) (fun us r h => by unfold insSo_w at h; split at h; exact ((den2_eq _).symm.trans (insSo_eq K _ _ _)).trans h; cases h)
def env_insSo (K : Nat) : FuncId → Option Vm.Spec := addS (env_money_Split_1 K) 78 (insSo_spec K)
theorem env_insSo_ok (K : Nat) : EnvOk Tryz.prog (env_insSo K) := addS_ok (env_money_Split_1_ok K) (.inl ⟨callable Tryz.func78 (by kernel_rfl) (by kernel_rfl), insSo_ok K⟩)
def swpRg_l1_pre : Vm.Pat := ⟨38, [(1, .pv (.one (.int .i64))), (2, .pv (.one (.int .i64))), (3, .pv (.one (.int .i64))), (10, .pv (.one (.int .i64))), (0, .slf 0)], [.recs [.i64, .u64, .i64]], [0]⟩
def swpRg_l1_post0 : Vm.Pat := ⟨38, [(0, .slf 0)], [.recs [.i64, .u64, .i64]], [0]⟩
def swpRg_l1_enc0 : List (List Int) → List U := fun r => [.rr r]
def swpRg_l1_dec0 : List U → Option (List (List Int)) := fun u => match u with | [.rr q0] => some (q0) | _ => none
def swpRg_l1 (K : Nat) : Nat → Int → Int → Int → Int → List (List Int) → Option (List (List Int))
  | 0, _, _, _, _, _ => none
  | k + 1, x1, x2, x3, x10, q0 => (bi (decide (x10 < x3))
    (bi (decide (0 ≤ IntKind.i64.wrap (x2 + x10)) &&
  decide (IntKind.i64.wrap (x2 + x10) < (↑q0.length : Int)))
    (bi (decide (0 ≤ IntKind.i64.wrap (x1 + x10)) &&
  decide (IntKind.i64.wrap (x1 + x10) < (↑q0.length : Int)))
    (bi (decide (0 ≤ IntKind.i64.wrap (x1 + x10)) &&
  decide (IntKind.i64.wrap (x1 + x10) < (↑q0.length : Int)))
    (bi (decide (0 ≤ IntKind.i64.wrap (x2 + x10)) &&
  decide
    (IntKind.i64.wrap (x2 + x10) <
      (↑(q0.set (IntKind.i64.wrap (x1 + x10)).toNat
              [nth 0
                  (nth [] q0 (IntKind.i64.wrap (x2 + x10)).toNat) 0,
                nth 0
                  (nth [] q0 (IntKind.i64.wrap (x2 + x10)).toNat) 1,
                nth 0
                  (nth [] q0 (IntKind.i64.wrap (x2 + x10)).toNat) 2]).length :
        Int)))
    (swpRg_l1 K k (x1) (x2) (x3) (IntKind.i64.wrap (x10 + 1)) ((q0.set (IntKind.i64.wrap (x1 + x10)).toNat
      [nth 0
          (nth [] q0 (IntKind.i64.wrap (x2 + x10)).toNat) 0,
        nth 0
          (nth [] q0 (IntKind.i64.wrap (x2 + x10)).toNat) 1,
        nth 0
          (nth [] q0 (IntKind.i64.wrap (x2 + x10)).toNat) 2]).set
  (IntKind.i64.wrap (x2 + x10)).toNat
  [nth 0
      (nth [] q0 (IntKind.i64.wrap (x1 + x10)).toNat) 0,
    nth 0
      (nth [] q0 (IntKind.i64.wrap (x1 + x10)).toNat) 1,
    nth 0
      (nth [] q0 (IntKind.i64.wrap (x1 + x10)).toNat) 2]))
    none)
    none)
    none)
    none)
    (some q0))
def swpRg_l1_w (K k : Nat) : List U → Option (List (List Int)) := fun us => match us with | [.i x1, .i x2, .i x3, .i x10, .rr q0] => swpRg_l1 K k x1 x2 x3 x10 q0 | _ => none
theorem swpRg_l1_eq (K k : Nat) (x1 : Int) (x2 : Int) (x3 : Int) (x10 : Int) (q0 : List (List Int)) : (round1 Tryz.prog (env_insSo K) (lenv0) (lp (bodyOf Tryz.f101) 0) swpRg_l1_pre (.exit 0) swpRg_l1_post0 swpRg_l1_dec0 (swpRg_l1_w K k) [.i x1, .i x2, .i x3, .i x10, .rr q0]).den2 = swpRg_l1 K (k + 1) x1 x2 x3 x10 q0 := by kernel_rfl
def swpRg_l1_s (K : Nat) : Vm.LS := .one swpRg_l1_pre _ (.exit 0) swpRg_l1_post0 (swpRg_l1_w K K) swpRg_l1_enc0
theorem swpRg_l1_ok (K : Nat) : LoopOk Tryz.prog (lp (bodyOf Tryz.f101) 0) (swpRg_l1_s K) := loop_one hmix (env_insSo_ok K) (lenv := lenv0) (L := swpRg_l1_w K) (enc := swpRg_l1_enc0) (dec := swpRg_l1_dec0) (lps_ok (l := []) (by kernel_rfl) trivial) (fun u r h => by unfold swpRg_l1_dec0 at h; split at h; (cases h; rfl); cases h) (fun us => by unfold swpRg_l1_w; split <;> first | rfl | (simp only [swpRg_l1])) (fun k us r h => by unfold swpRg_l1_w at h; split at h; exact ((den2_eq _).symm.trans (swpRg_l1_eq K k _ _ _ _ _)).trans h; cases h) K
def swpRg_v1 (K : Nat) : Nat → Option Vm.LS := addL (lenv0) 1 (swpRg_l1_s K)
def swpRg_dec : List U → Option (List (List Int)) := fun u => match u with | [.rr q0] => some (q0) | _ => none
def swpRg_enc : (List (List Int)) → List U := fun r => [.rr r]
def swpRg (K : Nat) (q0 : List (List Int)) (x1 : Int) (x2 : Int) (x3 : Int) : Option (List (List Int)) := ((swpRg_l1 K K x1 x2 x3 0 q0).bind fun r0 => (bi (decide (r0.length = q0.length))
    (some r0)
    none))
theorem swpRg_eq (K : Nat) (q0 : List (List Int)) (x1 : Int) (x2 : Int) (x3 : Int) : (runF Tryz.prog (env_insSo K) (swpRg_v1 K) Tryz.f101 [.one (.recs [.i64, .u64, .i64] true), .one (.int .i64), .one (.int .i64), .one (.int .i64), .one (.fn 28)] [] swpRg_dec [.rr q0, .i x1, .i x2, .i x3, .n]).den2 = swpRg K q0 x1 x2 x3 := by kernel_rfl
def swpRg_w (K : Nat) : List U → Option (List (List Int)) := fun us => match us with | [.rr q0, .i x1, .i x2, .i x3, .n] => swpRg K q0 x1 x2 x3 | _ => none
def swpRg_spec (K : Nat) : Vm.Spec := ⟨[.one (.recs [.i64, .u64, .i64] true), .one (.int .i64), .one (.int .i64), .one (.int .i64), .one (.fn 28)], [], List (List Int), swpRg_w K, swpRg_enc⟩
theorem swpRg_ok (K : Nat) : FnOk Tryz.prog 101 (swpRg_spec K) := fn_ok' hmix (env_insSo_ok K) (lenv := swpRg_v1 K) (args := [.one (.recs [.i64, .u64, .i64] true), .one (.int .i64), .one (.int .i64), .one (.int .i64), .one (.fn 28)]) (res := []) (G := swpRg_w K) (enc := swpRg_enc) Tryz.func101 (lps_fn (l := [lp (bodyOf Tryz.f101) 0]) (by kernel_rfl) ⟨⟨1, swpRg_l1_s K, by kernel_rfl, by kernel_rfl, swpRg_l1_ok K⟩, trivial⟩) (dec := swpRg_dec) (fun u r h => by unfold swpRg_dec at h; split at h; (cases h; rfl); cases h) (fun us r h => by unfold swpRg_w at h; split at h; exact ((den2_eq _).symm.trans (swpRg_eq K _ _ _ _)).trans h; cases h)
def env_swpRg (K : Nat) : FuncId → Option Vm.Spec := addS (env_insSo K) 101 (swpRg_spec K)
theorem env_swpRg_ok (K : Nat) : EnvOk Tryz.prog (env_swpRg K) := addS_ok (env_insSo_ok K) (.inl ⟨callable Tryz.func101 (by kernel_rfl) (by kernel_rfl), swpRg_ok K⟩)
def rotCm_l2_pre : Vm.Pat := ⟨58, [(2, .pv (.one (.int .i64))), (4, .pv (.one (.fn 28))), (10, .pv (.one (.int .i64))), (11, .pv (.one (.int .i64))), (0, .slf 0)], [.recs [.i64, .u64, .i64]], [0]⟩
def rotCm_l2_post0 : Vm.Pat := ⟨58, [(2, .pv (.one (.int .i64))), (4, .pv (.one (.fn 28))), (10, .pv (.one (.int .i64))), (0, .slf 0)], [.recs [.i64, .u64, .i64]], [0]⟩
def rotCm_l2_enc0 : Int × Int × List (List Int) → List U := fun r => [.i r.1, .n, .i r.2.1, .rr r.2.2]
def rotCm_l2_dec0 : List U → Option (Int × Int × List (List Int)) := fun u => match u with | [.i x2, .n, .i x10, .rr q0] => some (x2, x10, q0) | _ => none
def rotCm_l2 (K : Nat) : Nat → Int → Int → Int → List (List Int) → Option (Int × Int × List (List Int))
  | 0, _, _, _, _ => none
  | k + 1, x2, x10, x11, q0 => (bi (x10 != x11)
    (bi (decide (x10 > x11))
    ((swpRg K q0 (IntKind.i64.wrap (x2 - x10)) x2 x11).bind fun r0 => (rotCm_l2 K k (x2) (IntKind.i64.wrap (x10 - x11)) (x11) (r0)))
    ((swpRg K q0 (IntKind.i64.wrap (x2 - x10))
  (IntKind.i64.wrap (IntKind.i64.wrap (x2 + x11) - x10)) x10).bind fun r1 => (rotCm_l2 K k (x2) (x10) (IntKind.i64.wrap (x11 - x10)) (r1))))
    (some ((x2, x10, q0))))
def rotCm_l2_w (K k : Nat) : List U → Option (Int × Int × List (List Int)) := fun us => match us with | [.i x2, .n, .i x10, .i x11, .rr q0] => rotCm_l2 K k x2 x10 x11 q0 | _ => none
theorem rotCm_l2_eq (K k : Nat) (x2 : Int) (x10 : Int) (x11 : Int) (q0 : List (List Int)) : (round1 Tryz.prog (env_swpRg K) (lenv0) (lp (bodyOf Tryz.f93) 0) rotCm_l2_pre (.exit 0) rotCm_l2_post0 rotCm_l2_dec0 (rotCm_l2_w K k) [.i x2, .n, .i x10, .i x11, .rr q0]).den2 = rotCm_l2 K (k + 1) x2 x10 x11 q0 := by kernel_rfl
def rotCm_l2_s (K : Nat) : Vm.LS := .one rotCm_l2_pre _ (.exit 0) rotCm_l2_post0 (rotCm_l2_w K K) rotCm_l2_enc0
theorem rotCm_l2_ok (K : Nat) : LoopOk Tryz.prog (lp (bodyOf Tryz.f93) 0) (rotCm_l2_s K) := loop_one hmix (env_swpRg_ok K) (lenv := lenv0) (L := rotCm_l2_w K) (enc := rotCm_l2_enc0) (dec := rotCm_l2_dec0) (lps_ok (l := []) (by kernel_rfl) trivial) (fun u r h => by unfold rotCm_l2_dec0 at h; split at h; (cases h; rfl); cases h) (fun us => by unfold rotCm_l2_w; split <;> first | rfl | (simp only [rotCm_l2])) (fun k us r h => by unfold rotCm_l2_w at h; split at h; exact ((den2_eq _).symm.trans (rotCm_l2_eq K k _ _ _ _)).trans h; cases h) K
def rotCm_v2 (K : Nat) : Nat → Option Vm.LS := addL (lenv0) 2 (rotCm_l2_s K)
def rotCm_dec : List U → Option (List (List Int)) := fun u => match u with | [.rr q0] => some (q0) | _ => none
def rotCm_enc : (List (List Int)) → List U := fun r => [.rr r]
def rotCm (K : Nat) (q0 : List (List Int)) (x1 : Int) (x2 : Int) (x3 : Int) : Option (List (List Int)) := ((rotCm_l2 K K x2 (IntKind.i64.wrap (x2 - x1))
  (IntKind.i64.wrap (x3 - x2)) q0).bind fun r0 => ((swpRg K r0.snd.snd
  (IntKind.i64.wrap (r0.fst - r0.snd.fst)) r0.fst r0.snd.fst).bind fun r1 => (bi (decide (List.length r1 = q0.length))
    (some r1)
    none)))
theorem rotCm_eq (K : Nat) (q0 : List (List Int)) (x1 : Int) (x2 : Int) (x3 : Int) : (runF Tryz.prog (env_swpRg K) (rotCm_v2 K) Tryz.f93 [.one (.recs [.i64, .u64, .i64] true), .one (.int .i64), .one (.int .i64), .one (.int .i64), .one (.fn 28)] [] rotCm_dec [.rr q0, .i x1, .i x2, .i x3, .n]).den2 = rotCm K q0 x1 x2 x3 := by kernel_rfl
def rotCm_w (K : Nat) : List U → Option (List (List Int)) := fun us => match us with | [.rr q0, .i x1, .i x2, .i x3, .n] => rotCm K q0 x1 x2 x3 | _ => none
def rotCm_spec (K : Nat) : Vm.Spec := ⟨[.one (.recs [.i64, .u64, .i64] true), .one (.int .i64), .one (.int .i64), .one (.int .i64), .one (.fn 28)], [], List (List Int), rotCm_w K, rotCm_enc⟩
theorem rotCm_ok (K : Nat) : FnOk Tryz.prog 93 (rotCm_spec K) := fn_ok' hmix (env_swpRg_ok K) (lenv := rotCm_v2 K) (args := [.one (.recs [.i64, .u64, .i64] true), .one (.int .i64), .one (.int .i64), .one (.int .i64), .one (.fn 28)]) (res := []) (G := rotCm_w K) (enc := rotCm_enc) Tryz.func93 (lps_fn (l := [lp (bodyOf Tryz.f93) 0]) (by kernel_rfl) ⟨⟨2, rotCm_l2_s K, by kernel_rfl, by kernel_rfl, rotCm_l2_ok K⟩, trivial⟩) (dec := rotCm_dec) (fun u r h => by unfold rotCm_dec at h; split at h; (cases h; rfl); cases h) (fun us r h => by unfold rotCm_w at h; split at h; exact ((den2_eq _).symm.trans (rotCm_eq K _ _ _ _)).trans h; cases h)
def env_rotCm (K : Nat) : FuncId → Option Vm.Spec := addS (env_swpRg K) 93 (rotCm_spec K)
theorem env_rotCm_ok (K : Nat) : EnvOk Tryz.prog (env_rotCm K) := addS_ok (env_swpRg_ok K) (.inl ⟨callable Tryz.func93 (by kernel_rfl) (by kernel_rfl), rotCm_ok K⟩)
def symMg_l33_pre : Vm.Pat := ⟨220, [(1, .pv (.one (.int .i64))), (2, .pv (.one (.int .i64))), (3, .pv (.one (.int .i64))), (4, .pv (.one (.fn 28))), (18, .pv (.one (.int .i64))), (19, .pv (.one (.int .i64))), (20, .pv (.one (.int .i64))), (21, .pv (.one (.int .i64))), (22, .pv (.one (.int .i64))), (0, .slf 0)], [.recs [.i64, .u64, .i64]], [0]⟩
def symMg_l33_post0 : Vm.Pat := ⟨220, [(1, .pv (.one (.int .i64))), (2, .pv (.one (.int .i64))), (3, .pv (.one (.int .i64))), (4, .pv (.one (.fn 28))), (18, .pv (.one (.int .i64))), (19, .pv (.one (.int .i64))), (20, .pv (.one (.int .i64))), (0, .slf 0)], [.recs [.i64, .u64, .i64]], [0]⟩
def symMg_l33_enc0 : Int × Int × Int × Int × Int × Int × List (List Int) → List U := fun r => [.i r.1, .i r.2.1, .i r.2.2.1, .n, .i r.2.2.2.1, .i r.2.2.2.2.1, .i r.2.2.2.2.2.1, .rr r.2.2.2.2.2.2]
def symMg_l33_dec0 : List U → Option (Int × Int × Int × Int × Int × Int × List (List Int)) := fun u => match u with | [.i x1, .i x2, .i x3, .n, .i x18, .i x19, .i x20, .rr q0] => some (x1, x2, x3, x18, x19, x20, q0) | _ => none
def symMg_l33 (K : Nat) : Nat → Int → Int → Int → Int → Int → Int → Int → Int → List (List Int) → Option (Int × Int × Int × Int × Int × Int × List (List Int))
  | 0, _, _, _, _, _, _, _, _, _ => none
  | k + 1, x1, x2, x3, x18, x19, x20, x21, x22, q0 => (bi (decide (x20 < x21))
    (bi (decide
    (0 ≤
      IntKind.i64.wrap
        (x22 - IntKind.i64.wrap ((IntKind.u64.wrap (IntKind.i64.wrap (x20 + x21))).fdiv 2))) &&
  decide
    (IntKind.i64.wrap (x22 - IntKind.i64.wrap ((IntKind.u64.wrap (IntKind.i64.wrap (x20 + x21))).fdiv 2)) <
      (↑q0.length : Int)))
    (bi (decide (0 ≤ IntKind.i64.wrap ((IntKind.u64.wrap (IntKind.i64.wrap (x20 + x21))).fdiv 2)) &&
  decide
    (IntKind.i64.wrap ((IntKind.u64.wrap (IntKind.i64.wrap (x20 + x21))).fdiv 2) < (↑q0.length : Int)))
    ((money_Split_1 K
  (nth 0
    (nth [] q0
      (IntKind.i64.wrap
          (x22 - IntKind.i64.wrap ((IntKind.u64.wrap (IntKind.i64.wrap (x20 + x21))).fdiv 2))).toNat)
    0)
  (nth 0
    (nth [] q0
      (IntKind.i64.wrap
          (x22 - IntKind.i64.wrap ((IntKind.u64.wrap (IntKind.i64.wrap (x20 + x21))).fdiv 2))).toNat)
    1)
  (nth 0
    (nth [] q0
      (IntKind.i64.wrap
          (x22 - IntKind.i64.wrap ((IntKind.u64.wrap (IntKind.i64.wrap (x20 + x21))).fdiv 2))).toNat)
    2)
  (nth 0
    (nth [] q0
      (IntKind.i64.wrap ((IntKind.u64.wrap (IntKind.i64.wrap (x20 + x21))).fdiv 2)).toNat)
    0)
  (nth 0
    (nth [] q0
      (IntKind.i64.wrap ((IntKind.u64.wrap (IntKind.i64.wrap (x20 + x21))).fdiv 2)).toNat)
    1)
  (nth 0
    (nth [] q0
      (IntKind.i64.wrap ((IntKind.u64.wrap (IntKind.i64.wrap (x20 + x21))).fdiv 2)).toNat)
    2)).bind fun r0 => (bi (!decide (r0 < 0))
    (symMg_l33 K k (x1) (x2) (x3) (x18) (x19) (IntKind.i64.wrap (IntKind.i64.wrap ((IntKind.u64.wrap (IntKind.i64.wrap (x20 + x21))).fdiv 2) + 1)) (x21) (x22) (q0))
    (symMg_l33 K k (x1) (x2) (x3) (x18) (x19) (x20) (IntKind.i64.wrap ((IntKind.u64.wrap (IntKind.i64.wrap (x20 + x21))).fdiv 2)) (x22) (q0))))
    none)
    none)
    (some ((x1, x2, x3, x18, x19, x20, q0))))
def symMg_l33_w (K k : Nat) : List U → Option (Int × Int × Int × Int × Int × Int × List (List Int)) := fun us => match us with | [.i x1, .i x2, .i x3, .n, .i x18, .i x19, .i x20, .i x21, .i x22, .rr q0] => symMg_l33 K k x1 x2 x3 x18 x19 x20 x21 x22 q0 | _ => none
theorem symMg_l33_eq (K k : Nat) (x1 : Int) (x2 : Int) (x3 : Int) (x18 : Int) (x19 : Int) (x20 : Int) (x21 : Int) (x22 : Int) (q0 : List (List Int)) : (round1 Tryz.prog (env_rotCm K) (lenv0) (lp (bodyOf Tryz.f79) 4) symMg_l33_pre (.exit 8) symMg_l33_post0 symMg_l33_dec0 (symMg_l33_w K k) [.i x1, .i x2, .i x3, .n, .i x18, .i x19, .i x20, .i x21, .i x22, .rr q0]).den2 = symMg_l33 K (k + 1) x1 x2 x3 x18 x19 x20 x21 x22 q0 := by kernel_rfl
def symMg_l33_s (K : Nat) : Vm.LS := .one symMg_l33_pre _ (.exit 8) symMg_l33_post0 (symMg_l33_w K K) symMg_l33_enc0
theorem symMg_l33_ok (K : Nat) : LoopOk Tryz.prog (lp (bodyOf Tryz.f79) 4) (symMg_l33_s K) := loop_one hmix (env_rotCm_ok K) (lenv := lenv0) (L := symMg_l33_w K) (enc := symMg_l33_enc0) (dec := symMg_l33_dec0) (lps_ok (l := []) (by kernel_rfl) trivial) (fun u r h => by unfold symMg_l33_dec0 at h; split at h; (cases h; rfl); cases h) (fun us => by unfold symMg_l33_w; split <;> first | rfl | (simp only [symMg_l33])) (fun k us r h => by unfold symMg_l33_w at h; split at h; exact ((den2_eq _).symm.trans (symMg_l33_eq K k _ _ _ _ _ _ _ _ _)).trans h; cases h) K
def symMg_v33 (K : Nat) : Nat → Option Vm.LS := addL (lenv0) 33 (symMg_l33_s K)
def symMg_l21_pre : Vm.Pat := ⟨220, [(14, .pv (.one (.int .i64))), (17, .pv (.one (.int .i64))), (0, .slf 0)], [.recs [.i64, .u64, .i64]], [0]⟩
def symMg_l21_post0 : Vm.Pat := ⟨220, [(0, .slf 0)], [.recs [.i64, .u64, .i64]], [0]⟩
def symMg_l21_enc0 : List (List Int) → List U := fun r => [.rr r]
def symMg_l21_dec0 : List U → Option (List (List Int)) := fun u => match u with | [.rr q0] => some (q0) | _ => none
def symMg_l21 (K : Nat) : Nat → Int → Int → List (List Int) → Option (List (List Int))
  | 0, _, _, _ => none
  | k + 1, x14, x17, q0 => (bi (decide (x17 > x14))
    (bi (decide (0 ≤ IntKind.i64.wrap (x17 - 1)) &&
  decide (IntKind.i64.wrap (x17 - 1) < (↑q0.length : Int)))
    (bi (decide (0 ≤ x17) && decide (x17 < (↑q0.length : Int)))
    (bi (decide (0 ≤ x17) && decide (x17 < (↑q0.length : Int)))
    (bi (decide (0 ≤ IntKind.i64.wrap (x17 - 1)) &&
  decide
    (IntKind.i64.wrap (x17 - 1) <
      (↑(q0.set x17.toNat
              [nth 0
                  (nth [] q0 (IntKind.i64.wrap (x17 - 1)).toNat) 0,
                nth 0
                  (nth [] q0 (IntKind.i64.wrap (x17 - 1)).toNat) 1,
                nth 0
                  (nth [] q0 (IntKind.i64.wrap (x17 - 1)).toNat) 2]).length :
        Int)))
    (symMg_l21 K k (x14) (IntKind.i64.wrap (x17 - 1)) ((q0.set x17.toNat
      [nth 0
          (nth [] q0 (IntKind.i64.wrap (x17 - 1)).toNat) 0,
        nth 0
          (nth [] q0 (IntKind.i64.wrap (x17 - 1)).toNat) 1,
        nth 0
          (nth [] q0 (IntKind.i64.wrap (x17 - 1)).toNat) 2]).set
  (IntKind.i64.wrap (x17 - 1)).toNat
  [nth 0 (nth [] q0 x17.toNat) 0,
    nth 0 (nth [] q0 x17.toNat) 1,
    nth 0 (nth [] q0 x17.toNat) 2]))
    none)
    none)
    none)
    none)
    (some q0))
def symMg_l21_w (K k : Nat) : List U → Option (List (List Int)) := fun us => match us with | [.i x14, .i x17, .rr q0] => symMg_l21 K k x14 x17 q0 | _ => none
theorem symMg_l21_eq (K k : Nat) (x14 : Int) (x17 : Int) (q0 : List (List Int)) : (round1 Tryz.prog (env_rotCm K) (symMg_v33 K) (lp (bodyOf Tryz.f79) 3) symMg_l21_pre (.exit 6) symMg_l21_post0 symMg_l21_dec0 (symMg_l21_w K k) [.i x14, .i x17, .rr q0]).den2 = symMg_l21 K (k + 1) x14 x17 q0 := by kernel_rfl
def symMg_l21_s (K : Nat) : Vm.LS := .one symMg_l21_pre _ (.exit 6) symMg_l21_post0 (symMg_l21_w K K) symMg_l21_enc0
theorem symMg_l21_ok (K : Nat) : LoopOk Tryz.prog (lp (bodyOf Tryz.f79) 3) (symMg_l21_s K) := loop_one hmix (env_rotCm_ok K) (lenv := symMg_v33 K) (L := symMg_l21_w K) (enc := symMg_l21_enc0) (dec := symMg_l21_dec0) (lps_ok (l := []) (by kernel_rfl) trivial) (fun u r h => by unfold symMg_l21_dec0 at h; split at h; (cases h; rfl); cases h) (fun us => by unfold symMg_l21_w; split <;> first | rfl | (simp only [symMg_l21])) (fun k us r h => by unfold symMg_l21_w at h; split at h; exact ((den2_eq _).symm.trans (symMg_l21_eq K k _ _ _)).trans h; cases h) K
def symMg_v21 (K : Nat) : Nat → Option Vm.LS := addL (symMg_v33 K) 21 (symMg_l21_s K)
def symMg_l15_pre : Vm.Pat := ⟨220, [(2, .pv (.one (.int .i64))), (4, .pv (.one (.fn 28))), (14, .pv (.one (.int .i64))), (15, .pv (.one (.int .i64))), (0, .slf 0)], [.recs [.i64, .u64, .i64]], [0]⟩
def symMg_l15_post0 : Vm.Pat := ⟨220, [(2, .pv (.one (.int .i64))), (14, .pv (.one (.int .i64))), (0, .slf 0)], [.recs [.i64, .u64, .i64]], [0]⟩
def symMg_l15_enc0 : Int × Int × List (List Int) → List U := fun r => [.i r.1, .i r.2.1, .rr r.2.2]
def symMg_l15_dec0 : List U → Option (Int × Int × List (List Int)) := fun u => match u with | [.i x2, .i x14, .rr q0] => some (x2, x14, q0) | _ => none
def symMg_l15 (K : Nat) : Nat → Int → Int → Int → List (List Int) → Option (Int × Int × List (List Int))
  | 0, _, _, _, _ => none
  | k + 1, x2, x14, x15, q0 => (bi (decide (x14 < x15))
    (bi (decide (0 ≤ x2) && decide (x2 < (↑q0.length : Int)))
    (bi (decide (0 ≤ IntKind.i64.wrap ((IntKind.u64.wrap (IntKind.i64.wrap (x14 + x15))).fdiv 2)) &&
  decide
    (IntKind.i64.wrap ((IntKind.u64.wrap (IntKind.i64.wrap (x14 + x15))).fdiv 2) < (↑q0.length : Int)))
    ((money_Split_1 K
  (nth 0 (nth [] q0 x2.toNat) 0)
  (nth 0 (nth [] q0 x2.toNat) 1)
  (nth 0 (nth [] q0 x2.toNat) 2)
  (nth 0
    (nth [] q0
      (IntKind.i64.wrap ((IntKind.u64.wrap (IntKind.i64.wrap (x14 + x15))).fdiv 2)).toNat)
    0)
  (nth 0
    (nth [] q0
      (IntKind.i64.wrap ((IntKind.u64.wrap (IntKind.i64.wrap (x14 + x15))).fdiv 2)).toNat)
    1)
  (nth 0
    (nth [] q0
      (IntKind.i64.wrap ((IntKind.u64.wrap (IntKind.i64.wrap (x14 + x15))).fdiv 2)).toNat)
    2)).bind fun r0 => (bi (!decide (r0 < 0))
    (symMg_l15 K k (x2) (IntKind.i64.wrap (IntKind.i64.wrap ((IntKind.u64.wrap (IntKind.i64.wrap (x14 + x15))).fdiv 2) + 1)) (x15) (q0))
    (symMg_l15 K k (x2) (x14) (IntKind.i64.wrap ((IntKind.u64.wrap (IntKind.i64.wrap (x14 + x15))).fdiv 2)) (q0))))
    none)
    none)
    (some ((x2, x14, q0))))
def symMg_l15_w (K k : Nat) : List U → Option (Int × Int × List (List Int)) := fun us => match us with | [.i x2, .n, .i x14, .i x15, .rr q0] => symMg_l15 K k x2 x14 x15 q0 | _ => none
theorem symMg_l15_eq (K k : Nat) (x2 : Int) (x14 : Int) (x15 : Int) (q0 : List (List Int)) : (round1 Tryz.prog (env_rotCm K) (symMg_v21 K) (lp (bodyOf Tryz.f79) 2) symMg_l15_pre (.exit 4) symMg_l15_post0 symMg_l15_dec0 (symMg_l15_w K k) [.i x2, .n, .i x14, .i x15, .rr q0]).den2 = symMg_l15 K (k + 1) x2 x14 x15 q0 := by kernel_rfl
def symMg_l15_s (K : Nat) : Vm.LS := .one symMg_l15_pre _ (.exit 4) symMg_l15_post0 (symMg_l15_w K K) symMg_l15_enc0
theorem symMg_l15_ok (K : Nat) : LoopOk Tryz.prog (lp (bodyOf Tryz.f79) 2) (symMg_l15_s K) := loop_one hmix (env_rotCm_ok K) (lenv := symMg_v21 K) (L := symMg_l15_w K) (enc := symMg_l15_enc0) (dec := symMg_l15_dec0) (lps_ok (l := []) (by kernel_rfl) trivial) (fun u r h => by unfold symMg_l15_dec0 at h; split at h; (cases h; rfl); cases h) (fun us => by unfold symMg_l15_w; split <;> first | rfl | (simp only [symMg_l15])) (fun k us r h => by unfold symMg_l15_w at h; split at h; exact ((den2_eq _).symm.trans (symMg_l15_eq K k _ _ _ _)).trans h; cases h) K
def symMg_v15 (K : Nat) : Nat → Option Vm.LS := addL (symMg_v21 K) 15 (symMg_l15_s K)
def symMg_l9_pre : Vm.Pat := ⟨220, [(10, .pv (.one (.int .i64))), (13, .pv (.one (.int .i64))), (0, .slf 0)], [.recs [.i64, .u64, .i64]], [0]⟩
def symMg_l9_post0 : Vm.Pat := ⟨220, [(0, .slf 0)], [.recs [.i64, .u64, .i64]], [0]⟩
def symMg_l9_enc0 : List (List Int) → List U := fun r => [.rr r]
def symMg_l9_dec0 : List U → Option (List (List Int)) := fun u => match u with | [.rr q0] => some (q0) | _ => none
def symMg_l9 (K : Nat) : Nat → Int → Int → List (List Int) → Option (List (List Int))
  | 0, _, _, _ => none
  | k + 1, x10, x13, q0 => (bi (decide (x13 < IntKind.i64.wrap (x10 - 1)))
    (bi (decide (0 ≤ IntKind.i64.wrap (x13 + 1)) &&
  decide (IntKind.i64.wrap (x13 + 1) < (↑q0.length : Int)))
    (bi (decide (0 ≤ x13) && decide (x13 < (↑q0.length : Int)))
    (bi (decide (0 ≤ x13) && decide (x13 < (↑q0.length : Int)))
    (bi (decide (0 ≤ IntKind.i64.wrap (x13 + 1)) &&
  decide
    (IntKind.i64.wrap (x13 + 1) <
      (↑(q0.set x13.toNat
              [nth 0
                  (nth [] q0 (IntKind.i64.wrap (x13 + 1)).toNat) 0,
                nth 0
                  (nth [] q0 (IntKind.i64.wrap (x13 + 1)).toNat) 1,
                nth 0
                  (nth [] q0 (IntKind.i64.wrap (x13 + 1)).toNat) 2]).length :
        Int)))
    (symMg_l9 K k (x10) (IntKind.i64.wrap (x13 + 1)) ((q0.set x13.toNat
      [nth 0
          (nth [] q0 (IntKind.i64.wrap (x13 + 1)).toNat) 0,
        nth 0
          (nth [] q0 (IntKind.i64.wrap (x13 + 1)).toNat) 1,
        nth 0
          (nth [] q0 (IntKind.i64.wrap (x13 + 1)).toNat) 2]).set
  (IntKind.i64.wrap (x13 + 1)).toNat
  [nth 0 (nth [] q0 x13.toNat) 0,
    nth 0 (nth [] q0 x13.toNat) 1,
    nth 0 (nth [] q0 x13.toNat) 2]))
    none)
    none)
    none)
    none)
    (some q0))
def symMg_l9_w (K k : Nat) : List U → Option (List (List Int)) := fun us => match us with | [.i x10, .i x13, .rr q0] => symMg_l9 K k x10 x13 q0 | _ => none
theorem symMg_l9_eq (K k : Nat) (x10 : Int) (x13 : Int) (q0 : List (List Int)) : (round1 Tryz.prog (env_rotCm K) (symMg_v15 K) (lp (bodyOf Tryz.f79) 1) symMg_l9_pre (.exit 2) symMg_l9_post0 symMg_l9_dec0 (symMg_l9_w K k) [.i x10, .i x13, .rr q0]).den2 = symMg_l9 K (k + 1) x10 x13 q0 := by kernel_rfl
def symMg_l9_s (K : Nat) : Vm.LS := .one symMg_l9_pre _ (.exit 2) symMg_l9_post0 (symMg_l9_w K K) symMg_l9_enc0
theorem symMg_l9_ok (K : Nat) : LoopOk Tryz.prog (lp (bodyOf Tryz.f79) 1) (symMg_l9_s K) := loop_one hmix (env_rotCm_ok K) (lenv := symMg_v15 K) (L := symMg_l9_w K) (enc := symMg_l9_enc0) (dec := symMg_l9_dec0) (lps_ok (l := []) (by kernel_rfl) trivial) (fun u r h => by unfold symMg_l9_dec0 at h; split at h; (cases h; rfl); cases h) (fun us => by unfold symMg_l9_w; split <;> first | rfl | (simp only [symMg_l9])) (fun k us r h => by unfold symMg_l9_w at h; split at h; exact ((den2_eq _).symm.trans (symMg_l9_eq K k _ _ _)).trans h; cases h) K
def symMg_v9 (K : Nat) : Nat → Option Vm.LS := addL (symMg_v15 K) 9 (symMg_l9_s K)
def symMg_l3_pre : Vm.Pat := ⟨220, [(1, .pv (.one (.int .i64))), (4, .pv (.one (.fn 28))), (10, .pv (.one (.int .i64))), (11, .pv (.one (.int .i64))), (0, .slf 0)], [.recs [.i64, .u64, .i64]], [0]⟩
def symMg_l3_post0 : Vm.Pat := ⟨220, [(1, .pv (.one (.int .i64))), (10, .pv (.one (.int .i64))), (0, .slf 0)], [.recs [.i64, .u64, .i64]], [0]⟩
def symMg_l3_enc0 : Int × Int × List (List Int) → List U := fun r => [.i r.1, .i r.2.1, .rr r.2.2]
def symMg_l3_dec0 : List U → Option (Int × Int × List (List Int)) := fun u => match u with | [.i x1, .i x10, .rr q0] => some (x1, x10, q0) | _ => none
def symMg_l3 (K : Nat) : Nat → Int → Int → Int → List (List Int) → Option (Int × Int × List (List Int))
  | 0, _, _, _, _ => none
  | k + 1, x1, x10, x11, q0 => (bi (decide (x10 < x11))
    (bi (decide (0 ≤ IntKind.i64.wrap ((IntKind.u64.wrap (IntKind.i64.wrap (x10 + x11))).fdiv 2)) &&
  decide
    (IntKind.i64.wrap ((IntKind.u64.wrap (IntKind.i64.wrap (x10 + x11))).fdiv 2) < (↑q0.length : Int)))
    (bi (decide (0 ≤ x1) && decide (x1 < (↑q0.length : Int)))
    ((money_Split_1 K
  (nth 0
    (nth [] q0
      (IntKind.i64.wrap ((IntKind.u64.wrap (IntKind.i64.wrap (x10 + x11))).fdiv 2)).toNat)
    0)
  (nth 0
    (nth [] q0
      (IntKind.i64.wrap ((IntKind.u64.wrap (IntKind.i64.wrap (x10 + x11))).fdiv 2)).toNat)
    1)
  (nth 0
    (nth [] q0
      (IntKind.i64.wrap ((IntKind.u64.wrap (IntKind.i64.wrap (x10 + x11))).fdiv 2)).toNat)
    2)
  (nth 0 (nth [] q0 x1.toNat) 0)
  (nth 0 (nth [] q0 x1.toNat) 1)
  (nth 0 (nth [] q0 x1.toNat) 2)).bind fun r0 => (bi (decide (r0 < 0))
    (symMg_l3 K k (x1) (IntKind.i64.wrap (IntKind.i64.wrap ((IntKind.u64.wrap (IntKind.i64.wrap (x10 + x11))).fdiv 2) + 1)) (x11) (q0))
    (symMg_l3 K k (x1) (x10) (IntKind.i64.wrap ((IntKind.u64.wrap (IntKind.i64.wrap (x10 + x11))).fdiv 2)) (q0))))
    none)
    none)
    (some ((x1, x10, q0))))
def symMg_l3_w (K k : Nat) : List U → Option (Int × Int × List (List Int)) := fun us => match us with | [.i x1, .n, .i x10, .i x11, .rr q0] => symMg_l3 K k x1 x10 x11 q0 | _ => none
theorem symMg_l3_eq (K k : Nat) (x1 : Int) (x10 : Int) (x11 : Int) (q0 : List (List Int)) : (round1 Tryz.prog (env_rotCm K) (symMg_v9 K) (lp (bodyOf Tryz.f79) 0) symMg_l3_pre (.exit 0) symMg_l3_post0 symMg_l3_dec0 (symMg_l3_w K k) [.i x1, .n, .i x10, .i x11, .rr q0]).den2 = symMg_l3 K (k + 1) x1 x10 x11 q0 := by kernel_rfl
def symMg_l3_s (K : Nat) : Vm.LS := .one symMg_l3_pre _ (.exit 0) symMg_l3_post0 (symMg_l3_w K K) symMg_l3_enc0
theorem symMg_l3_ok (K : Nat) : LoopOk Tryz.prog (lp (bodyOf Tryz.f79) 0) (symMg_l3_s K) := loop_one hmix (env_rotCm_ok K) (lenv := symMg_v9 K) (L := symMg_l3_w K) (enc := symMg_l3_enc0) (dec := symMg_l3_dec0) (lps_ok (l := []) (by kernel_rfl) trivial) (fun u r h => by unfold symMg_l3_dec0 at h; split at h; (cases h; rfl); cases h) (fun us => by unfold symMg_l3_w; split <;> first | rfl | (simp only [symMg_l3])) (fun k us r h => by unfold symMg_l3_w at h; split at h; exact ((den2_eq _).symm.trans (symMg_l3_eq K k _ _ _ _)).trans h; cases h) K
def symMg_v3 (K : Nat) : Nat → Option Vm.LS := addL (symMg_v9 K) 3 (symMg_l3_s K)
def symMg_dec : List U → Option (List (List Int)) := fun u => match u with | [.rr q0] => some (q0) | _ => none
def symMg_enc : (List (List Int)) → List U := fun r => [.rr r]
def symMg_r (K : Nat) : Nat → List (List Int) → Int → Int → Int → Option (List (List Int))
  | 0, _, _, _, _ => none
  | k + 1, q0, x1, x2, x3 => (bi (IntKind.i64.wrap (x2 - x1) == 1)
    ((symMg_l3 K K x1 x2 x3 q0).bind fun r0 => ((symMg_l9 K K r0.snd.fst r0.fst r0.snd.snd).bind fun r1 => (bi (decide (r1.length = q0.length))
    (some r1)
    none)))
    (bi (IntKind.i64.wrap (x3 - x2) == 1)
    ((symMg_l15 K K x2 x1 x2 q0).bind fun r2 => ((symMg_l21 K K r2.snd.fst r2.fst r2.snd.snd).bind fun r3 => (bi (decide (r3.length = q0.length))
    (some r3)
    none)))
    (bi (decide (x2 > IntKind.i64.wrap ((IntKind.u64.wrap (IntKind.i64.wrap (x1 + x3))).fdiv 2)))
    ((symMg_l33 K K x1 x2 x3
  (IntKind.i64.wrap ((IntKind.u64.wrap (IntKind.i64.wrap (x1 + x3))).fdiv 2))
  (IntKind.i64.wrap (IntKind.i64.wrap ((IntKind.u64.wrap (IntKind.i64.wrap (x1 + x3))).fdiv 2) + x2))
  (IntKind.i64.wrap
    (IntKind.i64.wrap (IntKind.i64.wrap ((IntKind.u64.wrap (IntKind.i64.wrap (x1 + x3))).fdiv 2) + x2) -
      x3))
  (IntKind.i64.wrap ((IntKind.u64.wrap (IntKind.i64.wrap (x1 + x3))).fdiv 2))
  (IntKind.i64.wrap
    (IntKind.i64.wrap (IntKind.i64.wrap ((IntKind.u64.wrap (IntKind.i64.wrap (x1 + x3))).fdiv 2) + x2) - 1))
  q0).bind fun r4 => (bi (decide (r4.snd.snd.snd.snd.snd.fst < r4.snd.fst))
    (bi (decide (r4.snd.fst < IntKind.i64.wrap (r4.snd.snd.snd.snd.fst - r4.snd.snd.snd.snd.snd.fst)))
    ((rotCm K r4.snd.snd.snd.snd.snd.snd
  r4.snd.snd.snd.snd.snd.fst r4.snd.fst (IntKind.i64.wrap (r4.snd.snd.snd.snd.fst - r4.snd.snd.snd.snd.snd.fst))).bind fun r5 => (bi (decide (r4.fst < r4.snd.snd.snd.snd.snd.fst))
    (bi (decide (r4.snd.snd.snd.snd.snd.fst < r4.snd.snd.snd.fst))
    ((symMg_r K k (r5) (r4.fst) (r4.snd.snd.snd.snd.snd.fst) (r4.snd.snd.snd.fst)).bind fun r6 => (bi (decide (r4.snd.snd.snd.fst < IntKind.i64.wrap (r4.snd.snd.snd.snd.fst - r4.snd.snd.snd.snd.snd.fst)))
    (bi (decide (IntKind.i64.wrap (r4.snd.snd.snd.snd.fst - r4.snd.snd.snd.snd.snd.fst) < r4.snd.snd.fst))
    ((symMg_r K k (r6) (r4.snd.snd.snd.fst) (IntKind.i64.wrap (r4.snd.snd.snd.snd.fst - r4.snd.snd.snd.snd.snd.fst)) (r4.snd.snd.fst)).bind fun r7 => (bi (decide (List.length r7 = q0.length))
    (some r7)
    none))
    (bi (decide (List.length r6 = q0.length))
    (some r6)
    none))
    (bi (decide (List.length r6 = q0.length))
    (some r6)
    none)))
    (bi (decide (r4.snd.snd.snd.fst < IntKind.i64.wrap (r4.snd.snd.snd.snd.fst - r4.snd.snd.snd.snd.snd.fst)))
    (bi (decide (IntKind.i64.wrap (r4.snd.snd.snd.snd.fst - r4.snd.snd.snd.snd.snd.fst) < r4.snd.snd.fst))
    ((symMg_r K k (r5) (r4.snd.snd.snd.fst) (IntKind.i64.wrap (r4.snd.snd.snd.snd.fst - r4.snd.snd.snd.snd.snd.fst)) (r4.snd.snd.fst)).bind fun r8 => (bi (decide (List.length r8 = q0.length))
    (some r8)
    none))
    (bi (decide (List.length r5 = q0.length))
    (some r5)
    none))
    (bi (decide (List.length r5 = q0.length))
    (some r5)
    none)))
    (bi (decide (r4.snd.snd.snd.fst < IntKind.i64.wrap (r4.snd.snd.snd.snd.fst - r4.snd.snd.snd.snd.snd.fst)))
    (bi (decide (IntKind.i64.wrap (r4.snd.snd.snd.snd.fst - r4.snd.snd.snd.snd.snd.fst) < r4.snd.snd.fst))
    ((symMg_r K k (r5) (r4.snd.snd.snd.fst) (IntKind.i64.wrap (r4.snd.snd.snd.snd.fst - r4.snd.snd.snd.snd.snd.fst)) (r4.snd.snd.fst)).bind fun r9 => (bi (decide (List.length r9 = q0.length))
    (some r9)
    none))
    (bi (decide (List.length r5 = q0.length))
    (some r5)
    none))
    (bi (decide (List.length r5 = q0.length))
    (some r5)
    none))))
    (bi (decide (r4.fst < r4.snd.snd.snd.snd.snd.fst))
    (bi (decide (r4.snd.snd.snd.snd.snd.fst < r4.snd.snd.snd.fst))
    ((symMg_r K k (r4.snd.snd.snd.snd.snd.snd) (r4.fst) (r4.snd.snd.snd.snd.snd.fst) (r4.snd.snd.snd.fst)).bind fun r10 => (bi (decide (r4.snd.snd.snd.fst < IntKind.i64.wrap (r4.snd.snd.snd.snd.fst - r4.snd.snd.snd.snd.snd.fst)))
    (bi (decide (IntKind.i64.wrap (r4.snd.snd.snd.snd.fst - r4.snd.snd.snd.snd.snd.fst) < r4.snd.snd.fst))
    ((symMg_r K k (r10) (r4.snd.snd.snd.fst) (IntKind.i64.wrap (r4.snd.snd.snd.snd.fst - r4.snd.snd.snd.snd.snd.fst)) (r4.snd.snd.fst)).bind fun r11 => (bi (decide (List.length r11 = q0.length))
    (some r11)
    none))
    (bi (decide (List.length r10 = q0.length))
    (some r10)
    none))
    (bi (decide (List.length r10 = q0.length))
    (some r10)
    none)))
    (bi (decide (r4.snd.snd.snd.fst < IntKind.i64.wrap (r4.snd.snd.snd.snd.fst - r4.snd.snd.snd.snd.snd.fst)))
    (bi (decide (IntKind.i64.wrap (r4.snd.snd.snd.snd.fst - r4.snd.snd.snd.snd.snd.fst) < r4.snd.snd.fst))
    ((symMg_r K k (r4.snd.snd.snd.snd.snd.snd) (r4.snd.snd.snd.fst) (IntKind.i64.wrap (r4.snd.snd.snd.snd.fst - r4.snd.snd.snd.snd.snd.fst)) (r4.snd.snd.fst)).bind fun r12 => (bi (decide (List.length r12 = q0.length))
    (some r12)
    none))
    (bi (decide (r4.snd.snd.snd.snd.snd.snd.length = q0.length))
    (some (r4.snd.snd.snd.snd.snd.snd))
    none))
    (bi (decide (r4.snd.snd.snd.snd.snd.snd.length = q0.length))
    (some (r4.snd.snd.snd.snd.snd.snd))
    none)))
    (bi (decide (r4.snd.snd.snd.fst < IntKind.i64.wrap (r4.snd.snd.snd.snd.fst - r4.snd.snd.snd.snd.snd.fst)))
    (bi (decide (IntKind.i64.wrap (r4.snd.snd.snd.snd.fst - r4.snd.snd.snd.snd.snd.fst) < r4.snd.snd.fst))
    ((symMg_r K k (r4.snd.snd.snd.snd.snd.snd) (r4.snd.snd.snd.fst) (IntKind.i64.wrap (r4.snd.snd.snd.snd.fst - r4.snd.snd.snd.snd.snd.fst)) (r4.snd.snd.fst)).bind fun r13 => (bi (decide (List.length r13 = q0.length))
    (some r13)
    none))
    (bi (decide (r4.snd.snd.snd.snd.snd.snd.length = q0.length))
    (some (r4.snd.snd.snd.snd.snd.snd))
    none))
    (bi (decide (r4.snd.snd.snd.snd.snd.snd.length = q0.length))
    (some (r4.snd.snd.snd.snd.snd.snd))
    none))))
    (bi (decide (r4.fst < r4.snd.snd.snd.snd.snd.fst))
    (bi (decide (r4.snd.snd.snd.snd.snd.fst < r4.snd.snd.snd.fst))
    ((symMg_r K k (r4.snd.snd.snd.snd.snd.snd) (r4.fst) (r4.snd.snd.snd.snd.snd.fst) (r4.snd.snd.snd.fst)).bind fun r14 => (bi (decide (r4.snd.snd.snd.fst < IntKind.i64.wrap (r4.snd.snd.snd.snd.fst - r4.snd.snd.snd.snd.snd.fst)))
    (bi (decide (IntKind.i64.wrap (r4.snd.snd.snd.snd.fst - r4.snd.snd.snd.snd.snd.fst) < r4.snd.snd.fst))
    ((symMg_r K k (r14) (r4.snd.snd.snd.fst) (IntKind.i64.wrap (r4.snd.snd.snd.snd.fst - r4.snd.snd.snd.snd.snd.fst)) (r4.snd.snd.fst)).bind fun r15 => (bi (decide (List.length r15 = q0.length))
    (some r15)
    none))
    (bi (decide (List.length r14 = q0.length))
    (some r14)
    none))
    (bi (decide (List.length r14 = q0.length))
    (some r14)
    none)))
    (bi (decide (r4.snd.snd.snd.fst < IntKind.i64.wrap (r4.snd.snd.snd.snd.fst - r4.snd.snd.snd.snd.snd.fst)))
    (bi (decide (IntKind.i64.wrap (r4.snd.snd.snd.snd.fst - r4.snd.snd.snd.snd.snd.fst) < r4.snd.snd.fst))
    ((symMg_r K k (r4.snd.snd.snd.snd.snd.snd) (r4.snd.snd.snd.fst) (IntKind.i64.wrap (r4.snd.snd.snd.snd.fst - r4.snd.snd.snd.snd.snd.fst)) (r4.snd.snd.fst)).bind fun r16 => (bi (decide (List.length r16 = q0.length))
    (some r16)
    none))
    (bi (decide (r4.snd.snd.snd.snd.snd.snd.length = q0.length))
    (some (r4.snd.snd.snd.snd.snd.snd))
    none))
    (bi (decide (r4.snd.snd.snd.snd.snd.snd.length = q0.length))
    (some (r4.snd.snd.snd.snd.snd.snd))
    none)))
    (bi (decide (r4.snd.snd.snd.fst < IntKind.i64.wrap (r4.snd.snd.snd.snd.fst - r4.snd.snd.snd.snd.snd.fst)))
    (bi (decide (IntKind.i64.wrap (r4.snd.snd.snd.snd.fst - r4.snd.snd.snd.snd.snd.fst) < r4.snd.snd.fst))
    ((symMg_r K k (r4.snd.snd.snd.snd.snd.snd) (r4.snd.snd.snd.fst) (IntKind.i64.wrap (r4.snd.snd.snd.snd.fst - r4.snd.snd.snd.snd.snd.fst)) (r4.snd.snd.fst)).bind fun r17 => (bi (decide (List.length r17 = q0.length))
    (some r17)
    none))
    (bi (decide (r4.snd.snd.snd.snd.snd.snd.length = q0.length))
    (some (r4.snd.snd.snd.snd.snd.snd))
    none))
    (bi (decide (r4.snd.snd.snd.snd.snd.snd.length = q0.length))
    (some (r4.snd.snd.snd.snd.snd.snd))
    none)))))
    ((symMg_l33 K K x1 x2 x3
  (IntKind.i64.wrap ((IntKind.u64.wrap (IntKind.i64.wrap (x1 + x3))).fdiv 2))
  (IntKind.i64.wrap (IntKind.i64.wrap ((IntKind.u64.wrap (IntKind.i64.wrap (x1 + x3))).fdiv 2) + x2)) x1 x2
  (IntKind.i64.wrap
    (IntKind.i64.wrap (IntKind.i64.wrap ((IntKind.u64.wrap (IntKind.i64.wrap (x1 + x3))).fdiv 2) + x2) - 1))
  q0).bind fun r18 => (bi (decide (r18.snd.snd.snd.snd.snd.fst < r18.snd.fst))
    (bi (decide (r18.snd.fst < IntKind.i64.wrap (r18.snd.snd.snd.snd.fst - r18.snd.snd.snd.snd.snd.fst)))
    ((rotCm K r18.snd.snd.snd.snd.snd.snd
  r18.snd.snd.snd.snd.snd.fst r18.snd.fst (IntKind.i64.wrap (r18.snd.snd.snd.snd.fst - r18.snd.snd.snd.snd.snd.fst))).bind fun r19 => (bi (decide (r18.fst < r18.snd.snd.snd.snd.snd.fst))
    (bi (decide (r18.snd.snd.snd.snd.snd.fst < r18.snd.snd.snd.fst))
    ((symMg_r K k (r19) (r18.fst) (r18.snd.snd.snd.snd.snd.fst) (r18.snd.snd.snd.fst)).bind fun r20 => (bi (decide (r18.snd.snd.snd.fst < IntKind.i64.wrap (r18.snd.snd.snd.snd.fst - r18.snd.snd.snd.snd.snd.fst)))
    (bi (decide (IntKind.i64.wrap (r18.snd.snd.snd.snd.fst - r18.snd.snd.snd.snd.snd.fst) < r18.snd.snd.fst))
    ((symMg_r K k (r20) (r18.snd.snd.snd.fst) (IntKind.i64.wrap (r18.snd.snd.snd.snd.fst - r18.snd.snd.snd.snd.snd.fst)) (r18.snd.snd.fst)).bind fun r21 => (bi (decide (List.length r21 = q0.length))
    (some r21)
    none))
    (bi (decide (List.length r20 = q0.length))
    (some r20)
    none))
    (bi (decide (List.length r20 = q0.length))
    (some r20)
    none)))
    (bi (decide (r18.snd.snd.snd.fst < IntKind.i64.wrap (r18.snd.snd.snd.snd.fst - r18.snd.snd.snd.snd.snd.fst)))
    (bi (decide (IntKind.i64.wrap (r18.snd.snd.snd.snd.fst - r18.snd.snd.snd.snd.snd.fst) < r18.snd.snd.fst))
    ((symMg_r K k (r19) (r18.snd.snd.snd.fst) (IntKind.i64.wrap (r18.snd.snd.snd.snd.fst - r18.snd.snd.snd.snd.snd.fst)) (r18.snd.snd.fst)).bind fun r22 => (bi (decide (List.length r22 = q0.length))
    (some r22)
    none))
    (bi (decide (List.length r19 = q0.length))
    (some r19)
    none))
    (bi (decide (List.length r19 = q0.length))
    (some r19)
    none)))
    (bi (decide (r18.snd.snd.snd.fst < IntKind.i64.wrap (r18.snd.snd.snd.snd.fst - r18.snd.snd.snd.snd.snd.fst)))
    (bi (decide (IntKind.i64.wrap (r18.snd.snd.snd.snd.fst - r18.snd.snd.snd.snd.snd.fst) < r18.snd.snd.fst))
    ((symMg_r K k (r19) (r18.snd.snd.snd.fst) (IntKind.i64.wrap (r18.snd.snd.snd.snd.fst - r18.snd.snd.snd.snd.snd.fst)) (r18.snd.snd.fst)).bind fun r23 => (bi (decide (List.length r23 = q0.length))
    (some r23)
    none))
    (bi (decide (List.length r19 = q0.length))
    (some r19)
    none))
    (bi (decide (List.length r19 = q0.length))
    (some r19)
    none))))
    (bi (decide (r18.fst < r18.snd.snd.snd.snd.snd.fst))
    (bi (decide (r18.snd.snd.snd.snd.snd.fst < r18.snd.snd.snd.fst))
    ((symMg_r K k (r18.snd.snd.snd.snd.snd.snd) (r18.fst) (r18.snd.snd.snd.snd.snd.fst) (r18.snd.snd.snd.fst)).bind fun r24 => (bi (decide (r18.snd.snd.snd.fst < IntKind.i64.wrap (r18.snd.snd.snd.snd.fst - r18.snd.snd.snd.snd.snd.fst)))
    (bi (decide (IntKind.i64.wrap (r18.snd.snd.snd.snd.fst - r18.snd.snd.snd.snd.snd.fst) < r18.snd.snd.fst))
    ((symMg_r K k (r24) (r18.snd.snd.snd.fst) (IntKind.i64.wrap (r18.snd.snd.snd.snd.fst - r18.snd.snd.snd.snd.snd.fst)) (r18.snd.snd.fst)).bind fun r25 => (bi (decide (List.length r25 = q0.length))
    (some r25)
    none))
    (bi (decide (List.length r24 = q0.length))
    (some r24)
    none))
    (bi (decide (List.length r24 = q0.length))
    (some r24)
    none)))
    (bi (decide (r18.snd.snd.snd.fst < IntKind.i64.wrap (r18.snd.snd.snd.snd.fst - r18.snd.snd.snd.snd.snd.fst)))
    (bi (decide (IntKind.i64.wrap (r18.snd.snd.snd.snd.fst - r18.snd.snd.snd.snd.snd.fst) < r18.snd.snd.fst))
    ((symMg_r K k (r18.snd.snd.snd.snd.snd.snd) (r18.snd.snd.snd.fst) (IntKind.i64.wrap (r18.snd.snd.snd.snd.fst - r18.snd.snd.snd.snd.snd.fst)) (r18.snd.snd.fst)).bind fun r26 => (bi (decide (List.length r26 = q0.length))
    (some r26)
    none))
    (bi (decide (r18.snd.snd.snd.snd.snd.snd.length = q0.length))
    (some (r18.snd.snd.snd.snd.snd.snd))
    none))
    (bi (decide (r18.snd.snd.snd.snd.snd.snd.length = q0.length))
    (some (r18.snd.snd.snd.snd.snd.snd))
    none)))
    (bi (decide (r18.snd.snd.snd.fst < IntKind.i64.wrap (r18.snd.snd.snd.snd.fst - r18.snd.snd.snd.snd.snd.fst)))
    (bi (decide (IntKind.i64.wrap (r18.snd.snd.snd.snd.fst - r18.snd.snd.snd.snd.snd.fst) < r18.snd.snd.fst))
    ((symMg_r K k (r18.snd.snd.snd.snd.snd.snd) (r18.snd.snd.snd.fst) (IntKind.i64.wrap (r18.snd.snd.snd.snd.fst - r18.snd.snd.snd.snd.snd.fst)) (r18.snd.snd.fst)).bind fun r27 => (bi (decide (List.length r27 = q0.length))
    (some r27)
    none))
    (bi (decide (r18.snd.snd.snd.snd.snd.snd.length = q0.length))
    (some (r18.snd.snd.snd.snd.snd.snd))
    none))
    (bi (decide (r18.snd.snd.snd.snd.snd.snd.length = q0.length))
    (some (r18.snd.snd.snd.snd.snd.snd))
    none))))
    (bi (decide (r18.fst < r18.snd.snd.snd.snd.snd.fst))
    (bi (decide (r18.snd.snd.snd.snd.snd.fst < r18.snd.snd.snd.fst))
    ((symMg_r K k (r18.snd.snd.snd.snd.snd.snd) (r18.fst) (r18.snd.snd.snd.snd.snd.fst) (r18.snd.snd.snd.fst)).bind fun r28 => (bi (decide (r18.snd.snd.snd.fst < IntKind.i64.wrap (r18.snd.snd.snd.snd.fst - r18.snd.snd.snd.snd.snd.fst)))
    (bi (decide (IntKind.i64.wrap (r18.snd.snd.snd.snd.fst - r18.snd.snd.snd.snd.snd.fst) < r18.snd.snd.fst))
    ((symMg_r K k (r28) (r18.snd.snd.snd.fst) (IntKind.i64.wrap (r18.snd.snd.snd.snd.fst - r18.snd.snd.snd.snd.snd.fst)) (r18.snd.snd.fst)).bind fun r29 => (bi (decide (List.length r29 = q0.length))
    (some r29)
    none))
    (bi (decide (List.length r28 = q0.length))
    (some r28)
    none))
    (bi (decide (List.length r28 = q0.length))
    (some r28)
    none)))
    (bi (decide (r18.snd.snd.snd.fst < IntKind.i64.wrap (r18.snd.snd.snd.snd.fst - r18.snd.snd.snd.snd.snd.fst)))
    (bi (decide (IntKind.i64.wrap (r18.snd.snd.snd.snd.fst - r18.snd.snd.snd.snd.snd.fst) < r18.snd.snd.fst))
    ((symMg_r K k (r18.snd.snd.snd.snd.snd.snd) (r18.snd.snd.snd.fst) (IntKind.i64.wrap (r18.snd.snd.snd.snd.fst - r18.snd.snd.snd.snd.snd.fst)) (r18.snd.snd.fst)).bind fun r30 => (bi (decide (List.length r30 = q0.length))
    (some r30)
    none))
    (bi (decide (r18.snd.snd.snd.snd.snd.snd.length = q0.length))
    (some (r18.snd.snd.snd.snd.snd.snd))
    none))
    (bi (decide (r18.snd.snd.snd.snd.snd.snd.length = q0.length))
    (some (r18.snd.snd.snd.snd.snd.snd))
    none)))
    (bi (decide (r18.snd.snd.snd.fst < IntKind.i64.wrap (r18.snd.snd.snd.snd.fst - r18.snd.snd.snd.snd.snd.fst)))
    (bi (decide (IntKind.i64.wrap (r18.snd.snd.snd.snd.fst - r18.snd.snd.snd.snd.snd.fst) < r18.snd.snd.fst))
    ((symMg_r K k (r18.snd.snd.snd.snd.snd.snd) (r18.snd.snd.snd.fst) (IntKind.i64.wrap (r18.snd.snd.snd.snd.fst - r18.snd.snd.snd.snd.snd.fst)) (r18.snd.snd.fst)).bind fun r31 => (bi (decide (List.length r31 = q0.length))
    (some r31)
    none))
    (bi (decide (r18.snd.snd.snd.snd.snd.snd.length = q0.length))
    (some (r18.snd.snd.snd.snd.snd.snd))
    none))
    (bi (decide (r18.snd.snd.snd.snd.snd.snd.length = q0.length))
    (some (r18.snd.snd.snd.snd.snd.snd))
    none))))))))
def symMg_rw (K k : Nat) : List U → Option (List (List Int)) := fun us => match us with | [.rr q0, .i x1, .i x2, .i x3, .n] => symMg_r K k q0 x1 x2 x3 | _ => none
def symMg_rs (K k : Nat) : Vm.Spec := ⟨[.one (.recs [.i64, .u64, .i64] true), .one (.int .i64), .one (.int .i64), .one (.int .i64), .one (.fn 28)], [], List (List Int), symMg_rw K k, symMg_enc⟩
def symMg (K : Nat) (q0 : List (List Int)) (x1 : Int) (x2 : Int) (x3 : Int) : Option (List (List Int)) := symMg_r K K q0 x1 x2 x3
theorem symMg_eq (K k : Nat) (q0 : List (List Int)) (x1 : Int) (x2 : Int) (x3 : Int) : (runF Tryz.prog (addS (env_rotCm K) 79 (symMg_rs K k)) (symMg_v3 K) Tryz.f79 [.one (.recs [.i64, .u64, .i64] true), .one (.int .i64), .one (.int .i64), .one (.int .i64), .one (.fn 28)] [] symMg_dec [.rr q0, .i x1, .i x2, .i x3, .n]).den2 = symMg_r K (k + 1) q0 x1 x2 x3 := by kernel_rfl
def symMg_spec (K : Nat) : Vm.Spec := symMg_rs K K
theorem symMg_okr (K : Nat) : ∀ k, FnOk Tryz.prog 79 (symMg_rs K k)
  | 0 => fun us r h => by unfold symMg_rs symMg_rw at h; simp only at h; split at h <;> first | (cases h; done) | (simp only [symMg_r] at h; cases h)
  | k + 1 => fn_ok' hmix (addS_ok (f := 79) (env_rotCm_ok K) (.inl ⟨callable Tryz.func79 (by kernel_rfl) (by kernel_rfl), symMg_okr K k⟩)) (lenv := symMg_v3 K) (args := [.one (.recs [.i64, .u64, .i64] true), .one (.int .i64), .one (.int .i64), .one (.int .i64), .one (.fn 28)]) (res := []) (G := symMg_rw K (k + 1)) (enc := symMg_enc) Tryz.func79 (lps_fn (l := [lp (bodyOf Tryz.f79) 0, lp (bodyOf Tryz.f79) 1, lp (bodyOf Tryz.f79) 2, lp (bodyOf Tryz.f79) 3, lp (bodyOf Tryz.f79) 4]) (by kernel_rfl) ⟨⟨3, symMg_l3_s K, by kernel_rfl, by kernel_rfl, symMg_l3_ok K⟩, ⟨⟨9, symMg_l9_s K, by kernel_rfl, by kernel_rfl, symMg_l9_ok K⟩, ⟨⟨15, symMg_l15_s K, by kernel_rfl, by kernel_rfl, symMg_l15_ok K⟩, ⟨⟨21, symMg_l21_s K, by kernel_rfl, by kernel_rfl, symMg_l21_ok K⟩, ⟨⟨33, symMg_l33_s K, by kernel_rfl, by kernel_rfl, symMg_l33_ok K⟩, trivial⟩⟩⟩⟩⟩) (dec := symMg_dec) (fun u r h => by unfold symMg_dec at h; split at h; (cases h; rfl); cases h) (fun us r h => by unfold symMg_rw at h; split at h; exact ((den2_eq _).symm.trans (symMg_eq K k _ _ _ _)).trans h; cases h)
theorem symMg_ok (K : Nat) : FnOk Tryz.prog 79 (symMg_spec K) := symMg_okr K K
def env_symMg (K : Nat) : FuncId → Option Vm.Spec := addS (env_rotCm K) 79 (symMg_spec K)
theorem env_symMg_ok (K : Nat) : EnvOk Tryz.prog (env_symMg K) := addS_ok (env_rotCm_ok K) (.inl ⟨callable Tryz.func79 (by kernel_rfl) (by kernel_rfl), symMg_ok K⟩)
def stabC_l9_pre : Vm.Pat := ⟨63, [(1, .pv (.one (.int .i64))), (2, .pv (.one (.fn 28))), (6, .pv (.one (.int .i64))), (7, .pv (.one (.int .i64))), (8, .pv (.one (.int .i64))), (0, .slf 0)], [.recs [.i64, .u64, .i64]], [0]⟩
def stabC_l9_post0 : Vm.Pat := ⟨63, [(1, .pv (.one (.int .i64))), (2, .pv (.one (.fn 28))), (6, .pv (.one (.int .i64))), (7, .pv (.one (.int .i64))), (0, .slf 0)], [.recs [.i64, .u64, .i64]], [0]⟩
def stabC_l9_enc0 : Int × Int × Int × List (List Int) → List U := fun r => [.i r.1, .n, .i r.2.1, .i r.2.2.1, .rr r.2.2.2]
def stabC_l9_dec0 : List U → Option (Int × Int × Int × List (List Int)) := fun u => match u with | [.i x1, .n, .i x6, .i x7, .rr q0] => some (x1, x6, x7, q0) | _ => none
def stabC_l9 (K : Nat) : Nat → Int → Int → Int → Int → List (List Int) → Option (Int × Int × Int × List (List Int))
  | 0, _, _, _, _, _ => none
  | k + 1, x1, x6, x7, x8, q0 => (bi (decide (x8 ≤ x1))
    ((symMg_r K K q0 x7 (IntKind.i64.wrap (x7 + x6)) x8).bind fun r0 => (stabC_l9 K k (x1) (x6) (x8) (IntKind.i64.wrap (x8 + IntKind.i64.wrap (2 * x6))) (r0)))
    (some ((x1, x6, x7, q0))))
def stabC_l9_w (K k : Nat) : List U → Option (Int × Int × Int × List (List Int)) := fun us => match us with | [.i x1, .n, .i x6, .i x7, .i x8, .rr q0] => stabC_l9 K k x1 x6 x7 x8 q0 | _ => none
theorem stabC_l9_eq (K k : Nat) (x1 : Int) (x6 : Int) (x7 : Int) (x8 : Int) (q0 : List (List Int)) : (round1 Tryz.prog (env_symMg K) (lenv0) (lp (lp (bodyOf Tryz.f58) 1) 0) stabC_l9_pre (.exit 4) stabC_l9_post0 stabC_l9_dec0 (stabC_l9_w K k) [.i x1, .n, .i x6, .i x7, .i x8, .rr q0]).den2 = stabC_l9 K (k + 1) x1 x6 x7 x8 q0 := by kernel_rfl
def stabC_l9_s (K : Nat) : Vm.LS := .one stabC_l9_pre _ (.exit 4) stabC_l9_post0 (stabC_l9_w K K) stabC_l9_enc0
theorem stabC_l9_ok (K : Nat) : LoopOk Tryz.prog (lp (lp (bodyOf Tryz.f58) 1) 0) (stabC_l9_s K) := loop_one hmix (env_symMg_ok K) (lenv := lenv0) (L := stabC_l9_w K) (enc := stabC_l9_enc0) (dec := stabC_l9_dec0) (lps_ok (l := []) (by kernel_rfl) trivial) (fun u r h => by unfold stabC_l9_dec0 at h; split at h; (cases h; rfl); cases h) (fun us => by unfold stabC_l9_w; split <;> first | rfl | (simp only [stabC_l9])) (fun k us r h => by unfold stabC_l9_w at h; split at h; exact ((den2_eq _).symm.trans (stabC_l9_eq K k _ _ _ _ _)).trans h; cases h) K
def stabC_v9 (K : Nat) : Nat → Option Vm.LS := addL (lenv0) 9 (stabC_l9_s K)
def stabC_l7_pre : Vm.Pat := ⟨63, [(1, .pv (.one (.int .i64))), (2, .pv (.one (.fn 28))), (6, .pv (.one (.int .i64))), (0, .slf 0)], [.recs [.i64, .u64, .i64]], [0]⟩
def stabC_l7_post0 : Vm.Pat := ⟨63, [(0, .slf 0)], [.recs [.i64, .u64, .i64]], [0]⟩
def stabC_l7_enc0 : List (List Int) → List U := fun r => [.rr r]
def stabC_l7_dec0 : List U → Option (List (List Int)) := fun u => match u with | [.rr q0] => some (q0) | _ => none
def stabC_l7 (K : Nat) : Nat → Int → Int → List (List Int) → Option (List (List Int))
  | 0, _, _, _ => none
  | k + 1, x1, x6, q0 => (bi (decide (x6 < x1))
    ((stabC_l9 K K x1 x6 0 (IntKind.i64.wrap (2 * x6)) q0).bind fun r0 => (bi (decide (IntKind.i64.wrap (r0.snd.snd.fst + r0.snd.fst) < r0.fst))
    ((symMg_r K K r0.snd.snd.snd r0.snd.snd.fst
  (IntKind.i64.wrap (r0.snd.snd.fst + r0.snd.fst)) r0.fst).bind fun r1 => (stabC_l7 K k (r0.fst) (IntKind.i64.wrap (r0.snd.fst * 2)) (r1)))
    (stabC_l7 K k (r0.fst) (IntKind.i64.wrap (r0.snd.fst * 2)) (r0.snd.snd.snd))))
    (some q0))
def stabC_l7_w (K k : Nat) : List U → Option (List (List Int)) := fun us => match us with | [.i x1, .n, .i x6, .rr q0] => stabC_l7 K k x1 x6 q0 | _ => none
theorem stabC_l7_eq (K k : Nat) (x1 : Int) (x6 : Int) (q0 : List (List Int)) : (round1 Tryz.prog (env_symMg K) (stabC_v9 K) (lp (bodyOf Tryz.f58) 1) stabC_l7_pre (.exit 2) stabC_l7_post0 stabC_l7_dec0 (stabC_l7_w K k) [.i x1, .n, .i x6, .rr q0]).den2 = stabC_l7 K (k + 1) x1 x6 q0 := by kernel_rfl
def stabC_l7_s (K : Nat) : Vm.LS := .one stabC_l7_pre _ (.exit 2) stabC_l7_post0 (stabC_l7_w K K) stabC_l7_enc0
theorem stabC_l7_ok (K : Nat) : LoopOk Tryz.prog (lp (bodyOf Tryz.f58) 1) (stabC_l7_s K) := loop_one hmix (env_symMg_ok K) (lenv := stabC_v9 K) (L := stabC_l7_w K) (enc := stabC_l7_enc0) (dec := stabC_l7_dec0) (lps_ok (l := [lp (lp (bodyOf Tryz.f58) 1) 0]) (by kernel_rfl) ⟨⟨9, stabC_l9_s K, by kernel_rfl, by kernel_rfl, stabC_l9_ok K⟩, trivial⟩) (fun u r h => by unfold stabC_l7_dec0 at h; split at h; (cases h; rfl); cases h) (fun us => by unfold stabC_l7_w; split <;> first | rfl | (simp only [stabC_l7])) (fun k us r h => by unfold stabC_l7_w at h; split at h; exact ((den2_eq _).symm.trans (stabC_l7_eq K k _ _ _)).trans h; cases h) K
def stabC_v7 (K : Nat) : Nat → Option Vm.LS := addL (stabC_v9 K) 7 (stabC_l7_s K)
def stabC_l2_pre : Vm.Pat := ⟨63, [(1, .pv (.one (.int .i64))), (2, .pv (.one (.fn 28))), (6, .pv (.one (.int .i64))), (7, .pv (.one (.int .i64))), (8, .pv (.one (.int .i64))), (0, .slf 0)], [.recs [.i64, .u64, .i64]], [0]⟩
def stabC_l2_post0 : Vm.Pat := ⟨63, [(1, .pv (.one (.int .i64))), (2, .pv (.one (.fn 28))), (6, .pv (.one (.int .i64))), (7, .pv (.one (.int .i64))), (0, .slf 0)], [.recs [.i64, .u64, .i64]], [0]⟩
def stabC_l2_enc0 : Int × Int × Int × List (List Int) → List U := fun r => [.i r.1, .n, .i r.2.1, .i r.2.2.1, .rr r.2.2.2]
def stabC_l2_dec0 : List U → Option (Int × Int × Int × List (List Int)) := fun u => match u with | [.i x1, .n, .i x6, .i x7, .rr q0] => some (x1, x6, x7, q0) | _ => none
def stabC_l2 (K : Nat) : Nat → Int → Int → Int → Int → List (List Int) → Option (Int × Int × Int × List (List Int))
  | 0, _, _, _, _, _ => none
  | k + 1, x1, x6, x7, x8, q0 => (bi (decide (x8 ≤ x1))
    ((insSo K q0 x7 x8).bind fun r0 => (stabC_l2 K k (x1) (x6) (x8) (IntKind.i64.wrap (x8 + x6)) (r0)))
    (some ((x1, x6, x7, q0))))
def stabC_l2_w (K k : Nat) : List U → Option (Int × Int × Int × List (List Int)) := fun us => match us with | [.i x1, .n, .i x6, .i x7, .i x8, .rr q0] => stabC_l2 K k x1 x6 x7 x8 q0 | _ => none
theorem stabC_l2_eq (K k : Nat) (x1 : Int) (x6 : Int) (x7 : Int) (x8 : Int) (q0 : List (List Int)) : (round1 Tryz.prog (env_symMg K) (stabC_v7 K) (lp (bodyOf Tryz.f58) 0) stabC_l2_pre (.exit 0) stabC_l2_post0 stabC_l2_dec0 (stabC_l2_w K k) [.i x1, .n, .i x6, .i x7, .i x8, .rr q0]).den2 = stabC_l2 K (k + 1) x1 x6 x7 x8 q0 := by kernel_rfl
def stabC_l2_s (K : Nat) : Vm.LS := .one stabC_l2_pre _ (.exit 0) stabC_l2_post0 (stabC_l2_w K K) stabC_l2_enc0
theorem stabC_l2_ok (K : Nat) : LoopOk Tryz.prog (lp (bodyOf Tryz.f58) 0) (stabC_l2_s K) := loop_one hmix (env_symMg_ok K) (lenv := stabC_v7 K) (L := stabC_l2_w K) (enc := stabC_l2_enc0) (dec := stabC_l2_dec0) (lps_ok (l := []) (by kernel_rfl) trivial) (fun u r h => by unfold stabC_l2_dec0 at h; split at h; (cases h; rfl); cases h) (fun us => by unfold stabC_l2_w; split <;> first | rfl | (simp only [stabC_l2])) (fun k us r h => by unfold stabC_l2_w at h; split at h; exact ((den2_eq _).symm.trans (stabC_l2_eq K k _ _ _ _ _)).trans h; cases h) K
def stabC_v2 (K : Nat) : Nat → Option Vm.LS := addL (stabC_v7 K) 2 (stabC_l2_s K)
def stabC_dec : List U → Option (List (List Int)) := fun u => match u with | [.rr q0] => some (q0) | _ => none
def stabC_enc : (List (List Int)) → List U := fun r => [.rr r]
def stabC (K : Nat) (q0 : List (List Int)) (x1 : Int) : Option (List (List Int)) := ((stabC_l2 K K x1 20 0 20 q0).bind fun r0 => ((insSo K r0.snd.snd.snd r0.snd.snd.fst r0.fst).bind fun r1 => ((stabC_l7 K K r0.fst r0.snd.fst r1).bind fun r2 => (bi (decide (r2.length = q0.length))
    (some r2)
    none))))
theorem stabC_eq (K : Nat) (q0 : List (List Int)) (x1 : Int) : (runF Tryz.prog (env_symMg K) (stabC_v2 K) Tryz.f58 [.one (.recs [.i64, .u64, .i64] true), .one (.int .i64), .one (.fn 28)] [] stabC_dec [.rr q0, .i x1, .n]).den2 = stabC K q0 x1 := by kernel_rfl
def stabC_w (K : Nat) : List U → Option (List (List Int)) := fun us => match us with | [.rr q0, .i x1, .n] => stabC K q0 x1 | _ => none
def stabC_spec (K : Nat) : Vm.Spec := ⟨[.one (.recs [.i64, .u64, .i64] true), .one (.int .i64), .one (.fn 28)], [], List (List Int), stabC_w K, stabC_enc⟩
theorem stabC_ok (K : Nat) : FnOk Tryz.prog 58 (stabC_spec K) := fn_ok' hmix (env_symMg_ok K) (lenv := stabC_v2 K) (args := [.one (.recs [.i64, .u64, .i64] true), .one (.int .i64), .one (.fn 28)]) (res := []) (G := stabC_w K) (enc := stabC_enc) Tryz.func58 (lps_fn (l := [lp (bodyOf Tryz.f58) 0, lp (bodyOf Tryz.f58) 1]) (by kernel_rfl) ⟨⟨2, stabC_l2_s K, by kernel_rfl, by kernel_rfl, stabC_l2_ok K⟩, ⟨⟨7, stabC_l7_s K, by kernel_rfl, by kernel_rfl, stabC_l7_ok K⟩, trivial⟩⟩) (dec := stabC_dec) (fun u r h => by unfold stabC_dec at h; split at h; (cases h; rfl); cases h) (fun us r h => by unfold stabC_w at h; split at h; exact ((den2_eq _).symm.trans (stabC_eq K _ _)).trans h; cases h)
def env_stabC (K : Nat) : FuncId → Option Vm.Spec := addS (env_symMg K) 58 (stabC_spec K)
theorem env_stabC_ok (K : Nat) : EnvOk Tryz.prog (env_stabC K) := addS_ok (env_symMg_ok K) (.inl ⟨callable Tryz.func58 (by kernel_rfl) (by kernel_rfl), stabC_ok K⟩)
def sortS_dec : List U → Option (List (List Int)) := fun u => match u with | [.rr q0] => some (q0) | _ => none
def sortS_enc : (List (List Int)) → List U := fun r => [.rr r]
def sortS (K : Nat) (q0 : List (List Int)) : Option (List (List Int)) := ((stabC K q0 (↑q0.length : Int)).bind fun r0 => (bi (decide (List.length r0 = q0.length))
    (some r0)
    none))
theorem sortS_eq (K : Nat) (q0 : List (List Int)) : (runF Tryz.prog (env_stabC K) (lenv0) Tryz.f27 [.one (.recs [.i64, .u64, .i64] true), .one (.fn 28)] [] sortS_dec [.rr q0, .n]).den2 = sortS K q0 := by kernel_rfl
def sortS_w (K : Nat) : List U → Option (List (List Int)) := fun us => match us with | [.rr q0, .n] => sortS K q0 | _ => none
def sortS_spec (K : Nat) : Vm.Spec := ⟨[.one (.recs [.i64, .u64, .i64] true), .one (.fn 28)], [], List (List Int), sortS_w K, sortS_enc⟩
theorem sortS_ok (K : Nat) : FnOk Tryz.prog 27 (sortS_spec K) := fn_ok' hmix (env_stabC_ok K) (lenv := lenv0) (args := [.one (.recs [.i64, .u64, .i64] true), .one (.fn 28)]) (res := []) (G := sortS_w K) (enc := sortS_enc) Tryz.func27 (lps_fn (l := []) (by kernel_rfl) trivial) (dec := sortS_dec) (fun u r h => by unfold sortS_dec at h; split at h; (cases h; rfl); cases h) (fun us r h => by unfold sortS_w at h; split at h; exact ((den2_eq _).symm.trans (sortS_eq K _)).trans h; cases h)
def env_sortS (K : Nat) : FuncId → Option Vm.Spec := addS (env_stabC K) 27 (sortS_spec K)
theorem env_sortS_ok (K : Nat) : EnvOk Tryz.prog (env_sortS K) := addS_ok (env_stabC_ok K) (.inl ⟨callable Tryz.func27 (by kernel_rfl) (by kernel_rfl), sortS_ok K⟩)
def money_Split_l31_pre : Vm.Pat := ⟨137, [(10, .pv (.one (.int .i64))), (18, .pv (.one (.recs [.i64, .i64] true))), (105, .pv (.one (.recs [.i64, .u64, .i64] false))), (106, .pv (.one (.int .i64))), (107, .pv (.one (.int .i64))), (2, .box 0 0)], [.cells [.int .i64, .int .i64]], []⟩
def money_Split_l31_post0 : Vm.Pat := ⟨137, [(18, .pv (.one (.recs [.i64, .i64] true)))], [], []⟩
def money_Split_l31_enc0 : List (List Int) → List U := fun r => [.rr r]
def money_Split_l31_dec0 : List U → Option (List (List Int)) := fun u => match u with | [.rr q18] => some (q18) | _ => none
def money_Split_l31 (K : Nat) : Nat → Int → List (List Int) → List (List Int) → Int → Int → Int → Int → Option (List (List Int))
  | 0, _, _, _, _, _, _, _ => none
  | k + 1, x10, q18, q105, x106, x107, x2_0, x2_1 => (bi (decide (x107 < x106))
    (bi (decide (0 ≤ x107) && decide (x107 < (↑q105.length : Int)))
    (bi (decide (x107 < x10))
    (bi (decide (x2_1 < 0))
    (bi (decide
    (0 ≤
      nth 0 (nth [] q105 x107.toNat) 0) &&
  decide
    (nth 0 (nth [] q105 x107.toNat) 0 <
      (↑q18.length : Int)))
    (money_Split_l31 K k (x10) (q18.set
  (nth 0 (nth [] q105 x107.toNat) 0).toNat
  [x2_0,
    IntKind.i64.wrap
      (0 -
        IntKind.i64.wrap
          (nth 0 (nth [] q105 x107.toNat)
              2 +
            1))]) (q105) (x106) (IntKind.i64.wrap (x107 + 1)) (x2_0) (x2_1))
    none)
    (bi (decide
    (0 ≤
      nth 0 (nth [] q105 x107.toNat) 0) &&
  decide
    (nth 0 (nth [] q105 x107.toNat) 0 <
      (↑q18.length : Int)))
    (money_Split_l31 K k (x10) (q18.set
  (nth 0 (nth [] q105 x107.toNat) 0).toNat
  [x2_0,
    IntKind.i64.wrap
      (nth 0 (nth [] q105 x107.toNat) 2 +
        1)]) (q105) (x106) (IntKind.i64.wrap (x107 + 1)) (x2_0) (x2_1))
    none))
    (bi (decide (x2_1 < 0))
    (bi (decide
    (0 ≤
      nth 0 (nth [] q105 x107.toNat) 0) &&
  decide
    (nth 0 (nth [] q105 x107.toNat) 0 <
      (↑q18.length : Int)))
    (money_Split_l31 K k (x10) (q18.set
  (nth 0 (nth [] q105 x107.toNat) 0).toNat
  [x2_0,
    IntKind.i64.wrap
      (0 -
        nth 0 (nth [] q105 x107.toNat) 2)]) (q105) (x106) (IntKind.i64.wrap (x107 + 1)) (x2_0) (x2_1))
    none)
    (bi (decide
    (0 ≤
      nth 0 (nth [] q105 x107.toNat) 0) &&
  decide
    (nth 0 (nth [] q105 x107.toNat) 0 <
      (↑q18.length : Int)))
    (money_Split_l31 K k (x10) (q18.set
  (nth 0 (nth [] q105 x107.toNat) 0).toNat
  [x2_0, nth 0 (nth [] q105 x107.toNat) 2]) (q105) (x106) (IntKind.i64.wrap (x107 + 1)) (x2_0) (x2_1))
    none)))
    none)
    (some q18))
def money_Split_l31_w (K k : Nat) : List U → Option (List (List Int)) := fun us => match us with | [.i x10, .rr q18, .rr q105, .i x106, .i x107, .i x2_0, .i x2_1] => money_Split_l31 K k x10 q18 q105 x106 x107 x2_0 x2_1 | _ => none
theorem money_Split_l31_eq (K k : Nat) (x10 : Int) (q18 : List (List Int)) (q105 : List (List Int)) (x106 : Int) (x107 : Int) (x2_0 : Int) (x2_1 : Int) : (round1 Tryz.prog (env_sortS K) (lenv0) (lp (bodyOf Tryz.f10) 2) money_Split_l31_pre (.exit 5) money_Split_l31_post0 money_Split_l31_dec0 (money_Split_l31_w K k) [.i x10, .rr q18, .rr q105, .i x106, .i x107, .i x2_0, .i x2_1]).den2 = money_Split_l31 K (k + 1) x10 q18 q105 x106 x107 x2_0 x2_1 := by kernel_rfl
def money_Split_l31_s (K : Nat) : Vm.LS := .one money_Split_l31_pre _ (.exit 5) money_Split_l31_post0 (money_Split_l31_w K K) money_Split_l31_enc0
theorem money_Split_l31_ok (K : Nat) : LoopOk Tryz.prog (lp (bodyOf Tryz.f10) 2) (money_Split_l31_s K) := loop_one hmix (env_sortS_ok K) (lenv := lenv0) (L := money_Split_l31_w K) (enc := money_Split_l31_enc0) (dec := money_Split_l31_dec0) (lps_ok (l := []) (by kernel_rfl) trivial) (fun u r h => by unfold money_Split_l31_dec0 at h; split at h; (cases h; rfl); cases h) (fun us => by unfold money_Split_l31_w; split <;> first | rfl | (simp only [money_Split_l31])) (fun k us r h => by unfold money_Split_l31_w at h; split at h; exact ((den2_eq _).symm.trans (money_Split_l31_eq K k _ _ _ _ _ _ _)).trans h; cases h) K
def money_Split_v31 (K : Nat) : Nat → Option Vm.LS := addL (lenv0) 31 (money_Split_l31_s K)
def money_Split_l21_pre : Vm.Pat := ⟨137, [(1, .pv (.one (.row .i64 false))), (6, .pv (.one (.int .i64))), (9, .pv (.one (.int .i64))), (10, .pv (.one (.int .i64))), (11, .pv (.one (.recs [.i64, .u64, .i64] true))), (64, .pv (.one (.row .i64 false))), (65, .pv (.one (.int .i64))), (66, .pv (.one (.int .i64))), (2, .box 0 0)], [.cells [.int .i64, .int .i64]], []⟩
def money_Split_l21_post0 : Vm.Pat := ⟨137, [(1, .pv (.one (.row .i64 false))), (10, .pv (.one (.int .i64))), (11, .pv (.one (.recs [.i64, .u64, .i64] true))), (2, .box 0 0)], [.cells [.int .i64, .int .i64]], []⟩
def money_Split_l21_enc0 : List Int × Int × List (List Int) × Int × Int → List U := fun r => [.r r.1, .i r.2.1, .rr r.2.2.1, .i r.2.2.2.1, .i r.2.2.2.2]
def money_Split_l21_dec0 : List U → Option (List Int × Int × List (List Int) × Int × Int) := fun u => match u with | [.r l1, .i x10, .rr q11, .i x2_0, .i x2_1] => some (l1, x10, q11, x2_0, x2_1) | _ => none
def money_Split_l21 (K : Nat) : Nat → List Int → Int → Int → Int → List (List Int) → List Int → Int → Int → Int → Int → Option (List Int × Int × List (List Int) × Int × Int)
  | 0, _, _, _, _, _, _, _, _, _, _ => none
  | k + 1, l1, x6, x9, x10, q11, l64, x65, x66, x2_0, x2_1 => (bi (decide (x66 < x65))
    (bi (decide (0 ≤ x66) && decide (x66 < (↑l64.length : Int)))
    ((bits_Mul64 K (IntKind.u64.wrap x9)
  (IntKind.u64.wrap (nth 0 l64 x66.toNat))).bind fun r0 => ((bits_Div64 K r0.fst r0.snd (IntKind.u64.wrap x6)).bind fun r1 => (bi (decide (0 ≤ x66) && decide (x66 < (↑q11.length : Int)))
    (money_Split_l21 K k (l1) (x6) (x9) (IntKind.i64.wrap (x10 - IntKind.i64.wrap r1.fst)) (q11.set x66.toNat [x66, r1.snd, IntKind.i64.wrap r1.fst]) (l64) (x65) (IntKind.i64.wrap (x66 + 1)) (x2_0) (x2_1))
    none)))
    none)
    (some ((l1, x10, q11, x2_0, x2_1))))
def money_Split_l21_w (K k : Nat) : List U → Option (List Int × Int × List (List Int) × Int × Int) := fun us => match us with | [.r l1, .i x6, .i x9, .i x10, .rr q11, .r l64, .i x65, .i x66, .i x2_0, .i x2_1] => money_Split_l21 K k l1 x6 x9 x10 q11 l64 x65 x66 x2_0 x2_1 | _ => none
theorem money_Split_l21_eq (K k : Nat) (l1 : List Int) (x6 : Int) (x9 : Int) (x10 : Int) (q11 : List (List Int)) (l64 : List Int) (x65 : Int) (x66 : Int) (x2_0 : Int) (x2_1 : Int) : (round1 Tryz.prog (env_sortS K) (money_Split_v31 K) (lp (bodyOf Tryz.f10) 1) money_Split_l21_pre (.exit 3) money_Split_l21_post0 money_Split_l21_dec0 (money_Split_l21_w K k) [.r l1, .i x6, .i x9, .i x10, .rr q11, .r l64, .i x65, .i x66, .i x2_0, .i x2_1]).den2 = money_Split_l21 K (k + 1) l1 x6 x9 x10 q11 l64 x65 x66 x2_0 x2_1 := by kernel_rfl
def money_Split_l21_s (K : Nat) : Vm.LS := .one money_Split_l21_pre _ (.exit 3) money_Split_l21_post0 (money_Split_l21_w K K) money_Split_l21_enc0
theorem money_Split_l21_ok (K : Nat) : LoopOk Tryz.prog (lp (bodyOf Tryz.f10) 1) (money_Split_l21_s K) := loop_one hmix (env_sortS_ok K) (lenv := money_Split_v31 K) (L := money_Split_l21_w K) (enc := money_Split_l21_enc0) (dec := money_Split_l21_dec0) (lps_ok (l := []) (by kernel_rfl) trivial) (fun u r h => by unfold money_Split_l21_dec0 at h; split at h; (cases h; rfl); cases h) (fun us => by unfold money_Split_l21_w; split <;> first | rfl | (simp only [money_Split_l21])) (fun k us r h => by unfold money_Split_l21_w at h; split at h; exact ((den2_eq _).symm.trans (money_Split_l21_eq K k _ _ _ _ _ _ _ _ _ _)).trans h; cases h) K
def money_Split_v21 (K : Nat) : Nat → Option Vm.LS := addL (money_Split_v31 K) 21 (money_Split_l21_s K)
def money_Split_l3_pre : Vm.Pat := ⟨137, [(1, .pv (.one (.row .i64 false))), (6, .pv (.one (.int .i64))), (21, .pv (.one (.row .i64 false))), (22, .pv (.one (.int .i64))), (23, .pv (.one (.int .i64))), (2, .box 0 0)], [.cells [.int .i64, .int .i64]], []⟩
def money_Split_l3_post0 : Vm.Pat := ⟨137, [(1, .pv (.one (.row .i64 false))), (6, .pv (.one (.int .i64))), (2, .box 0 0)], [.cells [.int .i64, .int .i64]], []⟩
def money_Split_l3_enc0 : List Int × Int × Int × Int → List U := fun r => [.r r.1, .i r.2.1, .i r.2.2.1, .i r.2.2.2]
def money_Split_l3_dec0 : List U → Option (List Int × Int × Int × Int) := fun u => match u with | [.r l1, .i x6, .i x2_0, .i x2_1] => some (l1, x6, x2_0, x2_1) | _ => none
def money_Split_l3_post1 : Vm.Pat := ⟨137, [(4, .pv (.one (.recs [.i64, .i64] false))), (5, .pv (.one (.int .i64)))], [], []⟩
def money_Split_l3_enc1 : List (List Int) × Int → List U := fun r => [.rr r.1, .i r.2]
def money_Split_l3_dec1 : List U → Option (List (List Int) × Int) := fun u => match u with | [.rr q4, .i x5] => some (q4, x5) | _ => none
def money_Split_l3 (K : Nat) : Nat → List Int → Int → List Int → Int → Int → Int → Int → Option ((List Int × Int × Int × Int) ⊕ (List (List Int) × Int))
  | 0, _, _, _, _, _, _, _ => none
  | k + 1, l1, x6, l21, x22, x23, x2_0, x2_1 => (bi (decide (x23 < x22))
    (bi (decide (0 ≤ x23) && decide (x23 < (↑l21.length : Int)))
    (bi (decide (nth 0 l21 x23.toNat < 0))
    (some (Sum.inr ([], 1)))
    (bi (decide (nth 0 l21 x23.toNat > 1000000000))
    (some (Sum.inr ([], 1)))
    (money_Split_l3 K k (l1) (if 4611686018427387904 < IntKind.i64.wrap (x6 + nth 0 l21 x23.toNat) then
  4611686018427387904
else IntKind.i64.wrap (x6 + nth 0 l21 x23.toNat)) (l21) (x22) (IntKind.i64.wrap (x23 + 1)) (x2_0) (x2_1))))
    none)
    (some (Sum.inl (l1, x6, x2_0, x2_1))))
def money_Split_l3_w (K k : Nat) : List U → Option ((List Int × Int × Int × Int) ⊕ (List (List Int) × Int)) := fun us => match us with | [.r l1, .i x6, .r l21, .i x22, .i x23, .i x2_0, .i x2_1] => money_Split_l3 K k l1 x6 l21 x22 x23 x2_0 x2_1 | _ => none
theorem money_Split_l3_eq (K k : Nat) (l1 : List Int) (x6 : Int) (l21 : List Int) (x22 : Int) (x23 : Int) (x2_0 : Int) (x2_1 : Int) : (round2 Tryz.prog (env_sortS K) (money_Split_v21 K) (lp (bodyOf Tryz.f10) 0) money_Split_l3_pre (.exit 0) money_Split_l3_post0 .ret money_Split_l3_post1 money_Split_l3_dec0 money_Split_l3_dec1 (money_Split_l3_w K k) [.r l1, .i x6, .r l21, .i x22, .i x23, .i x2_0, .i x2_1]).den2 = money_Split_l3 K (k + 1) l1 x6 l21 x22 x23 x2_0 x2_1 := by kernel_rfl
def money_Split_l3_s (K : Nat) : Vm.LS := .two money_Split_l3_pre _ _ (.exit 0) money_Split_l3_post0 .ret money_Split_l3_post1 (money_Split_l3_w K K) money_Split_l3_enc0 money_Split_l3_enc1
theorem money_Split_l3_ok (K : Nat) : LoopOk Tryz.prog (lp (bodyOf Tryz.f10) 0) (money_Split_l3_s K) := loop_two hmix (env_sortS_ok K) (lenv := money_Split_v21 K) (L := money_Split_l3_w K) (enc := money_Split_l3_enc0) (dec := money_Split_l3_dec0) (enc' := money_Split_l3_enc1) (dec' := money_Split_l3_dec1) (lps_ok (l := []) (by kernel_rfl) trivial) (fun u r h => by unfold money_Split_l3_dec0 at h; split at h; (cases h; rfl); cases h) (fun u r h => by unfold money_Split_l3_dec1 at h; split at h; (cases h; rfl); cases h) (fun us => by unfold money_Split_l3_w; split <;> first | rfl | (simp only [money_Split_l3])) (fun k us r h => by unfold money_Split_l3_w at h; split at h; exact ((den2_eq _).symm.trans (money_Split_l3_eq K k _ _ _ _ _ _ _)).trans h; cases h) K
def money_Split_v3 (K : Nat) : Nat → Option Vm.LS := addL (money_Split_v21 K) 3 (money_Split_l3_s K)
def money_Split_dec : List U → Option (List (List Int) × Int) := fun u => match u with | [.rr q0, .i x1] => some (q0, x1) | _ => none
def money_Split_enc : (List (List Int) × Int) → List U := fun r => [.rr r.1, .i r.2]
def money_Split (K : Nat) (x0_0 : Int) (x0_1 : Int) (l1 : List Int) : Option (List (List Int) × Int) := (casO (money_Split_l3 K K l1 0 l1 (↑l1.length : Int) 0 x0_0 x0_1) (fun r0 => (bi ((↑r0.fst.length : Int) == 0)
    (some (([], 2)))
    (bi (decide ((↑r0.fst.length : Int) > 64))
    (some (([], 2)))
    ((money_Check K r0.snd.snd.fst r0.snd.snd.snd).bind fun r1 => (bi (r1 != 0)
    (some (([], 3)))
    (bi (r0.snd.fst == 0)
    (some (([], 5)))
    (bi (decide (r0.snd.snd.snd < 0))
    (bi (decide (0 ≤ (↑r0.fst.length : Int)) && decide ((↑r0.fst.length : Int) ≤ (↑r0.fst.length : Int)) &&
  decide ((↑r0.fst.length : Int) ≤ 5864062014805))
    ((money_Split_l21 K K r0.fst r0.snd.fst (IntKind.i64.wrap (0 - r0.snd.snd.snd))
  (IntKind.i64.wrap (0 - r0.snd.snd.snd)) (List.replicate (↑r0.fst.length : Int).toNat (List.replicate 3 0)) r0.fst
  (↑r0.fst.length : Int) 0 r0.snd.snd.fst r0.snd.snd.snd).bind fun r2 => ((sortS K r2.snd.snd.fst).bind fun r3 => (bi (decide (0 ≤ (↑r2.fst.length : Int)) && decide ((↑r2.fst.length : Int) ≤ (↑r2.fst.length : Int)) &&
  decide ((↑r2.fst.length : Int) ≤ 8796093022208))
    ((money_Split_l31 K K r2.snd.fst
  (List.replicate (↑r2.fst.length : Int).toNat (List.replicate 2 0)) r3 (↑(List.length r3) : Int) 0 r2.snd.snd.snd.fst
  r2.snd.snd.snd.snd).bind fun r4 => (some ((r4, 0))))
    none)))
    none)
    (bi (decide (0 ≤ (↑r0.fst.length : Int)) && decide ((↑r0.fst.length : Int) ≤ (↑r0.fst.length : Int)) &&
  decide ((↑r0.fst.length : Int) ≤ 5864062014805))
    ((money_Split_l21 K K r0.fst r0.snd.fst r0.snd.snd.snd r0.snd.snd.snd
  (List.replicate (↑r0.fst.length : Int).toNat (List.replicate 3 0)) r0.fst (↑r0.fst.length : Int) 0 r0.snd.snd.fst
  r0.snd.snd.snd).bind fun r5 => ((sortS K r5.snd.snd.fst).bind fun r6 => (bi (decide (0 ≤ (↑r5.fst.length : Int)) && decide ((↑r5.fst.length : Int) ≤ (↑r5.fst.length : Int)) &&
  decide ((↑r5.fst.length : Int) ≤ 8796093022208))
    ((money_Split_l31 K K r5.snd.fst
  (List.replicate (↑r5.fst.length : Int).toNat (List.replicate 2 0)) r6 (↑(List.length r6) : Int) 0 r5.snd.snd.snd.fst
  r5.snd.snd.snd.snd).bind fun r7 => (some ((r7, 0))))
    none)))
    none)))))))) (fun r8 => (some ((r8.fst, r8.snd)))))
theorem money_Split_eq (K : Nat) (x0_0 : Int) (x0_1 : Int) (l1 : List Int) : (runF Tryz.prog (env_sortS K) (money_Split_v3 K) Tryz.f10 [.agg [.int .i64, .int .i64], .one (.row .i64 false)] [.one (.recs [.i64, .i64] false), .one (.int .i64)] money_Split_dec [.i x0_0, .i x0_1, .r l1]).den2 = money_Split K x0_0 x0_1 l1 := by kernel_rfl
def money_Split_w (K : Nat) : List U → Option (List (List Int) × Int) := fun us => match us with | [.i x0_0, .i x0_1, .r l1] => money_Split K x0_0 x0_1 l1 | _ => none
def money_Split_spec (K : Nat) : Vm.Spec := ⟨[.agg [.int .i64, .int .i64], .one (.row .i64 false)], [.one (.recs [.i64, .i64] false), .one (.int .i64)], List (List Int) × Int, money_Split_w K, money_Split_enc⟩
theorem money_Split_ok (K : Nat) : FnOk Tryz.prog 10 (money_Split_spec K) := fn_ok' hmix (env_sortS_ok K) (lenv := money_Split_v3 K) (args := [.agg [.int .i64, .int .i64], .one (.row .i64 false)]) (res := [.one (.recs [.i64, .i64] false), .one (.int .i64)]) (G := money_Split_w K) (enc := money_Split_enc) Tryz.func10 (lps_fn (l := [lp (bodyOf Tryz.f10) 0, lp (bodyOf Tryz.f10) 1, lp (bodyOf Tryz.f10) 2]) (by kernel_rfl) ⟨⟨3, money_Split_l3_s K, by kernel_rfl, by kernel_rfl, money_Split_l3_ok K⟩, ⟨⟨21, money_Split_l21_s K, by kernel_rfl, by kernel_rfl, money_Split_l21_ok K⟩, ⟨⟨31, money_Split_l31_s K, by kernel_rfl, by kernel_rfl, money_Split_l31_ok K⟩, trivial⟩⟩⟩) (dec := money_Split_dec) (fun u r h => by unfold money_Split_dec at h; split at h; (cases h; rfl); cases h) (fun us r h => by unfold money_Split_w at h; split at h; exact ((den2_eq _).symm.trans (money_Split_eq K _ _ _)).trans h; cases h)
def env_money_Split (K : Nat) : FuncId → Option Vm.Spec := addS (env_sortS K) 10 (money_Split_spec K)
theorem env_money_Split_ok (K : Nat) : EnvOk Tryz.prog (env_money_Split K) := addS_ok (env_sortS_ok K) (.inl ⟨callable Tryz.func10 (by kernel_rfl) (by kernel_rfl), money_Split_ok K⟩)
def money_Parse_l4_pre : Vm.Pat := ⟨55, [(0, .pv (.one (.str))), (4, .pv (.one (.int .i64))), (2, .box 0 0)], [.cells [.int .i64, .int .i64]], []⟩
def money_Parse_l4_post0 : Vm.Pat := ⟨55, [(2, .box 0 0)], [.cells [.int .i64, .int .i64]], []⟩
def money_Parse_l4_enc0 : Int × Int → List U := fun r => [.i r.1, .i r.2]
def money_Parse_l4_dec0 : List U → Option (Int × Int) := fun u => match u with | [.i x2_0, .i x2_1] => some (x2_0, x2_1) | _ => none
def money_Parse_l4_post1 : Vm.Pat := ⟨55, [(3, .pv (.one (.int .i64))), (2, .box 0 0)], [.cells [.int .i64, .int .i64]], []⟩
def money_Parse_l4_enc1 : Int × Int × Int → List U := fun r => [.i r.1, .i r.2.1, .i r.2.2]
def money_Parse_l4_dec1 : List U → Option (Int × Int × Int) := fun u => match u with | [.i x3, .i x2_0, .i x2_1] => some (x3, x2_0, x2_1) | _ => none
def money_Parse_l4 (K : Nat) : Nat → ByteArray → Int → Int → Int → Option ((Int × Int) ⊕ (Int × Int × Int))
  | 0, _, _, _, _ => none
  | k + 1, s0, x4, x2_0, x2_1 => (bi (decide (x4 ≤ 3))
    (bi (decide ((↑s0.size : Int) < 4))
    (money_Parse_l4 K k (s0) (IntKind.i64.wrap (x4 + 1)) (x2_0) (x2_1))
    (bi (Bool.true && decide (4 ≤ (↑s0.size : Int)))
    ((money_name K x4).bind fun r0 => (bi (decide ((↑(ByteArray.size r0 + 1) : Int) > 9223372036854775807))
    none
    (bi (!sEq (s0.extract 0 4) (r0 ++ { data := #[32] }))
    (money_Parse_l4 K k (s0) (IntKind.i64.wrap (x4 + 1)) (x2_0) (x2_1))
    (bi (Bool.true && decide (4 ≤ (↑s0.size : Int)) && decide ((↑s0.size : Int) ≤ (↑s0.size : Int)))
    ((digits_Parse K (s0.extract 4 (↑s0.size : Int).toNat)).bind fun r1 => (bi (r1.snd.snd.snd.snd != 0)
    (some (Sum.inl (x2_0, x2_1)))
    ((money_figures K x4).bind fun r2 => (bi (r1.snd.snd.fst != r2)
    (some (Sum.inl (x2_0, x2_1)))
    ((money_Of K r1.fst r1.snd.fst r1.snd.snd.fst x4 0).bind fun r3 => (bi (r3.snd.snd == 0)
    (some (Sum.inr (0, r3.fst, r3.snd.fst)))
    (money_Parse_l4 K k (s0) (IntKind.i64.wrap (x4 + 1)) (x2_0) (x2_1))))))))
    none))))
    none))
    (some (Sum.inl (x2_0, x2_1))))
def money_Parse_l4_w (K k : Nat) : List U → Option ((Int × Int) ⊕ (Int × Int × Int)) := fun us => match us with | [.s s0, .i x4, .i x2_0, .i x2_1] => money_Parse_l4 K k s0 x4 x2_0 x2_1 | _ => none
theorem money_Parse_l4_eq (K k : Nat) (s0 : ByteArray) (x4 : Int) (x2_0 : Int) (x2_1 : Int) : (round2 Tryz.prog (env_money_Split K) (lenv0) (lp (bodyOf Tryz.f8) 0) money_Parse_l4_pre (.exit 0) money_Parse_l4_post0 .ret money_Parse_l4_post1 money_Parse_l4_dec0 money_Parse_l4_dec1 (money_Parse_l4_w K k) [.s s0, .i x4, .i x2_0, .i x2_1]).den2 = money_Parse_l4 K (k + 1) s0 x4 x2_0 x2_1 := by kernel_rfl
def money_Parse_l4_s (K : Nat) : Vm.LS := .two money_Parse_l4_pre _ _ (.exit 0) money_Parse_l4_post0 .ret money_Parse_l4_post1 (money_Parse_l4_w K K) money_Parse_l4_enc0 money_Parse_l4_enc1
theorem money_Parse_l4_ok (K : Nat) : LoopOk Tryz.prog (lp (bodyOf Tryz.f8) 0) (money_Parse_l4_s K) := loop_two hmix (env_money_Split_ok K) (lenv := lenv0) (L := money_Parse_l4_w K) (enc := money_Parse_l4_enc0) (dec := money_Parse_l4_dec0) (enc' := money_Parse_l4_enc1) (dec' := money_Parse_l4_dec1) (lps_ok (l := []) (by kernel_rfl) trivial) (fun u r h => by unfold money_Parse_l4_dec0 at h; split at h; (cases h; rfl); cases h) (fun u r h => by unfold money_Parse_l4_dec1 at h; split at h; (cases h; rfl); cases h) (fun us => by unfold money_Parse_l4_w; split <;> first | rfl | (simp only [money_Parse_l4])) (fun k us r h => by unfold money_Parse_l4_w at h; split at h; exact ((den2_eq _).symm.trans (money_Parse_l4_eq K k _ _ _ _)).trans h; cases h) K
def money_Parse_v4 (K : Nat) : Nat → Option Vm.LS := addL (lenv0) 4 (money_Parse_l4_s K)
def money_Parse_dec : List U → Option (Int × Int × Int) := fun u => match u with | [.i x0_0, .i x0_1, .i x1] => some (x0_0, x0_1, x1) | _ => none
def money_Parse_enc : (Int × Int × Int) → List U := fun r => [.i r.1, .i r.2.1, .i r.2.2]
def money_Parse (K : Nat) (s0 : ByteArray) : Option (Int × Int × Int) := (bi (decide ((↑s0.size : Int) > 64))
    (some ((0, 0, 2)))
    (casO (money_Parse_l4 K K s0 0 0 0) (fun r0 => (some ((0, 0, 6)))) (fun r1 => (some ((r1.snd.fst, r1.snd.snd, r1.fst))))))
theorem money_Parse_eq (K : Nat) (s0 : ByteArray) : (runF Tryz.prog (env_money_Split K) (money_Parse_v4 K) Tryz.f8 [.one (.str)] [.agg [.int .i64, .int .i64], .one (.int .i64)] money_Parse_dec [.s s0]).den2 = money_Parse K s0 := by kernel_rfl
def money_Parse_w (K : Nat) : List U → Option (Int × Int × Int) := fun us => match us with | [.s s0] => money_Parse K s0 | _ => none
def money_Parse_spec (K : Nat) : Vm.Spec := ⟨[.one (.str)], [.agg [.int .i64, .int .i64], .one (.int .i64)], Int × Int × Int, money_Parse_w K, money_Parse_enc⟩
theorem money_Parse_ok (K : Nat) : FnOk Tryz.prog 8 (money_Parse_spec K) := fn_ok' hmix (env_money_Split_ok K) (lenv := money_Parse_v4 K) (args := [.one (.str)]) (res := [.agg [.int .i64, .int .i64], .one (.int .i64)]) (G := money_Parse_w K) (enc := money_Parse_enc) Tryz.func8 (lps_fn (l := [lp (bodyOf Tryz.f8) 0]) (by kernel_rfl) ⟨⟨4, money_Parse_l4_s K, by kernel_rfl, by kernel_rfl, money_Parse_l4_ok K⟩, trivial⟩) (dec := money_Parse_dec) (fun u r h => by unfold money_Parse_dec at h; split at h; (cases h; rfl); cases h) (fun us r h => by unfold money_Parse_w at h; split at h; exact ((den2_eq _).symm.trans (money_Parse_eq K _)).trans h; cases h)
def env_money_Parse (K : Nat) : FuncId → Option Vm.Spec := addS (env_money_Split K) 8 (money_Parse_spec K)
theorem env_money_Parse_ok (K : Nat) : EnvOk Tryz.prog (env_money_Parse K) := addS_ok (env_money_Split_ok K) (.inl ⟨callable Tryz.func8 (by kernel_rfl) (by kernel_rfl), money_Parse_ok K⟩)
end Go.Proofs.YtfeifhlnidkbbaaGreatDoor.F
