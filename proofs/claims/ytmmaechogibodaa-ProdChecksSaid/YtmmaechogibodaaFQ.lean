import Derived.Test.YtmmaechogibodaaVmY
import Derived.Test.YtmmaechogibodaaVmRc
import Derived.Test.YtmmaechogibodaaVmCl
import Derived.Test.YtmmaechogibodaaProg
import Derived.Test.YtmmaechogibodaaVmRg
import Derived.Test.YtmmaechogibodaaFA
import Derived.Test.YtmmaechogibodaaFB
import Derived.Test.YtmmaechogibodaaFV
import Derived.Test.YtmmaechogibodaaFC
import Derived.Test.YtmmaechogibodaaFD
import Derived.Test.YtmmaechogibodaaFO
namespace Go.Proofs.Ytmmaechogibodaa.F
open Go Go.Proofs.Ytmmaechogibodaa.Vm
set_option maxRecDepth 1000000
set_option linter.unusedVariables false
set_option linter.unusedSimpArgs false
noncomputable section
-- passbook/passbookref12.Same
def ref12_Same_l4_pre : Vm.Pat := ⟨87, [(71, .pv (.one (.int .i64))), (72, .pv (.one (.int .i64))), (2, .box 0 0), (3, .box 1 0)], [.cells [.int .i64, .int .i64, .int .i64, .int .i64, .int .i64, .int .i64, .int .i64, .int .i64, .recs [.i64, .i64] false], .cells [.int .i64, .int .i64, .int .i64, .int .i64, .int .i64, .int .i64, .int .i64, .int .i64, .recs [.i64, .i64] false]], []⟩
def ref12_Same_l4_post0 : Vm.Pat := ⟨87, [], [], []⟩
def ref12_Same_l4_enc0 : Unit → List U := fun _ => []
def ref12_Same_l4_dec0 : List U → Option (Unit) := fun u => match u with | [] => some () | _ => none
def ref12_Same_l4_post1 : Vm.Pat := ⟨87, [(4, .pv (.one (.bool)))], [], []⟩
def ref12_Same_l4_enc1 : Bool → List U := fun r => [.b r]
def ref12_Same_l4_dec1 : List U → Option (Bool) := fun u => match u with | [.b c4] => some (c4) | _ => none
def ref12_Same_l4 (K : Nat) : Nat → Int → Int → Int → Int → Int → Int → Int → Int → Int → Int → List (List Int) → Int → Int → Int → Int → Int → Int → Int → Int → List (List Int) → Option ((Unit) ⊕ (Bool))
  | 0, _, _, _, _, _, _, _, _, _, _, _, _, _, _, _, _, _, _, _, _ => none
  | k + 1, x71, x72, x2_0, x2_1, x2_2, x2_3, x2_4, x2_5, x2_6, x2_7, q2_8, x3_0, x3_1, x3_2, x3_3, x3_4, x3_5, x3_6, x3_7, q3_8 => (bi (Decidable.decide (x72 < x71))
    (bi (Decidable.decide (0 ≤ x72) && Decidable.decide (x72 < (↑q2_8.length : Int)))
    (bi (Decidable.decide (0 ≤ x72) && Decidable.decide (x72 < (↑q3_8.length : Int)))
    (bi (!(nth 0 (nth [] q2_8 x72.toNat) 0 ==
      nth 0 (nth [] q3_8 x72.toNat) 0 &&
    (nth 0 (nth [] q2_8 x72.toNat) 1 ==
        nth 0 (nth [] q3_8 x72.toNat) 1 &&
      Bool.true)))
    (some (Sum.inr Bool.false))
    (ref12_Same_l4 K k (x71) (Go.IntKind.i64.wrap (x72 + 1)) (x2_0) (x2_1) (x2_2) (x2_3) (x2_4) (x2_5) (x2_6) (x2_7) (q2_8) (x3_0) (x3_1) (x3_2) (x3_3) (x3_4) (x3_5) (x3_6) (x3_7) (q3_8)))
    none)
    none)
    (some (Sum.inl ())))
def ref12_Same_l4_w (K k : Nat) : List U → Option ((Unit) ⊕ (Bool)) := fun us => match us with | [.i x71, .i x72, .i x2_0, .i x2_1, .i x2_2, .i x2_3, .i x2_4, .i x2_5, .i x2_6, .i x2_7, .rr q2_8, .i x3_0, .i x3_1, .i x3_2, .i x3_3, .i x3_4, .i x3_5, .i x3_6, .i x3_7, .rr q3_8] => ref12_Same_l4 K k x71 x72 x2_0 x2_1 x2_2 x2_3 x2_4 x2_5 x2_6 x2_7 q2_8 x3_0 x3_1 x3_2 x3_3 x3_4 x3_5 x3_6 x3_7 q3_8 | _ => none
theorem ref12_Same_l4_eq (K k : Nat) (x71 : Int) (x72 : Int) (x2_0 : Int) (x2_1 : Int) (x2_2 : Int) (x2_3 : Int) (x2_4 : Int) (x2_5 : Int) (x2_6 : Int) (x2_7 : Int) (q2_8 : List (List Int)) (x3_0 : Int) (x3_1 : Int) (x3_2 : Int) (x3_3 : Int) (x3_4 : Int) (x3_5 : Int) (x3_6 : Int) (x3_7 : Int) (q3_8 : List (List Int)) : (round2K Go.Proofs.Try.prog (env_law12_ProdHolds K) (lenv0) (lp (bodyOf Go.Proofs.Try.f14) 0) ref12_Same_l4_pre (.exit 0) ref12_Same_l4_post0 .ret ref12_Same_l4_post1 ref12_Same_l4_dec0 ref12_Same_l4_dec1 (ref12_Same_l4_w K k) [.i x71, .i x72, .i x2_0, .i x2_1, .i x2_2, .i x2_3, .i x2_4, .i x2_5, .i x2_6, .i x2_7, .rr q2_8, .i x3_0, .i x3_1, .i x3_2, .i x3_3, .i x3_4, .i x3_5, .i x3_6, .i x3_7, .rr q3_8]).den2 = ref12_Same_l4 K (k + 1) x71 x72 x2_0 x2_1 x2_2 x2_3 x2_4 x2_5 x2_6 x2_7 q2_8 x3_0 x3_1 x3_2 x3_3 x3_4 x3_5 x3_6 x3_7 q3_8 := by kernel_rfl
def ref12_Same_l4_s (K : Nat) : Vm.LS := .two ref12_Same_l4_pre _ _ (.exit 0) ref12_Same_l4_post0 .ret ref12_Same_l4_post1 (ref12_Same_l4_w K K) ref12_Same_l4_enc0 ref12_Same_l4_enc1
theorem ref12_Same_l4_ok (K : Nat) : LoopOk Go.Proofs.Try.prog (lp (bodyOf Go.Proofs.Try.f14) 0) (ref12_Same_l4_s K) := loop_twoK hmix (env_law12_ProdHolds_ok K) (lenv := lenv0) (L := ref12_Same_l4_w K) (enc := ref12_Same_l4_enc0) (dec := ref12_Same_l4_dec0) (enc' := ref12_Same_l4_enc1) (dec' := ref12_Same_l4_dec1) (lps_ok (l := []) (by kernel_rfl) trivial) (fun u r h => by unfold ref12_Same_l4_dec0 at h; split at h; (obtain rfl := Option.some.inj h; rfl); cases h) (fun u r h => by unfold ref12_Same_l4_dec1 at h; split at h; (obtain rfl := Option.some.inj h; rfl); cases h) (fun us => by unfold ref12_Same_l4_w; split <;> first | rfl | (simp only [ref12_Same_l4])) (fun k us r h => by unfold ref12_Same_l4_w at h; split at h; exact ((den2_eq _).symm.trans (ref12_Same_l4_eq K k _ _ _ _ _ _ _ _ _ _ _ _ _ _ _ _ _ _ _ _)).trans h; cases h) K
def ref12_Same_v4 (K : Nat) : Nat → Option Vm.LS := addL (lenv0) 4 (ref12_Same_l4_s K)
def ref12_Same_dec : List U → Option (Bool) := fun u => match u with | [.b c0] => some (c0) | _ => none
def ref12_Same_enc : (Bool) → List U := fun r => [.b r]
def ref12_Same (K : Nat) (x0_0 : Int) (x0_1 : Int) (x0_2 : Int) (x0_3 : Int) (x0_4 : Int) (x0_5 : Int) (x0_6 : Int) (x0_7 : Int) (q0_8 : List (List Int)) (x1_0 : Int) (x1_1 : Int) (x1_2 : Int) (x1_3 : Int) (x1_4 : Int) (x1_5 : Int) (x1_6 : Int) (x1_7 : Int) (q1_8 : List (List Int)) : Option (Bool) := (bi (x0_0 != x1_0)
    (some Bool.false)
    (bi (x0_1 != x1_1)
    (some Bool.false)
    (bi (x0_2 != x1_2)
    (some Bool.false)
    (bi (x0_3 != x1_3)
    (some Bool.false)
    (bi (x0_4 != x1_4)
    (some Bool.false)
    (bi (x0_5 != x1_5)
    (some Bool.false)
    (bi (x0_6 != x1_6)
    (some Bool.false)
    (bi (x0_7 != x1_7)
    (some Bool.false)
    (bi ((↑q0_8.length : Int) != (↑q1_8.length : Int))
    (some Bool.false)
    (casO (ref12_Same_l4 K K (↑q0_8.length : Int) 0 x0_0 x0_1 x0_2 x0_3 x0_4 x0_5 x0_6 x0_7 q0_8 x1_0
  x1_1 x1_2 x1_3 x1_4 x1_5 x1_6 x1_7 q1_8) (fun r0 => (some Bool.true)) (fun r1 => (some r1))))))))))))
theorem ref12_Same_eq (K : Nat) (x0_0 : Int) (x0_1 : Int) (x0_2 : Int) (x0_3 : Int) (x0_4 : Int) (x0_5 : Int) (x0_6 : Int) (x0_7 : Int) (q0_8 : List (List Int)) (x1_0 : Int) (x1_1 : Int) (x1_2 : Int) (x1_3 : Int) (x1_4 : Int) (x1_5 : Int) (x1_6 : Int) (x1_7 : Int) (q1_8 : List (List Int)) : (runFK Go.Proofs.Try.prog (env_law12_ProdHolds K) (ref12_Same_v4 K) Go.Proofs.Try.f14 [.agg [.int .i64, .int .i64, .int .i64, .int .i64, .int .i64, .int .i64, .int .i64, .int .i64, .recs [.i64, .i64] false], .agg [.int .i64, .int .i64, .int .i64, .int .i64, .int .i64, .int .i64, .int .i64, .int .i64, .recs [.i64, .i64] false]] [.one (.bool)] ref12_Same_dec [.i x0_0, .i x0_1, .i x0_2, .i x0_3, .i x0_4, .i x0_5, .i x0_6, .i x0_7, .rr q0_8, .i x1_0, .i x1_1, .i x1_2, .i x1_3, .i x1_4, .i x1_5, .i x1_6, .i x1_7, .rr q1_8]).den2 = ref12_Same K x0_0 x0_1 x0_2 x0_3 x0_4 x0_5 x0_6 x0_7 q0_8 x1_0 x1_1 x1_2 x1_3 x1_4 x1_5 x1_6 x1_7 q1_8 := by kernel_rfl
def ref12_Same_w (K : Nat) : List U → Option (Bool) := fun us => match us with | [.i x0_0, .i x0_1, .i x0_2, .i x0_3, .i x0_4, .i x0_5, .i x0_6, .i x0_7, .rr q0_8, .i x1_0, .i x1_1, .i x1_2, .i x1_3, .i x1_4, .i x1_5, .i x1_6, .i x1_7, .rr q1_8] => ref12_Same K x0_0 x0_1 x0_2 x0_3 x0_4 x0_5 x0_6 x0_7 q0_8 x1_0 x1_1 x1_2 x1_3 x1_4 x1_5 x1_6 x1_7 q1_8 | _ => none
def ref12_Same_spec (K : Nat) : Vm.Spec := ⟨[.agg [.int .i64, .int .i64, .int .i64, .int .i64, .int .i64, .int .i64, .int .i64, .int .i64, .recs [.i64, .i64] false], .agg [.int .i64, .int .i64, .int .i64, .int .i64, .int .i64, .int .i64, .int .i64, .int .i64, .recs [.i64, .i64] false]], [.one (.bool)], Bool, ref12_Same_w K, ref12_Same_enc⟩
theorem ref12_Same_ok (K : Nat) : FnOk Go.Proofs.Try.prog 14 (ref12_Same_spec K) := fn_okK' hmix (env_law12_ProdHolds_ok K) (lenv := ref12_Same_v4 K) (args := [.agg [.int .i64, .int .i64, .int .i64, .int .i64, .int .i64, .int .i64, .int .i64, .int .i64, .recs [.i64, .i64] false], .agg [.int .i64, .int .i64, .int .i64, .int .i64, .int .i64, .int .i64, .int .i64, .int .i64, .recs [.i64, .i64] false]]) (res := [.one (.bool)]) (G := ref12_Same_w K) (enc := ref12_Same_enc) Go.Proofs.Try.func14 (lps_fn (l := [lp (bodyOf Go.Proofs.Try.f14) 0]) (by kernel_rfl) ⟨⟨4, ref12_Same_l4_s K, by kernel_rfl, by kernel_rfl, ref12_Same_l4_ok K⟩, trivial⟩) (dec := ref12_Same_dec) (fun u r h => by unfold ref12_Same_dec at h; split at h; (obtain rfl := Option.some.inj h; rfl); cases h) (fun us r h => by unfold ref12_Same_w at h; split at h; exact ((den2_eq _).symm.trans (ref12_Same_eq K _ _ _ _ _ _ _ _ _ _ _ _ _ _ _ _ _ _)).trans h; cases h)
def env_ref12_Same (K : Nat) : FuncId → Option Vm.Spec := addS (env_law12_ProdHolds K) 14 (ref12_Same_spec K)
theorem env_ref12_Same_ok (K : Nat) : EnvOk Go.Proofs.Try.prog (env_ref12_Same K) := addS_ok (env_law12_ProdHolds_ok K) (.inl ⟨callable Go.Proofs.Try.func14 (by kernel_rfl) (by kernel_rfl), ref12_Same_ok K⟩)
-- passbook/passbooklaw12.back
def law12_back_dec : List U → Option (Int × Int × Int × Int × Int × Int × Int × Int × List (List Int)) := fun u => match u with | [.i x0_0, .i x0_1, .i x0_2, .i x0_3, .i x0_4, .i x0_5, .i x0_6, .i x0_7, .rr q0_8] => some (x0_0, x0_1, x0_2, x0_3, x0_4, x0_5, x0_6, x0_7, q0_8) | _ => none
def law12_back_enc : (Int × Int × Int × Int × Int × Int × Int × Int × List (List Int)) → List U := fun r => [.i r.1, .i r.2.1, .i r.2.2.1, .i r.2.2.2.1, .i r.2.2.2.2.1, .i r.2.2.2.2.2.1, .i r.2.2.2.2.2.2.1, .i r.2.2.2.2.2.2.2.1, .rr r.2.2.2.2.2.2.2.2]
def law12_back (K : Nat) (x0_0 : Int) (x0_1 : Int) (x0_2 : Int) (x0_3 : Int) (x0_4 : Int) (x0_5 : Int) (x0_6 : Int) (x0_7 : Int) (q0_8 : List (List Int)) : Option (Int × Int × Int × Int × Int × Int × Int × Int × List (List Int)) := (some ((x0_0, x0_1, x0_2, x0_3, x0_4, x0_5, x0_6, x0_7, q0_8)))
theorem law12_back_eq (K : Nat) (x0_0 : Int) (x0_1 : Int) (x0_2 : Int) (x0_3 : Int) (x0_4 : Int) (x0_5 : Int) (x0_6 : Int) (x0_7 : Int) (q0_8 : List (List Int)) : (runFK Go.Proofs.Try.prog (env_ref12_Same K) (lenv0) Go.Proofs.Try.f15 [.agg [.int .i64, .int .i64, .int .i64, .int .i64, .int .i64, .int .i64, .int .i64, .int .i64, .recs [.i64, .i64] false]] [.agg [.int .i64, .int .i64, .int .i64, .int .i64, .int .i64, .int .i64, .int .i64, .int .i64, .recs [.i64, .i64] false]] law12_back_dec [.i x0_0, .i x0_1, .i x0_2, .i x0_3, .i x0_4, .i x0_5, .i x0_6, .i x0_7, .rr q0_8]).den2 = law12_back K x0_0 x0_1 x0_2 x0_3 x0_4 x0_5 x0_6 x0_7 q0_8 := by kernel_rfl
def law12_back_w (K : Nat) : List U → Option (Int × Int × Int × Int × Int × Int × Int × Int × List (List Int)) := fun us => match us with | [.i x0_0, .i x0_1, .i x0_2, .i x0_3, .i x0_4, .i x0_5, .i x0_6, .i x0_7, .rr q0_8] => law12_back K x0_0 x0_1 x0_2 x0_3 x0_4 x0_5 x0_6 x0_7 q0_8 | _ => none
def law12_back_spec (K : Nat) : Vm.Spec := ⟨[.agg [.int .i64, .int .i64, .int .i64, .int .i64, .int .i64, .int .i64, .int .i64, .int .i64, .recs [.i64, .i64] false]], [.agg [.int .i64, .int .i64, .int .i64, .int .i64, .int .i64, .int .i64, .int .i64, .int .i64, .recs [.i64, .i64] false]], Int × Int × Int × Int × Int × Int × Int × Int × List (List Int), law12_back_w K, law12_back_enc⟩
theorem law12_back_ok (K : Nat) : FnOk Go.Proofs.Try.prog 15 (law12_back_spec K) := fn_okK' hmix (env_ref12_Same_ok K) (lenv := lenv0) (args := [.agg [.int .i64, .int .i64, .int .i64, .int .i64, .int .i64, .int .i64, .int .i64, .int .i64, .recs [.i64, .i64] false]]) (res := [.agg [.int .i64, .int .i64, .int .i64, .int .i64, .int .i64, .int .i64, .int .i64, .int .i64, .recs [.i64, .i64] false]]) (G := law12_back_w K) (enc := law12_back_enc) Go.Proofs.Try.func15 (lps_fn (l := []) (by kernel_rfl) trivial) (dec := law12_back_dec) (fun u r h => by unfold law12_back_dec at h; split at h; (obtain rfl := Option.some.inj h; rfl); cases h) (fun us r h => by unfold law12_back_w at h; split at h; exact ((den2_eq _).symm.trans (law12_back_eq K _ _ _ _ _ _ _ _ _)).trans h; cases h)
def env_law12_back (K : Nat) : FuncId → Option Vm.Spec := addS (env_ref12_Same K) 15 (law12_back_spec K)
theorem env_law12_back_ok (K : Nat) : EnvOk Go.Proofs.Try.prog (env_law12_back K) := addS_ok (env_ref12_Same_ok K) (.inl ⟨callable Go.Proofs.Try.func15 (by kernel_rfl) (by kernel_rfl), law12_back_ok K⟩)
-- passbook/passbookref12.Check
def ref12_Check_dec : List U → Option (Int) := fun u => match u with | [.i x0] => some (x0) | _ => none
def ref12_Check_enc : (Int) → List U := fun r => [.i r]
def ref12_Check (K : Nat) (x0_0 : Int) (x0_1 : Int) (x0_2 : Int) (x0_3 : Int) (x0_4 : Int) (x0_5 : Int) (x0_6 : Int) (x0_7 : Int) (q0_8 : List (List Int)) : Option (Int) := (bi (Decidable.decide (x0_0 < 1))
    (some (1))
    (bi (Decidable.decide (x0_0 > 1000000000))
    (some (1))
    (bi (Decidable.decide (x0_1 < 1))
    (some (1))
    (bi (Decidable.decide (x0_1 > 2))
    (some (1))
    ((ref05_Cur K x0_2).bind fun r0 => (bi (!r0)
    (some (1))
    ((ref03_Is K x0_3).bind fun r1 => (bi (!r1)
    (some (1))
    (bi (Decidable.decide (x0_4 < 0))
    (some (1))
    (bi (Decidable.decide (x0_4 > 3))
    (some (1))
    (bi (Decidable.decide (x0_5 < 0))
    (some (1))
    (bi (Decidable.decide (x0_5 > 6))
    (some (1))
    (bi (Decidable.decide (x0_6 < 0))
    (some (1))
    (bi (Decidable.decide (x0_6 > 10000000000000))
    (some (1))
    (bi (Decidable.decide (x0_7 < 0))
    (some (1))
    (bi (Decidable.decide (x0_7 > 10000000000000))
    (some (1))
    ((ref12_Tiers K q0_8).bind fun r2 => (some r2))))))))))))))))))
theorem ref12_Check_eq (K : Nat) (x0_0 : Int) (x0_1 : Int) (x0_2 : Int) (x0_3 : Int) (x0_4 : Int) (x0_5 : Int) (x0_6 : Int) (x0_7 : Int) (q0_8 : List (List Int)) : (runFK Go.Proofs.Try.prog (env_law12_back K) (lenv0) Go.Proofs.Try.f11 [.agg [.int .i64, .int .i64, .int .i64, .int .i64, .int .i64, .int .i64, .int .i64, .int .i64, .recs [.i64, .i64] false]] [.one (.int .i64)] ref12_Check_dec [.i x0_0, .i x0_1, .i x0_2, .i x0_3, .i x0_4, .i x0_5, .i x0_6, .i x0_7, .rr q0_8]).den2 = ref12_Check K x0_0 x0_1 x0_2 x0_3 x0_4 x0_5 x0_6 x0_7 q0_8 := by kernel_rfl
def ref12_Check_w (K : Nat) : List U → Option (Int) := fun us => match us with | [.i x0_0, .i x0_1, .i x0_2, .i x0_3, .i x0_4, .i x0_5, .i x0_6, .i x0_7, .rr q0_8] => ref12_Check K x0_0 x0_1 x0_2 x0_3 x0_4 x0_5 x0_6 x0_7 q0_8 | _ => none
def ref12_Check_spec (K : Nat) : Vm.Spec := ⟨[.agg [.int .i64, .int .i64, .int .i64, .int .i64, .int .i64, .int .i64, .int .i64, .int .i64, .recs [.i64, .i64] false]], [.one (.int .i64)], Int, ref12_Check_w K, ref12_Check_enc⟩
theorem ref12_Check_ok (K : Nat) : FnOk Go.Proofs.Try.prog 11 (ref12_Check_spec K) := fn_okK' hmix (env_law12_back_ok K) (lenv := lenv0) (args := [.agg [.int .i64, .int .i64, .int .i64, .int .i64, .int .i64, .int .i64, .int .i64, .int .i64, .recs [.i64, .i64] false]]) (res := [.one (.int .i64)]) (G := ref12_Check_w K) (enc := ref12_Check_enc) Go.Proofs.Try.func11 (lps_fn (l := []) (by kernel_rfl) trivial) (dec := ref12_Check_dec) (fun u r h => by unfold ref12_Check_dec at h; split at h; (obtain rfl := Option.some.inj h; rfl); cases h) (fun us r h => by unfold ref12_Check_w at h; split at h; exact ((den2_eq _).symm.trans (ref12_Check_eq K _ _ _ _ _ _ _ _ _)).trans h; cases h)
def env_ref12_Check (K : Nat) : FuncId → Option Vm.Spec := addS (env_law12_back K) 11 (ref12_Check_spec K)
theorem env_ref12_Check_ok (K : Nat) : EnvOk Go.Proofs.Try.prog (env_ref12_Check K) := addS_ok (env_law12_back_ok K) (.inl ⟨callable Go.Proofs.Try.func11 (by kernel_rfl) (by kernel_rfl), ref12_Check_ok K⟩)
-- passbook/passbooklaw12.of
def law12_of_dec : List U → Option (Int × Int × Int × Int × Int × Int × Int × Int × List (List Int)) := fun u => match u with | [.i x0_0, .i x0_1, .i x0_2, .i x0_3, .i x0_4, .i x0_5, .i x0_6, .i x0_7, .rr q0_8] => some (x0_0, x0_1, x0_2, x0_3, x0_4, x0_5, x0_6, x0_7, q0_8) | _ => none
def law12_of_enc : (Int × Int × Int × Int × Int × Int × Int × Int × List (List Int)) → List U := fun r => [.i r.1, .i r.2.1, .i r.2.2.1, .i r.2.2.2.1, .i r.2.2.2.2.1, .i r.2.2.2.2.2.1, .i r.2.2.2.2.2.2.1, .i r.2.2.2.2.2.2.2.1, .rr r.2.2.2.2.2.2.2.2]
def law12_of (K : Nat) (x0_0 : Int) (x0_1 : Int) (x0_2 : Int) (x0_3 : Int) (x0_4 : Int) (x0_5 : Int) (x0_6 : Int) (x0_7 : Int) (q0_8 : List (List Int)) : Option (Int × Int × Int × Int × Int × Int × Int × Int × List (List Int)) := (bi (Decidable.decide (0 + q0_8.length ≤ 8796093022208))
    (bi (Decidable.decide (([] ++ q0_8).length + 1 ≤ 8796093022208))
    (bi (Bool.true && Decidable.decide (0 ≤ (↑q0_8.length : Int)) &&
  Decidable.decide ((↑q0_8.length : Int) ≤ (↑([] ++ q0_8 ++ [[77, 0]]).length : Int)))
    (some ((x0_0, x0_1, x0_2, x0_3, x0_4, x0_5, x0_6, x0_7,
  [(↑((↑q0_8.length : Int).toNat - 0) : Int)] :: ([] ++ q0_8 ++ [[77, 0]]))))
    none)
    none)
    none)
theorem law12_of_eq (K : Nat) (x0_0 : Int) (x0_1 : Int) (x0_2 : Int) (x0_3 : Int) (x0_4 : Int) (x0_5 : Int) (x0_6 : Int) (x0_7 : Int) (q0_8 : List (List Int)) : (runFK Go.Proofs.Try.prog (env_ref12_Check K) (lenv0) Go.Proofs.Try.f8 [.agg [.int .i64, .int .i64, .int .i64, .int .i64, .int .i64, .int .i64, .int .i64, .int .i64, .recs [.i64, .i64] false]] [.agg [.int .i64, .int .i64, .int .i64, .int .i64, .int .i64, .int .i64, .int .i64, .int .i64, .pre [.i64, .i64]]] law12_of_dec [.i x0_0, .i x0_1, .i x0_2, .i x0_3, .i x0_4, .i x0_5, .i x0_6, .i x0_7, .rr q0_8]).den2 = law12_of K x0_0 x0_1 x0_2 x0_3 x0_4 x0_5 x0_6 x0_7 q0_8 := by kernel_rfl
def law12_of_w (K : Nat) : List U → Option (Int × Int × Int × Int × Int × Int × Int × Int × List (List Int)) := fun us => match us with | [.i x0_0, .i x0_1, .i x0_2, .i x0_3, .i x0_4, .i x0_5, .i x0_6, .i x0_7, .rr q0_8] => law12_of K x0_0 x0_1 x0_2 x0_3 x0_4 x0_5 x0_6 x0_7 q0_8 | _ => none
def law12_of_spec (K : Nat) : Vm.Spec := ⟨[.agg [.int .i64, .int .i64, .int .i64, .int .i64, .int .i64, .int .i64, .int .i64, .int .i64, .recs [.i64, .i64] false]], [.agg [.int .i64, .int .i64, .int .i64, .int .i64, .int .i64, .int .i64, .int .i64, .int .i64, .pre [.i64, .i64]]], Int × Int × Int × Int × Int × Int × Int × Int × List (List Int), law12_of_w K, law12_of_enc⟩
theorem law12_of_ok (K : Nat) : FnOk Go.Proofs.Try.prog 8 (law12_of_spec K) := fn_okK' hmix (env_ref12_Check_ok K) (lenv := lenv0) (args := [.agg [.int .i64, .int .i64, .int .i64, .int .i64, .int .i64, .int .i64, .int .i64, .int .i64, .recs [.i64, .i64] false]]) (res := [.agg [.int .i64, .int .i64, .int .i64, .int .i64, .int .i64, .int .i64, .int .i64, .int .i64, .pre [.i64, .i64]]]) (G := law12_of_w K) (enc := law12_of_enc) Go.Proofs.Try.func8 (lps_fn (l := []) (by kernel_rfl) trivial) (dec := law12_of_dec) (fun u r h => by unfold law12_of_dec at h; split at h; (obtain rfl := Option.some.inj h; rfl); cases h) (fun us r h => by unfold law12_of_w at h; split at h; exact ((den2_eq _).symm.trans (law12_of_eq K _ _ _ _ _ _ _ _ _)).trans h; cases h)
def env_law12_of (K : Nat) : FuncId → Option Vm.Spec := addS (env_ref12_Check K) 8 (law12_of_spec K)
theorem env_law12_of_ok (K : Nat) : EnvOk Go.Proofs.Try.prog (env_law12_of K) := addS_ok (env_ref12_Check_ok K) (.inl ⟨callable Go.Proofs.Try.func8 (by kernel_rfl) (by kernel_rfl), law12_of_ok K⟩)
-- passbook/passbooklaw12.ProdChecks
def law12_ProdChecks_dec : List U → Option (Bool) := fun u => match u with | [.b c0] => some (c0) | _ => none
def law12_ProdChecks_enc : (Bool) → List U := fun r => [.b r]
def law12_ProdChecks (K : Nat) (x0_0 : Int) (x0_1 : Int) (x0_2 : Int) (x0_3 : Int) (x0_4 : Int) (x0_5 : Int) (x0_6 : Int) (x0_7 : Int) (q0_8 : List (List Int)) : Option (Bool) := ((law12_of K x0_0 x0_1 x0_2 x0_3 x0_4 x0_5 x0_6 x0_7 q0_8).bind fun r0 => ((law12_awake K).bind fun r1 => (bi (r1)
    ((prod_Check K r0.fst r0.snd.fst r0.snd.snd.fst r0.snd.snd.snd.fst r0.snd.snd.snd.snd.fst
  r0.snd.snd.snd.snd.snd.fst r0.snd.snd.snd.snd.snd.snd.fst r0.snd.snd.snd.snd.snd.snd.snd.fst
  (List.take
    (nth 0 (nth [] r0.snd.snd.snd.snd.snd.snd.snd.snd 0)
        0).toNat
    (List.drop 0 (List.drop 1 r0.snd.snd.snd.snd.snd.snd.snd.snd)))).bind fun r2 => ((ref12_Check K x0_0 x0_1 x0_2 x0_3 x0_4 x0_5 x0_6 x0_7 q0_8).bind fun r3 => (bi (r2 == r3)
    ((prod_Tiers K
  (List.take
    (nth 0 (nth [] r0.snd.snd.snd.snd.snd.snd.snd.snd 0)
        0).toNat
    (List.drop 0 (List.drop 1 r0.snd.snd.snd.snd.snd.snd.snd.snd)))).bind fun r4 => ((ref12_Tiers K q0_8).bind fun r5 => (bi (r4 == r5)
    ((law12_back K r0.fst r0.snd.fst r0.snd.snd.fst r0.snd.snd.snd.fst r0.snd.snd.snd.snd.fst
  r0.snd.snd.snd.snd.snd.fst r0.snd.snd.snd.snd.snd.snd.fst r0.snd.snd.snd.snd.snd.snd.snd.fst
  (List.take
    (nth 0 (nth [] r0.snd.snd.snd.snd.snd.snd.snd.snd 0)
        0).toNat
    (List.drop 0 (List.drop 1 r0.snd.snd.snd.snd.snd.snd.snd.snd)))).bind fun r6 => ((ref12_Same K r6.fst r6.snd.fst r6.snd.snd.fst r6.snd.snd.snd.fst r6.snd.snd.snd.snd.fst
  r6.snd.snd.snd.snd.snd.fst r6.snd.snd.snd.snd.snd.snd.fst r6.snd.snd.snd.snd.snd.snd.snd.fst
  r6.snd.snd.snd.snd.snd.snd.snd.snd x0_0 x0_1 x0_2 x0_3 x0_4 x0_5 x0_6 x0_7 q0_8).bind fun r7 => (bi (r7)
    (bi (Bool.true && Decidable.decide (0 ≤ Go.IntKind.i64.wrap ((↑q0_8.length : Int) + 1)) &&
  Decidable.decide
    (0 + Go.IntKind.i64.wrap ((↑q0_8.length : Int) + 1) ≤
      (↑(List.drop 1 r0.snd.snd.snd.snd.snd.snd.snd.snd).length : Int)))
    (bi (Decidable.decide (0 ≤ (↑q0_8.length : Int)) &&
  Decidable.decide ((↑q0_8.length : Int) < (↑((Go.IntKind.i64.wrap ((↑q0_8.length : Int) + 1)).toNat - 0) : Int)))
    (some (nth 0
    (nth [] (List.drop 1 r0.snd.snd.snd.snd.snd.snd.snd.snd)
      (0 + (↑q0_8.length : Int).toNat))
    0 ==
  77))
    none)
    none)
    (some Bool.false))))
    (some Bool.false))))
    (some Bool.false))))
    (some Bool.false))))
theorem law12_ProdChecks_eq (K : Nat) (x0_0 : Int) (x0_1 : Int) (x0_2 : Int) (x0_3 : Int) (x0_4 : Int) (x0_5 : Int) (x0_6 : Int) (x0_7 : Int) (q0_8 : List (List Int)) : (runFK Go.Proofs.Try.prog (env_law12_of K) (lenv0) Go.Proofs.Try.f3 [.agg [.int .i64, .int .i64, .int .i64, .int .i64, .int .i64, .int .i64, .int .i64, .int .i64, .recs [.i64, .i64] false]] [.one (.bool)] law12_ProdChecks_dec [.i x0_0, .i x0_1, .i x0_2, .i x0_3, .i x0_4, .i x0_5, .i x0_6, .i x0_7, .rr q0_8]).den2 = law12_ProdChecks K x0_0 x0_1 x0_2 x0_3 x0_4 x0_5 x0_6 x0_7 q0_8 := by kernel_rfl
def law12_ProdChecks_w (K : Nat) : List U → Option (Bool) := fun us => match us with | [.i x0_0, .i x0_1, .i x0_2, .i x0_3, .i x0_4, .i x0_5, .i x0_6, .i x0_7, .rr q0_8] => law12_ProdChecks K x0_0 x0_1 x0_2 x0_3 x0_4 x0_5 x0_6 x0_7 q0_8 | _ => none
def law12_ProdChecks_spec (K : Nat) : Vm.Spec := ⟨[.agg [.int .i64, .int .i64, .int .i64, .int .i64, .int .i64, .int .i64, .int .i64, .int .i64, .recs [.i64, .i64] false]], [.one (.bool)], Bool, law12_ProdChecks_w K, law12_ProdChecks_enc⟩
theorem law12_ProdChecks_ok (K : Nat) : FnOk Go.Proofs.Try.prog 3 (law12_ProdChecks_spec K) := fn_okK' hmix (env_law12_of_ok K) (lenv := lenv0) (args := [.agg [.int .i64, .int .i64, .int .i64, .int .i64, .int .i64, .int .i64, .int .i64, .int .i64, .recs [.i64, .i64] false]]) (res := [.one (.bool)]) (G := law12_ProdChecks_w K) (enc := law12_ProdChecks_enc) Go.Proofs.Try.func3 (lps_fn (l := []) (by kernel_rfl) trivial) (dec := law12_ProdChecks_dec) (fun u r h => by unfold law12_ProdChecks_dec at h; split at h; (obtain rfl := Option.some.inj h; rfl); cases h) (fun us r h => by unfold law12_ProdChecks_w at h; split at h; exact ((den2_eq _).symm.trans (law12_ProdChecks_eq K _ _ _ _ _ _ _ _ _)).trans h; cases h)
def env_law12_ProdChecks (K : Nat) : FuncId → Option Vm.Spec := addS (env_law12_of K) 3 (law12_ProdChecks_spec K)
theorem env_law12_ProdChecks_ok (K : Nat) : EnvOk Go.Proofs.Try.prog (env_law12_ProdChecks K) := addS_ok (env_law12_of_ok K) (.inl ⟨callable Go.Proofs.Try.func3 (by kernel_rfl) (by kernel_rfl), law12_ProdChecks_ok K⟩)
end
end Go.Proofs.Ytmmaechogibodaa.F
