import Derived.Test.YtfeifhlnidkbbaaVmY
import Derived.Test.YtfeifhlnidkbbaaVmRc
import Derived.Test.YtfeifhlnidkbbaaVmCl
import Derived.Test.YtfeifhlnidkbbaaProg
import Derived.Test.YtfeifhlnidkbbaaFY
namespace Go.Proofs.Ytfeifhlnidkbbaa.F
open Go Go.Proofs.Ytfeifhlnidkbbaa.Vm
set_option maxRecDepth 1000000
set_option linter.unusedVariables false
noncomputable section
-- passbook/passbooklaw05.MoneySplits
def law05_MoneySplits_l9_pre : Vm.Pat := ⟨84, [(6, .pv (.one (.recs [.i64, .i64] false))), (8, .pv (.one (.recs [.i64, .i64] false))), (70, .pv (.one (.int .i64))), (71, .pv (.one (.int .i64)))], [], []⟩
def law05_MoneySplits_l9_post0 : Vm.Pat := ⟨84, [], [], []⟩
def law05_MoneySplits_l9_enc0 : Unit → List U := fun _ => []
def law05_MoneySplits_l9_dec0 : List U → Option (Unit) := fun u => match u with | [] => some () | _ => none
def law05_MoneySplits_l9_post1 : Vm.Pat := ⟨84, [(4, .pv (.one (.bool)))], [], []⟩
def law05_MoneySplits_l9_enc1 : Bool → List U := fun r => [.b r]
def law05_MoneySplits_l9_dec1 : List U → Option (Bool) := fun u => match u with | [.b c4] => some (c4) | _ => none
def law05_MoneySplits_l9 (K : Nat) : Nat → List (List Int) → List (List Int) → Int → Int → Option ((Unit) ⊕ (Bool))
  | 0, _, _, _, _ => none
  | k + 1, q6, q8, x70, x71 => (bi (Decidable.decide (x71 < x70))
    (bi (Decidable.decide (0 ≤ x71) && Decidable.decide (x71 < (↑q6.length : Int)))
    (bi (Decidable.decide (0 ≤ x71) && Decidable.decide (x71 < (↑q8.length : Int)))
    (bi (!(nth 0 (nth [] q6 x71.toNat) 0 ==
      nth 0 (nth [] q8 x71.toNat) 0 &&
    (nth 0 (nth [] q6 x71.toNat) 1 ==
        nth 0 (nth [] q8 x71.toNat) 1 &&
      Bool.true)))
    (some (Sum.inr Bool.false))
    (law05_MoneySplits_l9 K k (q6) (q8) (x70) (Go.IntKind.i64.wrap (x71 + 1))))
    none)
    none)
    (some (Sum.inl ())))
def law05_MoneySplits_l9_w (K k : Nat) : List U → Option ((Unit) ⊕ (Bool)) := fun us => match us with | [.rr q6, .rr q8, .i x70, .i x71] => law05_MoneySplits_l9 K k q6 q8 x70 x71 | _ => none
theorem law05_MoneySplits_l9_eq (K k : Nat) (q6 : List (List Int)) (q8 : List (List Int)) (x70 : Int) (x71 : Int) : (round2K Go.Proofs.Try.prog (env_ref05_DocSplit K) (lenv0) (lp (bodyOf Go.Proofs.Try.f3) 0) law05_MoneySplits_l9_pre (.exit 0) law05_MoneySplits_l9_post0 .ret law05_MoneySplits_l9_post1 law05_MoneySplits_l9_dec0 law05_MoneySplits_l9_dec1 (law05_MoneySplits_l9_w K k) [.rr q6, .rr q8, .i x70, .i x71]).den2 = law05_MoneySplits_l9 K (k + 1) q6 q8 x70 x71 := by kernel_rfl
def law05_MoneySplits_l9_s (K : Nat) : Vm.LS := .two law05_MoneySplits_l9_pre _ _ (.exit 0) law05_MoneySplits_l9_post0 .ret law05_MoneySplits_l9_post1 (law05_MoneySplits_l9_w K K) law05_MoneySplits_l9_enc0 law05_MoneySplits_l9_enc1
theorem law05_MoneySplits_l9_ok (K : Nat) : LoopOk Go.Proofs.Try.prog (lp (bodyOf Go.Proofs.Try.f3) 0) (law05_MoneySplits_l9_s K) := loop_twoK hmix (env_ref05_DocSplit_ok K) (lenv := lenv0) (L := law05_MoneySplits_l9_w K) (enc := law05_MoneySplits_l9_enc0) (dec := law05_MoneySplits_l9_dec0) (enc' := law05_MoneySplits_l9_enc1) (dec' := law05_MoneySplits_l9_dec1) (lps_ok (l := []) (by kernel_rfl) trivial) (fun u r h => by unfold law05_MoneySplits_l9_dec0 at h; split at h; (obtain rfl := Option.some.inj h; rfl); cases h) (fun u r h => by unfold law05_MoneySplits_l9_dec1 at h; split at h; (obtain rfl := Option.some.inj h; rfl); cases h) (fun us => by unfold law05_MoneySplits_l9_w; split <;> first | rfl | (simp only [law05_MoneySplits_l9])) (fun k us r h => by unfold law05_MoneySplits_l9_w at h; split at h; exact ((den2_eq _).symm.trans (law05_MoneySplits_l9_eq K k _ _ _ _)).trans h; cases h) K
def law05_MoneySplits_v9 (K : Nat) : Nat → Option Vm.LS := addL (lenv0) 9 (law05_MoneySplits_l9_s K)
def law05_MoneySplits_dec : List U → Option (Bool) := fun u => match u with | [.b c0] => some (c0) | _ => none
def law05_MoneySplits_enc : (Bool) → List U := fun r => [.b r]
def law05_MoneySplits (K : Nat) (x0_0 : Int) (x0_1 : Int) (l1 : List Int) : Option (Bool) := ((law05_awake K).bind fun r0 => (bi (!r0)
    (some Bool.false)
    (bi (Decidable.decide (0 + l1.length ≤ 17592186044416))
    (bi (Decidable.decide (([] ++ l1).length + 2 ≤ 17592186044416))
    (bi (Bool.true && Decidable.decide (0 ≤ (↑l1.length : Int)) &&
  Decidable.decide ((↑l1.length : Int) ≤ (↑([] ++ l1 ++ [77, 78]).length : Int)))
    ((money_Split K x0_0 x0_1
  (List.take ((↑l1.length : Int).toNat - 0) (List.drop 0 ([] ++ l1 ++ [77, 78])))).bind fun r1 => ((ref05_DocSplit K x0_0 x0_1 l1).bind fun r2 => (bi ((↑r1.fst.length : Int) != (↑r2.fst.length : Int))
    (some Bool.false)
    (bi (r1.snd != r2.snd)
    (some Bool.false)
    (bi (Bool.true && Decidable.decide (0 ≤ (↑l1.length : Int)) &&
  Decidable.decide ((↑l1.length : Int) ≤ (↑([] ++ l1 ++ [77, 78]).length : Int)))
    ((ref01_SameInts K
  (List.take ((↑l1.length : Int).toNat - 0) (List.drop 0 ([] ++ l1 ++ [77, 78]))) l1).bind fun r3 => (bi (!r3)
    (some Bool.false)
    (bi (Decidable.decide (0 ≤ (↑l1.length : Int)) &&
  Decidable.decide ((↑l1.length : Int) < (↑([] ++ l1 ++ [77, 78]).length : Int)))
    (bi (nth 0 ([] ++ l1 ++ [77, 78]) (↑l1.length : Int).toNat != 77)
    (some Bool.false)
    (bi (Decidable.decide (0 ≤ Go.IntKind.i64.wrap ((↑l1.length : Int) + 1)) &&
  Decidable.decide (Go.IntKind.i64.wrap ((↑l1.length : Int) + 1) < (↑([] ++ l1 ++ [77, 78]).length : Int)))
    (bi (nth 0 ([] ++ l1 ++ [77, 78]) (Go.IntKind.i64.wrap ((↑l1.length : Int) + 1)).toNat != 78)
    (some Bool.false)
    (casO (law05_MoneySplits_l9 K K r1.fst r2.fst (↑r1.fst.length : Int) 0) (fun r4 => (some Bool.true)) (fun r5 => (some r5))))
    none))
    none)))
    none)))))
    none)
    none)
    none)))
theorem law05_MoneySplits_eq (K : Nat) (x0_0 : Int) (x0_1 : Int) (l1 : List Int) : (runFK Go.Proofs.Try.prog (env_ref05_DocSplit K) (law05_MoneySplits_v9 K) Go.Proofs.Try.f3 [.agg [.int .i64, .int .i64], .one (.row .i64 false)] [.one (.bool)] law05_MoneySplits_dec [.i x0_0, .i x0_1, .r l1]).den2 = law05_MoneySplits K x0_0 x0_1 l1 := by kernel_rfl
def law05_MoneySplits_w (K : Nat) : List U → Option (Bool) := fun us => match us with | [.i x0_0, .i x0_1, .r l1] => law05_MoneySplits K x0_0 x0_1 l1 | _ => none
def law05_MoneySplits_spec (K : Nat) : Vm.Spec := ⟨[.agg [.int .i64, .int .i64], .one (.row .i64 false)], [.one (.bool)], Bool, law05_MoneySplits_w K, law05_MoneySplits_enc⟩
theorem law05_MoneySplits_ok (K : Nat) : FnOk Go.Proofs.Try.prog 3 (law05_MoneySplits_spec K) := fn_okK' hmix (env_ref05_DocSplit_ok K) (lenv := law05_MoneySplits_v9 K) (args := [.agg [.int .i64, .int .i64], .one (.row .i64 false)]) (res := [.one (.bool)]) (G := law05_MoneySplits_w K) (enc := law05_MoneySplits_enc) Go.Proofs.Try.func3 (lps_fn (l := [lp (bodyOf Go.Proofs.Try.f3) 0]) (by kernel_rfl) ⟨⟨9, law05_MoneySplits_l9_s K, by kernel_rfl, by kernel_rfl, law05_MoneySplits_l9_ok K⟩, trivial⟩) (dec := law05_MoneySplits_dec) (fun u r h => by unfold law05_MoneySplits_dec at h; split at h; (obtain rfl := Option.some.inj h; rfl); cases h) (fun us r h => by unfold law05_MoneySplits_w at h; split at h; exact ((den2_eq _).symm.trans (law05_MoneySplits_eq K _ _ _)).trans h; cases h)
def env_law05_MoneySplits (K : Nat) : FuncId → Option Vm.Spec := addS (env_ref05_DocSplit K) 3 (law05_MoneySplits_spec K)
theorem env_law05_MoneySplits_ok (K : Nat) : EnvOk Go.Proofs.Try.prog (env_law05_MoneySplits K) := addS_ok (env_ref05_DocSplit_ok K) (.inl ⟨callable Go.Proofs.Try.func3 (by kernel_rfl) (by kernel_rfl), law05_MoneySplits_ok K⟩)
end
end Go.Proofs.Ytfeifhlnidkbbaa.F
