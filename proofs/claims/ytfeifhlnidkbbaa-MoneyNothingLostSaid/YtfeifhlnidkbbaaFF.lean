import Derived.Test.YtfeifhlnidkbbaaVmY
import Derived.Test.YtfeifhlnidkbbaaProg
import Derived.Test.YtfeifhlnidkbbaaFE
namespace Go.Proofs.Ytfeifhlnidkbbaa.F
open Go Go.Proofs.Ytfeifhlnidkbbaa.Vm
set_option maxRecDepth 1000000
set_option linter.unusedVariables false
-- passbook/passbooklaw05.MoneyScaled
def law05_MoneyScaled_l17_pre : Vm.Pat := ⟨88, [(14, .pv (.one (.recs [.i64, .i64] false))), (16, .pv (.one (.recs [.i64, .i64] false))), (74, .pv (.one (.int .i64))), (75, .pv (.one (.int .i64)))], [], []⟩
def law05_MoneyScaled_l17_post0 : Vm.Pat := ⟨88, [], [], []⟩
def law05_MoneyScaled_l17_enc0 : Unit → List U := fun _ => []
def law05_MoneyScaled_l17_dec0 : List U → Option (Unit) := fun u => match u with | [] => some () | _ => none
def law05_MoneyScaled_l17_post1 : Vm.Pat := ⟨88, [(8, .pv (.one (.bool)))], [], []⟩
def law05_MoneyScaled_l17_enc1 : Bool → List U := fun r => [.b r]
def law05_MoneyScaled_l17_dec1 : List U → Option (Bool) := fun u => match u with | [.b c8] => some (c8) | _ => none
def law05_MoneyScaled_l17 (K : Nat) : Nat → List (List Int) → List (List Int) → Int → Int → Option ((Unit) ⊕ (Bool))
  | 0, _, _, _, _ => none
  | k + 1, q14, q16, x74, x75 => (bi (Decidable.decide (x75 < x74))
    (bi (Decidable.decide (0 ≤ x75) && Decidable.decide (x75 < (↑q14.length : Int)))
    (bi (Decidable.decide (0 ≤ x75) && Decidable.decide (x75 < (↑q16.length : Int)))
    (bi (!(nth 0 (nth [] q14 x75.toNat) 0 ==
      nth 0 (nth [] q16 x75.toNat) 0 &&
    (nth 0 (nth [] q14 x75.toNat) 1 ==
        nth 0 (nth [] q16 x75.toNat) 1 &&
      Bool.true)))
    (some (Sum.inr Bool.false))
    (law05_MoneyScaled_l17 K k (q14) (q16) (x74) (Go.IntKind.i64.wrap (x75 + 1))))
    none)
    none)
    (some (Sum.inl ())))
def law05_MoneyScaled_l17_w (K k : Nat) : List U → Option ((Unit) ⊕ (Bool)) := fun us => match us with | [.rr q14, .rr q16, .i x74, .i x75] => law05_MoneyScaled_l17 K k q14 q16 x74 x75 | _ => none
theorem law05_MoneyScaled_l17_eq (K k : Nat) (q14 : List (List Int)) (q16 : List (List Int)) (x74 : Int) (x75 : Int) : (round2 Go.Proofs.Try.prog (env_law05_MoneyDecimals K) (lenv0) (lp (bodyOf Go.Proofs.Try.f5) 1) law05_MoneyScaled_l17_pre (.exit 2) law05_MoneyScaled_l17_post0 .ret law05_MoneyScaled_l17_post1 law05_MoneyScaled_l17_dec0 law05_MoneyScaled_l17_dec1 (law05_MoneyScaled_l17_w K k) [.rr q14, .rr q16, .i x74, .i x75]).den2 = law05_MoneyScaled_l17 K (k + 1) q14 q16 x74 x75 := by kernel_rfl
def law05_MoneyScaled_l17_s (K : Nat) : Vm.LS := .two law05_MoneyScaled_l17_pre _ _ (.exit 2) law05_MoneyScaled_l17_post0 .ret law05_MoneyScaled_l17_post1 (law05_MoneyScaled_l17_w K K) law05_MoneyScaled_l17_enc0 law05_MoneyScaled_l17_enc1
theorem law05_MoneyScaled_l17_ok (K : Nat) : LoopOk Go.Proofs.Try.prog (lp (bodyOf Go.Proofs.Try.f5) 1) (law05_MoneyScaled_l17_s K) := loop_two hmix (env_law05_MoneyDecimals_ok K) (lenv := lenv0) (L := law05_MoneyScaled_l17_w K) (enc := law05_MoneyScaled_l17_enc0) (dec := law05_MoneyScaled_l17_dec0) (enc' := law05_MoneyScaled_l17_enc1) (dec' := law05_MoneyScaled_l17_dec1) (lps_ok (l := []) (by kernel_rfl) trivial) (fun u r h => by unfold law05_MoneyScaled_l17_dec0 at h; split at h; (obtain rfl := Option.some.inj h; rfl); cases h) (fun u r h => by unfold law05_MoneyScaled_l17_dec1 at h; split at h; (obtain rfl := Option.some.inj h; rfl); cases h) (fun us => by unfold law05_MoneyScaled_l17_w; split <;> first | rfl | (simp only [law05_MoneyScaled_l17])) (fun k us r h => by unfold law05_MoneyScaled_l17_w at h; split at h; exact ((den2_eq _).symm.trans (law05_MoneyScaled_l17_eq K k _ _ _ _)).trans h; cases h) K
def law05_MoneyScaled_v17 (K : Nat) : Nat → Option Vm.LS := addL (lenv0) 17 (law05_MoneyScaled_l17_s K)
def law05_MoneyScaled_l6_pre : Vm.Pat := ⟨88, [(3, .pv (.one (.int .u8))), (10, .pv (.one (.row .i64 true))), (11, .pv (.one (.row .i64 true))), (27, .pv (.one (.row .u16 false))), (28, .pv (.one (.int .i64))), (29, .pv (.one (.int .i64))), (9, .box 0 0)], [.cells [.int .i64, .int .i64]], []⟩
def law05_MoneyScaled_l6_post0 : Vm.Pat := ⟨88, [(10, .pv (.one (.row .i64 true))), (11, .pv (.one (.row .i64 true))), (9, .box 0 0)], [.cells [.int .i64, .int .i64]], []⟩
def law05_MoneyScaled_l6_enc0 : List Int × List Int × Int × Int → List U := fun r => [.r r.1, .r r.2.1, .i r.2.2.1, .i r.2.2.2]
def law05_MoneyScaled_l6_dec0 : List U → Option (List Int × List Int × Int × Int) := fun u => match u with | [.r l10, .r l11, .i x9_0, .i x9_1] => some (l10, l11, x9_0, x9_1) | _ => none
def law05_MoneyScaled_l6 (K : Nat) : Nat → Int → List Int → List Int → List Int → Int → Int → Int → Int → Option (List Int × List Int × Int × Int)
  | 0, _, _, _, _, _, _, _, _ => none
  | k + 1, x3, l10, l11, l27, x28, x29, x9_0, x9_1 => (bi (Decidable.decide (x29 < x28))
    (bi (Decidable.decide (0 ≤ x29) && Decidable.decide (x29 < (↑l27.length : Int)))
    (bi (Decidable.decide (x29 < 64))
    (bi (Decidable.decide (l10.length + 1 ≤ 8796093022208))
    (bi (Decidable.decide (l11.length + 1 ≤ 8796093022208))
    (law05_MoneyScaled_l6 K k (x3) (l10 ++ [Go.IntKind.i64.wrap (nth 0 l27 x29.toNat)]) (l11 ++
  [Go.IntKind.i64.wrap
      (Go.IntKind.i64.wrap (nth 0 l27 x29.toNat) *
        Go.IntKind.i64.wrap (1 + Go.IntKind.i64.wrap x3))]) (l27) (x28) (Go.IntKind.i64.wrap (x29 + 1)) (x9_0) (x9_1))
    none)
    none)
    (law05_MoneyScaled_l6 K k (x3) (l10) (l11) (l27) (x28) (Go.IntKind.i64.wrap (x29 + 1)) (x9_0) (x9_1)))
    none)
    (some ((l10, l11, x9_0, x9_1))))
def law05_MoneyScaled_l6_w (K k : Nat) : List U → Option (List Int × List Int × Int × Int) := fun us => match us with | [.i x3, .r l10, .r l11, .r l27, .i x28, .i x29, .i x9_0, .i x9_1] => law05_MoneyScaled_l6 K k x3 l10 l11 l27 x28 x29 x9_0 x9_1 | _ => none
theorem law05_MoneyScaled_l6_eq (K k : Nat) (x3 : Int) (l10 : List Int) (l11 : List Int) (l27 : List Int) (x28 : Int) (x29 : Int) (x9_0 : Int) (x9_1 : Int) : (round1 Go.Proofs.Try.prog (env_law05_MoneyDecimals K) (law05_MoneyScaled_v17 K) (lp (bodyOf Go.Proofs.Try.f5) 0) law05_MoneyScaled_l6_pre (.exit 0) law05_MoneyScaled_l6_post0 law05_MoneyScaled_l6_dec0 (law05_MoneyScaled_l6_w K k) [.i x3, .r l10, .r l11, .r l27, .i x28, .i x29, .i x9_0, .i x9_1]).den2 = law05_MoneyScaled_l6 K (k + 1) x3 l10 l11 l27 x28 x29 x9_0 x9_1 := by kernel_rfl
def law05_MoneyScaled_l6_s (K : Nat) : Vm.LS := .one law05_MoneyScaled_l6_pre _ (.exit 0) law05_MoneyScaled_l6_post0 (law05_MoneyScaled_l6_w K K) law05_MoneyScaled_l6_enc0
theorem law05_MoneyScaled_l6_ok (K : Nat) : LoopOk Go.Proofs.Try.prog (lp (bodyOf Go.Proofs.Try.f5) 0) (law05_MoneyScaled_l6_s K) := loop_one hmix (env_law05_MoneyDecimals_ok K) (lenv := law05_MoneyScaled_v17 K) (L := law05_MoneyScaled_l6_w K) (enc := law05_MoneyScaled_l6_enc0) (dec := law05_MoneyScaled_l6_dec0) (lps_ok (l := []) (by kernel_rfl) trivial) (fun u r h => by unfold law05_MoneyScaled_l6_dec0 at h; split at h; (obtain rfl := Option.some.inj h; rfl); cases h) (fun us => by unfold law05_MoneyScaled_l6_w; split <;> first | rfl | (simp only [law05_MoneyScaled_l6])) (fun k us r h => by unfold law05_MoneyScaled_l6_w at h; split at h; exact ((den2_eq _).symm.trans (law05_MoneyScaled_l6_eq K k _ _ _ _ _ _ _ _)).trans h; cases h) K
def law05_MoneyScaled_v6 (K : Nat) : Nat → Option Vm.LS := addL (law05_MoneyScaled_v17 K) 6 (law05_MoneyScaled_l6_s K)
def law05_MoneyScaled_dec : List U → Option (Bool) := fun u => match u with | [.b c0] => some (c0) | _ => none
def law05_MoneyScaled_enc : (Bool) → List U := fun r => [.b r]
def law05_MoneyScaled (K : Nat) (x0 : Int) (x1 : Int) (l2 : List Int) (x3 : Int) : Option (Bool) := ((law05_awake K).bind fun r0 => (bi (!r0)
    (some Bool.false)
    ((law05_MoneyScaled_l6 K K x3 [] [] l2 (↑l2.length : Int) 0 (Go.IntKind.i64.wrap (x1.tmod 4))
  (x0.tmod 10000000000001)).bind fun r1 => ((money_Split K r1.snd.snd.fst r1.snd.snd.snd r1.fst).bind fun r2 => ((money_Split K r1.snd.snd.fst r1.snd.snd.snd r1.snd.fst).bind fun r3 => (bi (r2.snd != r3.snd)
    (some Bool.false)
    (bi ((↑r2.fst.length : Int) != (↑r3.fst.length : Int))
    (some Bool.false)
    (casO (law05_MoneyScaled_l17 K K r2.fst r3.fst (↑r2.fst.length : Int) 0) (fun r4 => (some Bool.true)) (fun r5 => (some r5))))))))))
theorem law05_MoneyScaled_eq (K : Nat) (x0 : Int) (x1 : Int) (l2 : List Int) (x3 : Int) : (runF Go.Proofs.Try.prog (env_law05_MoneyDecimals K) (law05_MoneyScaled_v6 K) Go.Proofs.Try.f5 [.one (.int .i64), .one (.int .u8), .one (.row .u16 false), .one (.int .u8)] [.one (.bool)] law05_MoneyScaled_dec [.i x0, .i x1, .r l2, .i x3]).den2 = law05_MoneyScaled K x0 x1 l2 x3 := by kernel_rfl
def law05_MoneyScaled_w (K : Nat) : List U → Option (Bool) := fun us => match us with | [.i x0, .i x1, .r l2, .i x3] => law05_MoneyScaled K x0 x1 l2 x3 | _ => none
def law05_MoneyScaled_spec (K : Nat) : Vm.Spec := ⟨[.one (.int .i64), .one (.int .u8), .one (.row .u16 false), .one (.int .u8)], [.one (.bool)], Bool, law05_MoneyScaled_w K, law05_MoneyScaled_enc⟩
theorem law05_MoneyScaled_ok (K : Nat) : FnOk Go.Proofs.Try.prog 5 (law05_MoneyScaled_spec K) := fn_ok' hmix (env_law05_MoneyDecimals_ok K) (lenv := law05_MoneyScaled_v6 K) (args := [.one (.int .i64), .one (.int .u8), .one (.row .u16 false), .one (.int .u8)]) (res := [.one (.bool)]) (G := law05_MoneyScaled_w K) (enc := law05_MoneyScaled_enc) Go.Proofs.Try.func5 (lps_fn (l := [lp (bodyOf Go.Proofs.Try.f5) 0, lp (bodyOf Go.Proofs.Try.f5) 1]) (by kernel_rfl) ⟨⟨6, law05_MoneyScaled_l6_s K, by kernel_rfl, by kernel_rfl, law05_MoneyScaled_l6_ok K⟩, ⟨⟨17, law05_MoneyScaled_l17_s K, by kernel_rfl, by kernel_rfl, law05_MoneyScaled_l17_ok K⟩, trivial⟩⟩) (dec := law05_MoneyScaled_dec) (fun u r h => by unfold law05_MoneyScaled_dec at h; split at h; (obtain rfl := Option.some.inj h; rfl); cases h) (fun us r h => by unfold law05_MoneyScaled_w at h; split at h; exact ((den2_eq _).symm.trans (law05_MoneyScaled_eq K _ _ _ _)).trans h; cases h)
def env_law05_MoneyScaled (K : Nat) : FuncId → Option Vm.Spec := addS (env_law05_MoneyDecimals K) 5 (law05_MoneyScaled_spec K)
theorem env_law05_MoneyScaled_ok (K : Nat) : EnvOk Go.Proofs.Try.prog (env_law05_MoneyScaled K) := addS_ok (env_law05_MoneyDecimals_ok K) (.inl ⟨callable Go.Proofs.Try.func5 (by kernel_rfl) (by kernel_rfl), law05_MoneyScaled_ok K⟩)
end Go.Proofs.Ytfeifhlnidkbbaa.F
