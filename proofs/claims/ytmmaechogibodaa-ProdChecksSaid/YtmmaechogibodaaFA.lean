import Derived.Test.YtmmaechogibodaaVmY
import Derived.Test.YtmmaechogibodaaVmRc
import Derived.Test.YtmmaechogibodaaProg
namespace Go.Proofs.Ytmmaechogibodaa.F
open Go Go.Proofs.Ytmmaechogibodaa.Vm
set_option maxRecDepth 1000000
set_option linter.unusedVariables false
set_option linter.unusedSimpArgs false
theorem hmix : Go.Proofs.Try.prog.follows .mixedOrders = true := by kernel_rfl
def e0 (K : Nat) : FuncId → Option Vm.Spec := env0
theorem e0_ok (K : Nat) : EnvOk Go.Proofs.Try.prog (e0 K) := env0_ok
-- passbook/money.name
def money_name_dec : List U → Option (ByteArray) := fun u => match u with | [.s s0] => some (s0) | _ => none
def money_name_enc : (ByteArray) → List U := fun r => [.s r]
def money_name (K : Nat) (x0 : Int) : Option (ByteArray) := (bi (x0 == 0)
    (some ((ByteArray.mk #[69, 85, 82])))
    (bi (x0 == 1)
    (some ((ByteArray.mk #[85, 83, 68])))
    (bi (x0 == 2)
    (some ((ByteArray.mk #[74, 80, 89])))
    (bi (x0 == 3)
    (some ((ByteArray.mk #[75, 87, 68])))
    (some ((ByteArray.mk #[])))))))
theorem money_name_eq (K : Nat) (x0 : Int) : (runF Go.Proofs.Try.prog (e0 K) (lenv0) Go.Proofs.Try.f30 [.one (.int .i64)] [.one (.str)] money_name_dec [.i x0]).den2 = money_name K x0 := by kernel_rfl
def money_name_w (K : Nat) : List U → Option (ByteArray) := fun us => match us with | [.i x0] => money_name K x0 | _ => none
def money_name_spec (K : Nat) : Vm.Spec := ⟨[.one (.int .i64)], [.one (.str)], ByteArray, money_name_w K, money_name_enc⟩
theorem money_name_ok (K : Nat) : FnOk Go.Proofs.Try.prog 30 (money_name_spec K) := fn_ok' hmix (e0_ok K) (lenv := lenv0) (args := [.one (.int .i64)]) (res := [.one (.str)]) (G := money_name_w K) (enc := money_name_enc) Go.Proofs.Try.func30 (lps_fn (l := []) (by kernel_rfl) trivial) (dec := money_name_dec) (fun u r h => by unfold money_name_dec at h; split at h; (obtain rfl := Option.some.inj h; rfl); cases h) (fun us r h => by unfold money_name_w at h; split at h; exact ((den2_eq _).symm.trans (money_name_eq K _)).trans h; cases h)
def env_money_name (K : Nat) : FuncId → Option Vm.Spec := addS (e0 K) 30 (money_name_spec K)
theorem env_money_name_ok (K : Nat) : EnvOk Go.Proofs.Try.prog (env_money_name K) := addS_ok (e0_ok K) (.inl ⟨callable Go.Proofs.Try.func30 (by kernel_rfl) (by kernel_rfl), money_name_ok K⟩)
-- passbook/money.figures
def money_figures_dec : List U → Option (Int) := fun u => match u with | [.i x0] => some (x0) | _ => none
def money_figures_enc : (Int) → List U := fun r => [.i r]
def money_figures (K : Nat) (x0 : Int) : Option (Int) := (bi (x0 == 2)
    (some (0))
    (bi (x0 == 3)
    (some (3))
    (some (2))))
theorem money_figures_eq (K : Nat) (x0 : Int) : (runF Go.Proofs.Try.prog (env_money_name K) (lenv0) Go.Proofs.Try.f31 [.one (.int .i64)] [.one (.int .i64)] money_figures_dec [.i x0]).den2 = money_figures K x0 := by kernel_rfl
def money_figures_w (K : Nat) : List U → Option (Int) := fun us => match us with | [.i x0] => money_figures K x0 | _ => none
def money_figures_spec (K : Nat) : Vm.Spec := ⟨[.one (.int .i64)], [.one (.int .i64)], Int, money_figures_w K, money_figures_enc⟩
theorem money_figures_ok (K : Nat) : FnOk Go.Proofs.Try.prog 31 (money_figures_spec K) := fn_ok' hmix (env_money_name_ok K) (lenv := lenv0) (args := [.one (.int .i64)]) (res := [.one (.int .i64)]) (G := money_figures_w K) (enc := money_figures_enc) Go.Proofs.Try.func31 (lps_fn (l := []) (by kernel_rfl) trivial) (dec := money_figures_dec) (fun u r h => by unfold money_figures_dec at h; split at h; (obtain rfl := Option.some.inj h; rfl); cases h) (fun us r h => by unfold money_figures_w at h; split at h; exact ((den2_eq _).symm.trans (money_figures_eq K _)).trans h; cases h)
def env_money_figures (K : Nat) : FuncId → Option Vm.Spec := addS (env_money_name K) 31 (money_figures_spec K)
theorem env_money_figures_ok (K : Nat) : EnvOk Go.Proofs.Try.prog (env_money_figures K) := addS_ok (env_money_name_ok K) (.inl ⟨callable Go.Proofs.Try.func31 (by kernel_rfl) (by kernel_rfl), money_figures_ok K⟩)
-- passbook/money.Digits
def money_Digits_dec : List U → Option (Int × Int) := fun u => match u with | [.i x0, .i x1] => some (x0, x1) | _ => none
def money_Digits_enc : (Int × Int) → List U := fun r => [.i r.1, .i r.2]
def money_Digits (K : Nat) (x0 : Int) : Option (Int × Int) := ((money_name K x0).bind fun r0 => (bi (sEq r0 (ByteArray.mk #[]))
    (some ((0, 1)))
    ((money_figures K x0).bind fun r1 => (some ((r1, 0))))))
theorem money_Digits_eq (K : Nat) (x0 : Int) : (runF Go.Proofs.Try.prog (env_money_figures K) (lenv0) Go.Proofs.Try.f23 [.one (.int .i64)] [.one (.int .i64), .one (.int .i64)] money_Digits_dec [.i x0]).den2 = money_Digits K x0 := by kernel_rfl
def money_Digits_w (K : Nat) : List U → Option (Int × Int) := fun us => match us with | [.i x0] => money_Digits K x0 | _ => none
def money_Digits_spec (K : Nat) : Vm.Spec := ⟨[.one (.int .i64)], [.one (.int .i64), .one (.int .i64)], Int × Int, money_Digits_w K, money_Digits_enc⟩
theorem money_Digits_ok (K : Nat) : FnOk Go.Proofs.Try.prog 23 (money_Digits_spec K) := fn_ok' hmix (env_money_figures_ok K) (lenv := lenv0) (args := [.one (.int .i64)]) (res := [.one (.int .i64), .one (.int .i64)]) (G := money_Digits_w K) (enc := money_Digits_enc) Go.Proofs.Try.func23 (lps_fn (l := []) (by kernel_rfl) trivial) (dec := money_Digits_dec) (fun u r h => by unfold money_Digits_dec at h; split at h; (obtain rfl := Option.some.inj h; rfl); cases h) (fun us r h => by unfold money_Digits_w at h; split at h; exact ((den2_eq _).symm.trans (money_Digits_eq K _)).trans h; cases h)
def env_money_Digits (K : Nat) : FuncId → Option Vm.Spec := addS (env_money_figures K) 23 (money_Digits_spec K)
theorem env_money_Digits_ok (K : Nat) : EnvOk Go.Proofs.Try.prog (env_money_Digits K) := addS_ok (env_money_figures_ok K) (.inl ⟨callable Go.Proofs.Try.func23 (by kernel_rfl) (by kernel_rfl), money_Digits_ok K⟩)
-- passbook/passbookref03.Is
def ref03_Is_dec : List U → Option (Bool) := fun u => match u with | [.b c0] => some (c0) | _ => none
def ref03_Is_enc : (Bool) → List U := fun r => [.b r]
def ref03_Is (K : Nat) (x0 : Int) : Option (Bool) := (bi (Decidable.decide (x0 ≥ 1))
    (some (Decidable.decide (x0 ≤ 3652059)))
    (some Bool.false))
theorem ref03_Is_eq (K : Nat) (x0 : Int) : (runF Go.Proofs.Try.prog (env_money_Digits K) (lenv0) Go.Proofs.Try.f26 [.one (.int .i64)] [.one (.bool)] ref03_Is_dec [.i x0]).den2 = ref03_Is K x0 := by kernel_rfl
def ref03_Is_w (K : Nat) : List U → Option (Bool) := fun us => match us with | [.i x0] => ref03_Is K x0 | _ => none
def ref03_Is_spec (K : Nat) : Vm.Spec := ⟨[.one (.int .i64)], [.one (.bool)], Bool, ref03_Is_w K, ref03_Is_enc⟩
theorem ref03_Is_ok (K : Nat) : FnOk Go.Proofs.Try.prog 26 (ref03_Is_spec K) := fn_ok' hmix (env_money_Digits_ok K) (lenv := lenv0) (args := [.one (.int .i64)]) (res := [.one (.bool)]) (G := ref03_Is_w K) (enc := ref03_Is_enc) Go.Proofs.Try.func26 (lps_fn (l := []) (by kernel_rfl) trivial) (dec := ref03_Is_dec) (fun u r h => by unfold ref03_Is_dec at h; split at h; (obtain rfl := Option.some.inj h; rfl); cases h) (fun us r h => by unfold ref03_Is_w at h; split at h; exact ((den2_eq _).symm.trans (ref03_Is_eq K _)).trans h; cases h)
def env_ref03_Is (K : Nat) : FuncId → Option Vm.Spec := addS (env_money_Digits K) 26 (ref03_Is_spec K)
theorem env_ref03_Is_ok (K : Nat) : EnvOk Go.Proofs.Try.prog (env_ref03_Is K) := addS_ok (env_money_Digits_ok K) (.inl ⟨callable Go.Proofs.Try.func26 (by kernel_rfl) (by kernel_rfl), ref03_Is_ok K⟩)
-- passbook/prod.within
def prod_within_dec : List U → Option (Bool) := fun u => match u with | [.b c0] => some (c0) | _ => none
def prod_within_enc : (Bool) → List U := fun r => [.b r]
def prod_within (K : Nat) (x0 : Int) (x1 : Int) : Option (Bool) := (bi (Decidable.decide (x0 ≥ 0))
    (some (Decidable.decide (x0 ≤ x1)))
    (some Bool.false))
theorem prod_within_eq (K : Nat) (x0 : Int) (x1 : Int) : (runF Go.Proofs.Try.prog (env_ref03_Is K) (lenv0) Go.Proofs.Try.f24 [.one (.int .i64), .one (.int .i64)] [.one (.bool)] prod_within_dec [.i x0, .i x1]).den2 = prod_within K x0 x1 := by kernel_rfl
def prod_within_w (K : Nat) : List U → Option (Bool) := fun us => match us with | [.i x0, .i x1] => prod_within K x0 x1 | _ => none
def prod_within_spec (K : Nat) : Vm.Spec := ⟨[.one (.int .i64), .one (.int .i64)], [.one (.bool)], Bool, prod_within_w K, prod_within_enc⟩
theorem prod_within_ok (K : Nat) : FnOk Go.Proofs.Try.prog 24 (prod_within_spec K) := fn_ok' hmix (env_ref03_Is_ok K) (lenv := lenv0) (args := [.one (.int .i64), .one (.int .i64)]) (res := [.one (.bool)]) (G := prod_within_w K) (enc := prod_within_enc) Go.Proofs.Try.func24 (lps_fn (l := []) (by kernel_rfl) trivial) (dec := prod_within_dec) (fun u r h => by unfold prod_within_dec at h; split at h; (obtain rfl := Option.some.inj h; rfl); cases h) (fun us r h => by unfold prod_within_w at h; split at h; exact ((den2_eq _).symm.trans (prod_within_eq K _ _)).trans h; cases h)
def env_prod_within (K : Nat) : FuncId → Option Vm.Spec := addS (env_ref03_Is K) 24 (prod_within_spec K)
theorem env_prod_within_ok (K : Nat) : EnvOk Go.Proofs.Try.prog (env_prod_within K) := addS_ok (env_ref03_Is_ok K) (.inl ⟨callable Go.Proofs.Try.func24 (by kernel_rfl) (by kernel_rfl), prod_within_ok K⟩)
-- passbook/prod.Tiers
def prod_Tiers_l6_pre : Vm.Pat := ⟨50, [(0, .pv (.one (.recs [.i64, .i64] false))), (18, .pv (.one (.recs [.i64, .i64] false))), (19, .pv (.one (.int .i64))), (20, .pv (.one (.int .i64)))], [], []⟩
def prod_Tiers_l6_post0 : Vm.Pat := ⟨50, [], [], []⟩
def prod_Tiers_l6_enc0 : Unit → List U := fun _ => []
def prod_Tiers_l6_dec0 : List U → Option (Unit) := fun u => match u with | [] => some () | _ => none
def prod_Tiers_l6_post1 : Vm.Pat := ⟨50, [(2, .pv (.one (.int .i64)))], [], []⟩
def prod_Tiers_l6_enc1 : Int → List U := fun r => [.i r]
def prod_Tiers_l6_dec1 : List U → Option (Int) := fun u => match u with | [.i x2] => some (x2) | _ => none
def prod_Tiers_l6 (K : Nat) : Nat → List (List Int) → List (List Int) → Int → Int → Option ((Unit) ⊕ (Int))
  | 0, _, _, _, _ => none
  | k + 1, q0, q18, x19, x20 => (bi (Decidable.decide (x20 < x19))
    (bi (Decidable.decide (0 ≤ x20) && Decidable.decide (x20 < (↑q18.length : Int)))
    (bi (Decidable.decide (x20 > 0))
    (bi (Decidable.decide (0 ≤ Go.IntKind.i64.wrap (x20 - 1)) &&
  Decidable.decide (Go.IntKind.i64.wrap (x20 - 1) < (↑q0.length : Int)))
    (bi (Decidable.decide
  (nth 0 (nth [] q18 x20.toNat) 0 ≤
    nth 0 (nth [] q0 (Go.IntKind.i64.wrap (x20 - 1)).toNat)
      0))
    (some (Sum.inr 3))
    (bi (Decidable.decide
  (nth 0 (nth [] q18 x20.toNat) 0 > 10000000000000))
    (some (Sum.inr 3))
    ((prod_within K
  (nth 0 (nth [] q18 x20.toNat) 1) 1000000000).bind fun r0 => (bi (!r0)
    (some (Sum.inr 3))
    (prod_Tiers_l6 K k (q0) (q18) (x19) (Go.IntKind.i64.wrap (x20 + 1)))))))
    none)
    (bi (Decidable.decide
  (nth 0 (nth [] q18 x20.toNat) 0 > 10000000000000))
    (some (Sum.inr 3))
    ((prod_within K
  (nth 0 (nth [] q18 x20.toNat) 1) 1000000000).bind fun r1 => (bi (!r1)
    (some (Sum.inr 3))
    (prod_Tiers_l6 K k (q0) (q18) (x19) (Go.IntKind.i64.wrap (x20 + 1)))))))
    none)
    (some (Sum.inl ())))
def prod_Tiers_l6_w (K k : Nat) : List U → Option ((Unit) ⊕ (Int)) := fun us => match us with | [.rr q0, .rr q18, .i x19, .i x20] => prod_Tiers_l6 K k q0 q18 x19 x20 | _ => none
theorem prod_Tiers_l6_eq (K k : Nat) (q0 : List (List Int)) (q18 : List (List Int)) (x19 : Int) (x20 : Int) : (round2 Go.Proofs.Try.prog (env_prod_within K) (lenv0) (lp (bodyOf Go.Proofs.Try.f12) 0) prod_Tiers_l6_pre (.exit 0) prod_Tiers_l6_post0 .ret prod_Tiers_l6_post1 prod_Tiers_l6_dec0 prod_Tiers_l6_dec1 (prod_Tiers_l6_w K k) [.rr q0, .rr q18, .i x19, .i x20]).den2 = prod_Tiers_l6 K (k + 1) q0 q18 x19 x20 := by kernel_rfl
def prod_Tiers_l6_s (K : Nat) : Vm.LS := .two prod_Tiers_l6_pre _ _ (.exit 0) prod_Tiers_l6_post0 .ret prod_Tiers_l6_post1 (prod_Tiers_l6_w K K) prod_Tiers_l6_enc0 prod_Tiers_l6_enc1
theorem prod_Tiers_l6_ok (K : Nat) : LoopOk Go.Proofs.Try.prog (lp (bodyOf Go.Proofs.Try.f12) 0) (prod_Tiers_l6_s K) := loop_two hmix (env_prod_within_ok K) (lenv := lenv0) (L := prod_Tiers_l6_w K) (enc := prod_Tiers_l6_enc0) (dec := prod_Tiers_l6_dec0) (enc' := prod_Tiers_l6_enc1) (dec' := prod_Tiers_l6_dec1) (lps_ok (l := []) (by kernel_rfl) trivial) (fun u r h => by unfold prod_Tiers_l6_dec0 at h; split at h; (obtain rfl := Option.some.inj h; rfl); cases h) (fun u r h => by unfold prod_Tiers_l6_dec1 at h; split at h; (obtain rfl := Option.some.inj h; rfl); cases h) (fun us => by unfold prod_Tiers_l6_w; split <;> first | rfl | (simp only [prod_Tiers_l6])) (fun k us r h => by unfold prod_Tiers_l6_w at h; split at h; exact ((den2_eq _).symm.trans (prod_Tiers_l6_eq K k _ _ _ _)).trans h; cases h) K
def prod_Tiers_v6 (K : Nat) : Nat → Option Vm.LS := addL (lenv0) 6 (prod_Tiers_l6_s K)
def prod_Tiers_dec : List U → Option (Int) := fun u => match u with | [.i x0] => some (x0) | _ => none
def prod_Tiers_enc : (Int) → List U := fun r => [.i r]
def prod_Tiers (K : Nat) (q0 : List (List Int)) : Option (Int) := (bi (Decidable.decide ((↑q0.length : Int) > 8))
    (some (2))
    (bi ((↑q0.length : Int) == 0)
    (some (3))
    (bi (Bool.true && Decidable.decide (0 < (↑q0.length : Int)))
    (bi (nth 0 (nth [] q0 0) 0 != 0)
    (some (3))
    (casO (prod_Tiers_l6 K K q0 q0 (↑q0.length : Int) 0) (fun r0 => (some (0))) (fun r1 => (some r1))))
    none)))
theorem prod_Tiers_eq (K : Nat) (q0 : List (List Int)) : (runF Go.Proofs.Try.prog (env_prod_within K) (prod_Tiers_v6 K) Go.Proofs.Try.f12 [.one (.recs [.i64, .i64] false)] [.one (.int .i64)] prod_Tiers_dec [.rr q0]).den2 = prod_Tiers K q0 := by kernel_rfl
def prod_Tiers_w (K : Nat) : List U → Option (Int) := fun us => match us with | [.rr q0] => prod_Tiers K q0 | _ => none
def prod_Tiers_spec (K : Nat) : Vm.Spec := ⟨[.one (.recs [.i64, .i64] false)], [.one (.int .i64)], Int, prod_Tiers_w K, prod_Tiers_enc⟩
theorem prod_Tiers_ok (K : Nat) : FnOk Go.Proofs.Try.prog 12 (prod_Tiers_spec K) := fn_ok' hmix (env_prod_within_ok K) (lenv := prod_Tiers_v6 K) (args := [.one (.recs [.i64, .i64] false)]) (res := [.one (.int .i64)]) (G := prod_Tiers_w K) (enc := prod_Tiers_enc) Go.Proofs.Try.func12 (lps_fn (l := [lp (bodyOf Go.Proofs.Try.f12) 0]) (by kernel_rfl) ⟨⟨6, prod_Tiers_l6_s K, by kernel_rfl, by kernel_rfl, prod_Tiers_l6_ok K⟩, trivial⟩) (dec := prod_Tiers_dec) (fun u r h => by unfold prod_Tiers_dec at h; split at h; (obtain rfl := Option.some.inj h; rfl); cases h) (fun us r h => by unfold prod_Tiers_w at h; split at h; exact ((den2_eq _).symm.trans (prod_Tiers_eq K _)).trans h; cases h)
def env_prod_Tiers (K : Nat) : FuncId → Option Vm.Spec := addS (env_prod_within K) 12 (prod_Tiers_spec K)
theorem env_prod_Tiers_ok (K : Nat) : EnvOk Go.Proofs.Try.prog (env_prod_Tiers K) := addS_ok (env_prod_within_ok K) (.inl ⟨callable Go.Proofs.Try.func12 (by kernel_rfl) (by kernel_rfl), prod_Tiers_ok K⟩)
-- passbook/passbookref12.Tiers
def ref12_Tiers_l5_pre : Vm.Pat := ⟨50, [(0, .pv (.one (.recs [.i64, .i64] false))), (3, .pv (.one (.int .i64))), (9, .pv (.one (.recs [.i64, .i64] false))), (10, .pv (.one (.int .i64))), (11, .pv (.one (.int .i64)))], [], []⟩
def ref12_Tiers_l5_post0 : Vm.Pat := ⟨50, [(0, .pv (.one (.recs [.i64, .i64] false)))], [], []⟩
def ref12_Tiers_l5_enc0 : List (List Int) → List U := fun r => [.rr r]
def ref12_Tiers_l5_dec0 : List U → Option (List (List Int)) := fun u => match u with | [.rr q0] => some (q0) | _ => none
def ref12_Tiers_l5_post1 : Vm.Pat := ⟨50, [(2, .pv (.one (.int .i64)))], [], []⟩
def ref12_Tiers_l5_enc1 : Int → List U := fun r => [.i r]
def ref12_Tiers_l5_dec1 : List U → Option (Int) := fun u => match u with | [.i x2] => some (x2) | _ => none
def ref12_Tiers_l5 (K : Nat) : Nat → List (List Int) → Int → List (List Int) → Int → Int → Option ((List (List Int)) ⊕ (Int))
  | 0, _, _, _, _, _ => none
  | k + 1, q0, x3, q9, x10, x11 => (bi (Decidable.decide (x11 < x10))
    (bi (Decidable.decide (0 ≤ x11) && Decidable.decide (x11 < (↑q9.length : Int)))
    (bi (x11 == 0)
    (bi (nth 0 (nth [] q9 x11.toNat) 0 != 0)
    (some (Sum.inr 3))
    (bi (Decidable.decide (nth 0 (nth [] q9 x11.toNat) 0 ≤ x3))
    (some (Sum.inr 3))
    (bi (Decidable.decide
  (nth 0 (nth [] q9 x11.toNat) 0 > 10000000000000))
    (some (Sum.inr 3))
    (bi (Decidable.decide (nth 0 (nth [] q9 x11.toNat) 1 < 0))
    (some (Sum.inr 3))
    (bi (Decidable.decide
  (nth 0 (nth [] q9 x11.toNat) 1 > 1000000000))
    (some (Sum.inr 3))
    (ref12_Tiers_l5 K k (q0) (nth 0 (nth [] q9 x11.toNat) 0) (q9) (x10) (Go.IntKind.i64.wrap (x11 + 1))))))))
    (bi (Decidable.decide (nth 0 (nth [] q9 x11.toNat) 0 ≤ x3))
    (some (Sum.inr 3))
    (bi (Decidable.decide
  (nth 0 (nth [] q9 x11.toNat) 0 > 10000000000000))
    (some (Sum.inr 3))
    (bi (Decidable.decide (nth 0 (nth [] q9 x11.toNat) 1 < 0))
    (some (Sum.inr 3))
    (bi (Decidable.decide
  (nth 0 (nth [] q9 x11.toNat) 1 > 1000000000))
    (some (Sum.inr 3))
    (ref12_Tiers_l5 K k (q0) (nth 0 (nth [] q9 x11.toNat) 0) (q9) (x10) (Go.IntKind.i64.wrap (x11 + 1))))))))
    none)
    (some (Sum.inl q0)))
def ref12_Tiers_l5_w (K k : Nat) : List U → Option ((List (List Int)) ⊕ (Int)) := fun us => match us with | [.rr q0, .i x3, .rr q9, .i x10, .i x11] => ref12_Tiers_l5 K k q0 x3 q9 x10 x11 | _ => none
theorem ref12_Tiers_l5_eq (K k : Nat) (q0 : List (List Int)) (x3 : Int) (q9 : List (List Int)) (x10 : Int) (x11 : Int) : (round2 Go.Proofs.Try.prog (env_prod_Tiers K) (lenv0) (lp (bodyOf Go.Proofs.Try.f13) 0) ref12_Tiers_l5_pre (.exit 0) ref12_Tiers_l5_post0 .ret ref12_Tiers_l5_post1 ref12_Tiers_l5_dec0 ref12_Tiers_l5_dec1 (ref12_Tiers_l5_w K k) [.rr q0, .i x3, .rr q9, .i x10, .i x11]).den2 = ref12_Tiers_l5 K (k + 1) q0 x3 q9 x10 x11 := by kernel_rfl
def ref12_Tiers_l5_s (K : Nat) : Vm.LS := .two ref12_Tiers_l5_pre _ _ (.exit 0) ref12_Tiers_l5_post0 .ret ref12_Tiers_l5_post1 (ref12_Tiers_l5_w K K) ref12_Tiers_l5_enc0 ref12_Tiers_l5_enc1
theorem ref12_Tiers_l5_ok (K : Nat) : LoopOk Go.Proofs.Try.prog (lp (bodyOf Go.Proofs.Try.f13) 0) (ref12_Tiers_l5_s K) := loop_two hmix (env_prod_Tiers_ok K) (lenv := lenv0) (L := ref12_Tiers_l5_w K) (enc := ref12_Tiers_l5_enc0) (dec := ref12_Tiers_l5_dec0) (enc' := ref12_Tiers_l5_enc1) (dec' := ref12_Tiers_l5_dec1) (lps_ok (l := []) (by kernel_rfl) trivial) (fun u r h => by unfold ref12_Tiers_l5_dec0 at h; split at h; (obtain rfl := Option.some.inj h; rfl); cases h) (fun u r h => by unfold ref12_Tiers_l5_dec1 at h; split at h; (obtain rfl := Option.some.inj h; rfl); cases h) (fun us => by unfold ref12_Tiers_l5_w; split <;> first | rfl | (simp only [ref12_Tiers_l5])) (fun k us r h => by unfold ref12_Tiers_l5_w at h; split at h; exact ((den2_eq _).symm.trans (ref12_Tiers_l5_eq K k _ _ _ _ _)).trans h; cases h) K
def ref12_Tiers_v5 (K : Nat) : Nat → Option Vm.LS := addL (lenv0) 5 (ref12_Tiers_l5_s K)
def ref12_Tiers_dec : List U → Option (Int) := fun u => match u with | [.i x0] => some (x0) | _ => none
def ref12_Tiers_enc : (Int) → List U := fun r => [.i r]
def ref12_Tiers (K : Nat) (q0 : List (List Int)) : Option (Int) := (bi (Decidable.decide ((↑q0.length : Int) > 8))
    (some (2))
    (casO (ref12_Tiers_l5 K K q0 (-1) q0 (↑q0.length : Int) 0) (fun r0 => (bi ((↑r0.length : Int) == 0)
    (some (3))
    (some (0)))) (fun r1 => (some r1))))
theorem ref12_Tiers_eq (K : Nat) (q0 : List (List Int)) : (runF Go.Proofs.Try.prog (env_prod_Tiers K) (ref12_Tiers_v5 K) Go.Proofs.Try.f13 [.one (.recs [.i64, .i64] false)] [.one (.int .i64)] ref12_Tiers_dec [.rr q0]).den2 = ref12_Tiers K q0 := by kernel_rfl
def ref12_Tiers_w (K : Nat) : List U → Option (Int) := fun us => match us with | [.rr q0] => ref12_Tiers K q0 | _ => none
def ref12_Tiers_spec (K : Nat) : Vm.Spec := ⟨[.one (.recs [.i64, .i64] false)], [.one (.int .i64)], Int, ref12_Tiers_w K, ref12_Tiers_enc⟩
theorem ref12_Tiers_ok (K : Nat) : FnOk Go.Proofs.Try.prog 13 (ref12_Tiers_spec K) := fn_ok' hmix (env_prod_Tiers_ok K) (lenv := ref12_Tiers_v5 K) (args := [.one (.recs [.i64, .i64] false)]) (res := [.one (.int .i64)]) (G := ref12_Tiers_w K) (enc := ref12_Tiers_enc) Go.Proofs.Try.func13 (lps_fn (l := [lp (bodyOf Go.Proofs.Try.f13) 0]) (by kernel_rfl) ⟨⟨5, ref12_Tiers_l5_s K, by kernel_rfl, by kernel_rfl, ref12_Tiers_l5_ok K⟩, trivial⟩) (dec := ref12_Tiers_dec) (fun u r h => by unfold ref12_Tiers_dec at h; split at h; (obtain rfl := Option.some.inj h; rfl); cases h) (fun us r h => by unfold ref12_Tiers_w at h; split at h; exact ((den2_eq _).symm.trans (ref12_Tiers_eq K _)).trans h; cases h)
def env_ref12_Tiers (K : Nat) : FuncId → Option Vm.Spec := addS (env_prod_Tiers K) 13 (ref12_Tiers_spec K)
theorem env_ref12_Tiers_ok (K : Nat) : EnvOk Go.Proofs.Try.prog (env_ref12_Tiers K) := addS_ok (env_prod_Tiers_ok K) (.inl ⟨callable Go.Proofs.Try.func13 (by kernel_rfl) (by kernel_rfl), ref12_Tiers_ok K⟩)
-- passbook/passbookref05.Cur
def ref05_Cur_dec : List U → Option (Bool) := fun u => match u with | [.b c0] => some (c0) | _ => none
def ref05_Cur_enc : (Bool) → List U := fun r => [.b r]
def ref05_Cur (K : Nat) (x0 : Int) : Option (Bool) := (bi (Decidable.decide (x0 ≥ 0))
    (some (Decidable.decide (x0 < 4)))
    (some Bool.false))
theorem ref05_Cur_eq (K : Nat) (x0 : Int) : (runF Go.Proofs.Try.prog (env_ref12_Tiers K) (lenv0) Go.Proofs.Try.f25 [.one (.int .i64)] [.one (.bool)] ref05_Cur_dec [.i x0]).den2 = ref05_Cur K x0 := by kernel_rfl
def ref05_Cur_w (K : Nat) : List U → Option (Bool) := fun us => match us with | [.i x0] => ref05_Cur K x0 | _ => none
def ref05_Cur_spec (K : Nat) : Vm.Spec := ⟨[.one (.int .i64)], [.one (.bool)], Bool, ref05_Cur_w K, ref05_Cur_enc⟩
theorem ref05_Cur_ok (K : Nat) : FnOk Go.Proofs.Try.prog 25 (ref05_Cur_spec K) := fn_ok' hmix (env_ref12_Tiers_ok K) (lenv := lenv0) (args := [.one (.int .i64)]) (res := [.one (.bool)]) (G := ref05_Cur_w K) (enc := ref05_Cur_enc) Go.Proofs.Try.func25 (lps_fn (l := []) (by kernel_rfl) trivial) (dec := ref05_Cur_dec) (fun u r h => by unfold ref05_Cur_dec at h; split at h; (obtain rfl := Option.some.inj h; rfl); cases h) (fun us r h => by unfold ref05_Cur_w at h; split at h; exact ((den2_eq _).symm.trans (ref05_Cur_eq K _)).trans h; cases h)
def env_ref05_Cur (K : Nat) : FuncId → Option Vm.Spec := addS (env_ref12_Tiers K) 25 (ref05_Cur_spec K)
theorem env_ref05_Cur_ok (K : Nat) : EnvOk Go.Proofs.Try.prog (env_ref05_Cur K) := addS_ok (env_ref12_Tiers_ok K) (.inl ⟨callable Go.Proofs.Try.func25 (by kernel_rfl) (by kernel_rfl), ref05_Cur_ok K⟩)
end Go.Proofs.Ytmmaechogibodaa.F
