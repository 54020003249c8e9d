import Derived.Test.YtmmaechogibodaaVmY
import Derived.Test.YtmmaechogibodaaVmRc
import Derived.Test.YtmmaechogibodaaVmCl
import Derived.Test.YtmmaechogibodaaProg
import Derived.Test.YtmmaechogibodaaFA
namespace Go.Proofs.Ytmmaechogibodaa.F
open Go Go.Proofs.Ytmmaechogibodaa.Vm
set_option maxRecDepth 1000000
set_option linter.unusedVariables false
set_option linter.unusedSimpArgs false
noncomputable section
-- slices.Clone[[]passbook/api.Tier,passbook/api.Tier]
def slices_Clone___api_Tier_api_Tier__dec : List U → Option (List (List Int)) := fun u => match u with | [.rr q0] => some (q0) | _ => none
def slices_Clone___api_Tier_api_Tier__enc : (List (List Int)) → List U := fun r => [.rr r]
def slices_Clone___api_Tier_api_Tier_ (K : Nat) (q0 : List (List Int)) : Option (List (List Int)) := (bi (Decidable.decide (0 < q0.length))
    (bi (Decidable.decide (0 + q0.length ≤ 8796093022208))
    (some ([] ++ q0))
    none)
    (ambO fun zq0 => (bi (zq0)
    (some ([]))
    (bi (Decidable.decide (0 + q0.length ≤ 8796093022208))
    (some ([] ++ q0))
    none))))
theorem slices_Clone___api_Tier_api_Tier__eq (K : Nat) (q0 : List (List Int)) : (runFK Go.Proofs.Try.prog (env_ref05_Cur K) (lenv0) Go.Proofs.Try.f32 [.one (.recs [.i64, .i64] false)] [.one (.recs [.i64, .i64] false)] slices_Clone___api_Tier_api_Tier__dec [.rr q0]).den2 = slices_Clone___api_Tier_api_Tier_ K q0 := by kernel_rfl
def slices_Clone___api_Tier_api_Tier__w (K : Nat) : List U → Option (List (List Int)) := fun us => match us with | [.rr q0] => slices_Clone___api_Tier_api_Tier_ K q0 | _ => none
def slices_Clone___api_Tier_api_Tier__spec (K : Nat) : Vm.Spec := ⟨[.one (.recs [.i64, .i64] false)], [.one (.recs [.i64, .i64] false)], List (List Int), slices_Clone___api_Tier_api_Tier__w K, slices_Clone___api_Tier_api_Tier__enc⟩
theorem slices_Clone___api_Tier_api_Tier__ok (K : Nat) : FnOk Go.Proofs.Try.prog 32 (slices_Clone___api_Tier_api_Tier__spec K) := fn_okK' hmix (env_ref05_Cur_ok K) (lenv := lenv0) (args := [.one (.recs [.i64, .i64] false)]) (res := [.one (.recs [.i64, .i64] false)]) (G := slices_Clone___api_Tier_api_Tier__w K) (enc := slices_Clone___api_Tier_api_Tier__enc) Go.Proofs.Try.func32 (lps_fn (l := []) (by kernel_rfl) trivial) (dec := slices_Clone___api_Tier_api_Tier__dec) (fun u r h => by unfold slices_Clone___api_Tier_api_Tier__dec at h; split at h; (obtain rfl := Option.some.inj h; rfl); cases h) (fun us r h => by unfold slices_Clone___api_Tier_api_Tier__w at h; split at h; exact ((den2_eq _).symm.trans (slices_Clone___api_Tier_api_Tier__eq K _)).trans h; cases h)
def env_slices_Clone___api_Tier_api_Tier_ (K : Nat) : FuncId → Option Vm.Spec := addS (env_ref05_Cur K) 32 (slices_Clone___api_Tier_api_Tier__spec K)
theorem env_slices_Clone___api_Tier_api_Tier__ok (K : Nat) : EnvOk Go.Proofs.Try.prog (env_slices_Clone___api_Tier_api_Tier_ K) := addS_ok (env_ref05_Cur_ok K) (.inl ⟨callable Go.Proofs.Try.func32 (by kernel_rfl) (by kernel_rfl), slices_Clone___api_Tier_api_Tier__ok K⟩)
-- passbook/prod.Check
def prod_Check_dec : List U → Option (Int) := fun u => match u with | [.i x0] => some (x0) | _ => none
def prod_Check_enc : (Int) → List U := fun r => [.i r]
def prod_Check (K : Nat) (x0_0 : Int) (x0_1 : Int) (x0_2 : Int) (x0_3 : Int) (x0_4 : Int) (x0_5 : Int) (x0_6 : Int) (x0_7 : Int) (q0_8 : List (List Int)) : Option (Int) := ((money_Digits K x0_2).bind fun r0 => (bi (Decidable.decide (x0_0 < 1))
    (some (1))
    (bi (Decidable.decide (x0_0 > 1000000000))
    (some (1))
    (bi (x0_1 != 1)
    (bi (x0_1 != 2)
    (some (1))
    (bi (r0.snd != 0)
    (some (1))
    (bi (Decidable.decide (x0_3 < 1))
    (some (1))
    (bi (Decidable.decide (x0_3 > 3652059))
    (some (1))
    (bi (Decidable.decide (x0_4 < 0))
    (some (1))
    (bi (Decidable.decide (x0_4 > 3))
    (some (1))
    (bi (Decidable.decide (x0_5 < 0))
    (some (1))
    (bi (Decidable.decide (x0_5 > 6))
    (some (1))
    ((prod_within K x0_6 10000000000000).bind fun r1 => (bi (!r1)
    (some (1))
    ((prod_within K x0_7 10000000000000).bind fun r2 => (bi (!r2)
    (some (1))
    ((prod_Tiers K q0_8).bind fun r3 => (some r3))))))))))))))
    (bi (r0.snd != 0)
    (some (1))
    (bi (Decidable.decide (x0_3 < 1))
    (some (1))
    (bi (Decidable.decide (x0_3 > 3652059))
    (some (1))
    (bi (Decidable.decide (x0_4 < 0))
    (some (1))
    (bi (Decidable.decide (x0_4 > 3))
    (some (1))
    (bi (Decidable.decide (x0_5 < 0))
    (some (1))
    (bi (Decidable.decide (x0_5 > 6))
    (some (1))
    ((prod_within K x0_6 10000000000000).bind fun r4 => (bi (!r4)
    (some (1))
    ((prod_within K x0_7 10000000000000).bind fun r5 => (bi (!r5)
    (some (1))
    ((prod_Tiers K q0_8).bind fun r6 => (some r6)))))))))))))))))
theorem prod_Check_eq (K : Nat) (x0_0 : Int) (x0_1 : Int) (x0_2 : Int) (x0_3 : Int) (x0_4 : Int) (x0_5 : Int) (x0_6 : Int) (x0_7 : Int) (q0_8 : List (List Int)) : (runFK Go.Proofs.Try.prog (env_slices_Clone___api_Tier_api_Tier_ K) (lenv0) Go.Proofs.Try.f10 [.agg [.int .i64, .int .i64, .int .i64, .int .i64, .int .i64, .int .i64, .int .i64, .int .i64, .recs [.i64, .i64] false]] [.one (.int .i64)] prod_Check_dec [.i x0_0, .i x0_1, .i x0_2, .i x0_3, .i x0_4, .i x0_5, .i x0_6, .i x0_7, .rr q0_8]).den2 = prod_Check K x0_0 x0_1 x0_2 x0_3 x0_4 x0_5 x0_6 x0_7 q0_8 := by kernel_rfl
def prod_Check_w (K : Nat) : List U → Option (Int) := fun us => match us with | [.i x0_0, .i x0_1, .i x0_2, .i x0_3, .i x0_4, .i x0_5, .i x0_6, .i x0_7, .rr q0_8] => prod_Check K x0_0 x0_1 x0_2 x0_3 x0_4 x0_5 x0_6 x0_7 q0_8 | _ => none
def prod_Check_spec (K : Nat) : Vm.Spec := ⟨[.agg [.int .i64, .int .i64, .int .i64, .int .i64, .int .i64, .int .i64, .int .i64, .int .i64, .recs [.i64, .i64] false]], [.one (.int .i64)], Int, prod_Check_w K, prod_Check_enc⟩
theorem prod_Check_ok (K : Nat) : FnOk Go.Proofs.Try.prog 10 (prod_Check_spec K) := fn_okK' hmix (env_slices_Clone___api_Tier_api_Tier__ok K) (lenv := lenv0) (args := [.agg [.int .i64, .int .i64, .int .i64, .int .i64, .int .i64, .int .i64, .int .i64, .int .i64, .recs [.i64, .i64] false]]) (res := [.one (.int .i64)]) (G := prod_Check_w K) (enc := prod_Check_enc) Go.Proofs.Try.func10 (lps_fn (l := []) (by kernel_rfl) trivial) (dec := prod_Check_dec) (fun u r h => by unfold prod_Check_dec at h; split at h; (obtain rfl := Option.some.inj h; rfl); cases h) (fun us r h => by unfold prod_Check_w at h; split at h; exact ((den2_eq _).symm.trans (prod_Check_eq K _ _ _ _ _ _ _ _ _)).trans h; cases h)
def env_prod_Check (K : Nat) : FuncId → Option Vm.Spec := addS (env_slices_Clone___api_Tier_api_Tier_ K) 10 (prod_Check_spec K)
theorem env_prod_Check_ok (K : Nat) : EnvOk Go.Proofs.Try.prog (env_prod_Check K) := addS_ok (env_slices_Clone___api_Tier_api_Tier__ok K) (.inl ⟨callable Go.Proofs.Try.func10 (by kernel_rfl) (by kernel_rfl), prod_Check_ok K⟩)
-- passbook/prod.New
def prod_New_dec : List U → Option (List (List D) × List (List Int × List Int)) := fun u => match u with | [.d dd0_0, .m m0_1] => some (dd0_0, m0_1) | _ => none
def prod_New_enc : (List (List D) × List (List Int × List Int)) → List U := fun r => [.d r.1, .m r.2]
def prod_New (K : Nat)  : Option (List (List D) × List (List Int × List Int)) := (some (([], [])))
theorem prod_New_eq (K : Nat)  : (runFK Go.Proofs.Try.prog (env_prod_Check K) (lenv0) Go.Proofs.Try.f16 [] [.ptr [.grow [.int .i64, .int .i64, .int .i64, .int .i64, .int .i64, .int .i64, .int .i64, .int .i64, .sl [.int .i64, .int .i64]], .map [.i64, .i64] [.i64]]] prod_New_dec []).den2 = prod_New K  := by kernel_rfl
def prod_New_w (K : Nat) : List U → Option (List (List D) × List (List Int × List Int)) := fun us => match us with | [] => prod_New K  | _ => none
def prod_New_spec (K : Nat) : Vm.Spec := ⟨[], [.ptr [.grow [.int .i64, .int .i64, .int .i64, .int .i64, .int .i64, .int .i64, .int .i64, .int .i64, .sl [.int .i64, .int .i64]], .map [.i64, .i64] [.i64]]], List (List D) × List (List Int × List Int), prod_New_w K, prod_New_enc⟩
theorem prod_New_ok (K : Nat) : FnOk Go.Proofs.Try.prog 16 (prod_New_spec K) := fn_okK' hmix (env_prod_Check_ok K) (lenv := lenv0) (args := []) (res := [.ptr [.grow [.int .i64, .int .i64, .int .i64, .int .i64, .int .i64, .int .i64, .int .i64, .int .i64, .sl [.int .i64, .int .i64]], .map [.i64, .i64] [.i64]]]) (G := prod_New_w K) (enc := prod_New_enc) Go.Proofs.Try.func16 (lps_fn (l := []) (by kernel_rfl) trivial) (dec := prod_New_dec) (fun u r h => by unfold prod_New_dec at h; split at h; (obtain rfl := Option.some.inj h; rfl); cases h) (fun us r h => by unfold prod_New_w at h; split at h; exact ((den2_eq _).symm.trans (prod_New_eq K)).trans h; cases h)
def env_prod_New (K : Nat) : FuncId → Option Vm.Spec := addS (env_prod_Check K) 16 (prod_New_spec K)
theorem env_prod_New_ok (K : Nat) : EnvOk Go.Proofs.Try.prog (env_prod_New K) := addS_ok (env_prod_Check_ok K) (.inl ⟨callable Go.Proofs.Try.func16 (by kernel_rfl) (by kernel_rfl), prod_New_ok K⟩)
-- passbook/prod.copied
def prod_copied_dec : List U → Option (Int × Int × Int × Int × Int × Int × Int × Int × List (List Int)) := fun u => match u with | [.i x0_0, .i x0_1, .i x0_2, .i x0_3, .i x0_4, .i x0_5, .i x0_6, .i x0_7, .rr q0_8] => some (x0_0, x0_1, x0_2, x0_3, x0_4, x0_5, x0_6, x0_7, q0_8) | _ => none
def prod_copied_enc : (Int × Int × Int × Int × Int × Int × Int × Int × List (List Int)) → List U := fun r => [.i r.1, .i r.2.1, .i r.2.2.1, .i r.2.2.2.1, .i r.2.2.2.2.1, .i r.2.2.2.2.2.1, .i r.2.2.2.2.2.2.1, .i r.2.2.2.2.2.2.2.1, .rr r.2.2.2.2.2.2.2.2]
def prod_copied (K : Nat) (x0_0 : Int) (x0_1 : Int) (x0_2 : Int) (x0_3 : Int) (x0_4 : Int) (x0_5 : Int) (x0_6 : Int) (x0_7 : Int) (q0_8 : List (List Int)) : Option (Int × Int × Int × Int × Int × Int × Int × Int × List (List Int)) := ((slices_Clone___api_Tier_api_Tier_ K q0_8).bind fun r0 => (some ((x0_0, x0_1, x0_2, x0_3, x0_4, x0_5, x0_6, x0_7, r0))))
theorem prod_copied_eq (K : Nat) (x0_0 : Int) (x0_1 : Int) (x0_2 : Int) (x0_3 : Int) (x0_4 : Int) (x0_5 : Int) (x0_6 : Int) (x0_7 : Int) (q0_8 : List (List Int)) : (runFK Go.Proofs.Try.prog (env_prod_New K) (lenv0) Go.Proofs.Try.f28 [.agg [.int .i64, .int .i64, .int .i64, .int .i64, .int .i64, .int .i64, .int .i64, .int .i64, .recs [.i64, .i64] false]] [.agg [.int .i64, .int .i64, .int .i64, .int .i64, .int .i64, .int .i64, .int .i64, .int .i64, .recs [.i64, .i64] false]] prod_copied_dec [.i x0_0, .i x0_1, .i x0_2, .i x0_3, .i x0_4, .i x0_5, .i x0_6, .i x0_7, .rr q0_8]).den2 = prod_copied K x0_0 x0_1 x0_2 x0_3 x0_4 x0_5 x0_6 x0_7 q0_8 := by kernel_rfl
def prod_copied_w (K : Nat) : List U → Option (Int × Int × Int × Int × Int × Int × Int × Int × List (List Int)) := fun us => match us with | [.i x0_0, .i x0_1, .i x0_2, .i x0_3, .i x0_4, .i x0_5, .i x0_6, .i x0_7, .rr q0_8] => prod_copied K x0_0 x0_1 x0_2 x0_3 x0_4 x0_5 x0_6 x0_7 q0_8 | _ => none
def prod_copied_spec (K : Nat) : Vm.Spec := ⟨[.agg [.int .i64, .int .i64, .int .i64, .int .i64, .int .i64, .int .i64, .int .i64, .int .i64, .recs [.i64, .i64] false]], [.agg [.int .i64, .int .i64, .int .i64, .int .i64, .int .i64, .int .i64, .int .i64, .int .i64, .recs [.i64, .i64] false]], Int × Int × Int × Int × Int × Int × Int × Int × List (List Int), prod_copied_w K, prod_copied_enc⟩
theorem prod_copied_ok (K : Nat) : FnOk Go.Proofs.Try.prog 28 (prod_copied_spec K) := fn_okK' hmix (env_prod_New_ok K) (lenv := lenv0) (args := [.agg [.int .i64, .int .i64, .int .i64, .int .i64, .int .i64, .int .i64, .int .i64, .int .i64, .recs [.i64, .i64] false]]) (res := [.agg [.int .i64, .int .i64, .int .i64, .int .i64, .int .i64, .int .i64, .int .i64, .int .i64, .recs [.i64, .i64] false]]) (G := prod_copied_w K) (enc := prod_copied_enc) Go.Proofs.Try.func28 (lps_fn (l := []) (by kernel_rfl) trivial) (dec := prod_copied_dec) (fun u r h => by unfold prod_copied_dec at h; split at h; (obtain rfl := Option.some.inj h; rfl); cases h) (fun us r h => by unfold prod_copied_w at h; split at h; exact ((den2_eq _).symm.trans (prod_copied_eq K _ _ _ _ _ _ _ _ _)).trans h; cases h)
def env_prod_copied (K : Nat) : FuncId → Option Vm.Spec := addS (env_prod_New K) 28 (prod_copied_spec K)
theorem env_prod_copied_ok (K : Nat) : EnvOk Go.Proofs.Try.prog (env_prod_copied K) := addS_ok (env_prod_New_ok K) (.inl ⟨callable Go.Proofs.Try.func28 (by kernel_rfl) (by kernel_rfl), prod_copied_ok K⟩)
end
end Go.Proofs.Ytmmaechogibodaa.F
