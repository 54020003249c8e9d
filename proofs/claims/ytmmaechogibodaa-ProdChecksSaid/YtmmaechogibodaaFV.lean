import Derived.Test.YtmmaechogibodaaVmY
import Derived.Test.YtmmaechogibodaaVmRc
import Derived.Test.YtmmaechogibodaaVmCl
import Derived.Test.YtmmaechogibodaaProg
import Derived.Test.YtmmaechogibodaaFA
import Derived.Test.YtmmaechogibodaaFB
namespace Go.Proofs.Ytmmaechogibodaa.F
open Go Go.Proofs.Ytmmaechogibodaa.Vm
set_option maxRecDepth 1000000
set_option linter.unusedVariables false
set_option linter.unusedSimpArgs false
noncomputable section
-- slices.Clone[[]passbook/api.Tier,passbook/api.Tier]
def slices_Clone___api_Tier_api_Tier__ro_dec : List U → Option (List (List Int)) := fun u => match u with | [.rr q0] => some (q0) | _ => none
def slices_Clone___api_Tier_api_Tier__ro_enc : (List (List Int)) → List U := fun r => [.rr r]
def slices_Clone___api_Tier_api_Tier__ro (K : Nat) (dd0 : List (List D)) : Option (List (List Int)) := (bi (Decidable.decide (0 < dd0.length))
    (bi (Decidable.decide
  (0 +
      (List.map
          (fun r =>
            [(nth d0 r 0).toI,
              (nth d0 r 1).toI])
          dd0).length ≤
    8796093022208))
    (some ([] ++
  List.map
    (fun r =>
      [(nth d0 r 0).toI,
        (nth d0 r 1).toI])
    dd0))
    none)
    (ambO fun zq0 => (bi (zq0)
    (some ([]))
    (bi (Decidable.decide
  (0 +
      (List.map
          (fun r =>
            [(nth d0 r 0).toI,
              (nth d0 r 1).toI])
          dd0).length ≤
    8796093022208))
    (some ([] ++
  List.map
    (fun r =>
      [(nth d0 r 0).toI,
        (nth d0 r 1).toI])
    dd0))
    none))))
theorem slices_Clone___api_Tier_api_Tier__ro_eq (K : Nat) (dd0 : List (List D)) : (runFK Go.Proofs.Try.prog (env_prod_copied K) (lenv0) Go.Proofs.Try.f32 [.one (.ro [.int .i64, .int .i64])] [.one (.recs [.i64, .i64] true)] slices_Clone___api_Tier_api_Tier__ro_dec [.d dd0]).den2 = slices_Clone___api_Tier_api_Tier__ro K dd0 := by kernel_rfl
def slices_Clone___api_Tier_api_Tier__ro_w (K : Nat) : List U → Option (List (List Int)) := fun us => match us with | [.d dd0] => slices_Clone___api_Tier_api_Tier__ro K dd0 | _ => none
def slices_Clone___api_Tier_api_Tier__ro_spec (K : Nat) : Vm.Spec := ⟨[.one (.ro [.int .i64, .int .i64])], [.one (.recs [.i64, .i64] true)], List (List Int), slices_Clone___api_Tier_api_Tier__ro_w K, slices_Clone___api_Tier_api_Tier__ro_enc⟩
theorem slices_Clone___api_Tier_api_Tier__ro_ok (K : Nat) : FnOk Go.Proofs.Try.prog 32 (slices_Clone___api_Tier_api_Tier__ro_spec K) := fn_okK' hmix (env_prod_copied_ok K) (lenv := lenv0) (args := [.one (.ro [.int .i64, .int .i64])]) (res := [.one (.recs [.i64, .i64] true)]) (G := slices_Clone___api_Tier_api_Tier__ro_w K) (enc := slices_Clone___api_Tier_api_Tier__ro_enc) Go.Proofs.Try.func32 (lps_fn (l := []) (by kernel_rfl) trivial) (dec := slices_Clone___api_Tier_api_Tier__ro_dec) (fun u r h => by unfold slices_Clone___api_Tier_api_Tier__ro_dec at h; split at h; (obtain rfl := Option.some.inj h; rfl); cases h) (fun us r h => by unfold slices_Clone___api_Tier_api_Tier__ro_w at h; split at h; exact ((den2_eq _).symm.trans (slices_Clone___api_Tier_api_Tier__ro_eq K _)).trans h; cases h)
def env_slices_Clone___api_Tier_api_Tier__ro (K : Nat) : FuncId → Option Vm.Spec := addS (env_prod_copied K) 1000032 (slices_Clone___api_Tier_api_Tier__ro_spec K)
theorem env_slices_Clone___api_Tier_api_Tier__ro_ok (K : Nat) : EnvOk Go.Proofs.Try.prog (env_slices_Clone___api_Tier_api_Tier__ro K) := addS_ok (env_prod_copied_ok K) (.inl ⟨callable Go.Proofs.Try.func32 (by kernel_rfl) (by kernel_rfl), slices_Clone___api_Tier_api_Tier__ro_ok K⟩)
-- passbook/prod.copied
def prod_copied_ro_dec : List U → Option (Int × Int × Int × Int × Int × Int × Int × Int × List (List Int)) := fun u => match u with | [.i x0_0, .i x0_1, .i x0_2, .i x0_3, .i x0_4, .i x0_5, .i x0_6, .i x0_7, .rr q0_8] => some (x0_0, x0_1, x0_2, x0_3, x0_4, x0_5, x0_6, x0_7, q0_8) | _ => none
def prod_copied_ro_enc : (Int × Int × Int × Int × Int × Int × Int × Int × List (List Int)) → List U := fun r => [.i r.1, .i r.2.1, .i r.2.2.1, .i r.2.2.2.1, .i r.2.2.2.2.1, .i r.2.2.2.2.2.1, .i r.2.2.2.2.2.2.1, .i r.2.2.2.2.2.2.2.1, .rr r.2.2.2.2.2.2.2.2]
def prod_copied_ro (K : Nat) (x0_0 : Int) (x0_1 : Int) (x0_2 : Int) (x0_3 : Int) (x0_4 : Int) (x0_5 : Int) (x0_6 : Int) (x0_7 : Int) (dd0_8 : List (List D)) : Option (Int × Int × Int × Int × Int × Int × Int × Int × List (List Int)) := ((slices_Clone___api_Tier_api_Tier__ro K (D.l dd0_8).toL).bind fun r0 => (some ((x0_0, x0_1, x0_2, x0_3, x0_4, x0_5, x0_6, x0_7, r0))))
theorem prod_copied_ro_eq (K : Nat) (x0_0 : Int) (x0_1 : Int) (x0_2 : Int) (x0_3 : Int) (x0_4 : Int) (x0_5 : Int) (x0_6 : Int) (x0_7 : Int) (dd0_8 : List (List D)) : (runFK Go.Proofs.Try.prog (env_slices_Clone___api_Tier_api_Tier__ro K) (lenv0) Go.Proofs.Try.f28 [.agg [.int .i64, .int .i64, .int .i64, .int .i64, .int .i64, .int .i64, .int .i64, .int .i64, .ro [.int .i64, .int .i64]]] [.agg [.int .i64, .int .i64, .int .i64, .int .i64, .int .i64, .int .i64, .int .i64, .int .i64, .recs [.i64, .i64] true]] prod_copied_ro_dec [.i x0_0, .i x0_1, .i x0_2, .i x0_3, .i x0_4, .i x0_5, .i x0_6, .i x0_7, .d dd0_8]).den2 = prod_copied_ro K x0_0 x0_1 x0_2 x0_3 x0_4 x0_5 x0_6 x0_7 dd0_8 := by kernel_rfl
def prod_copied_ro_w (K : Nat) : List U → Option (Int × Int × Int × Int × Int × Int × Int × Int × List (List Int)) := fun us => match us with | [.i x0_0, .i x0_1, .i x0_2, .i x0_3, .i x0_4, .i x0_5, .i x0_6, .i x0_7, .d dd0_8] => prod_copied_ro K x0_0 x0_1 x0_2 x0_3 x0_4 x0_5 x0_6 x0_7 dd0_8 | _ => none
def prod_copied_ro_spec (K : Nat) : Vm.Spec := ⟨[.agg [.int .i64, .int .i64, .int .i64, .int .i64, .int .i64, .int .i64, .int .i64, .int .i64, .ro [.int .i64, .int .i64]]], [.agg [.int .i64, .int .i64, .int .i64, .int .i64, .int .i64, .int .i64, .int .i64, .int .i64, .recs [.i64, .i64] true]], Int × Int × Int × Int × Int × Int × Int × Int × List (List Int), prod_copied_ro_w K, prod_copied_ro_enc⟩
theorem prod_copied_ro_ok (K : Nat) : FnOk Go.Proofs.Try.prog 28 (prod_copied_ro_spec K) := fn_okK' hmix (env_slices_Clone___api_Tier_api_Tier__ro_ok K) (lenv := lenv0) (args := [.agg [.int .i64, .int .i64, .int .i64, .int .i64, .int .i64, .int .i64, .int .i64, .int .i64, .ro [.int .i64, .int .i64]]]) (res := [.agg [.int .i64, .int .i64, .int .i64, .int .i64, .int .i64, .int .i64, .int .i64, .int .i64, .recs [.i64, .i64] true]]) (G := prod_copied_ro_w K) (enc := prod_copied_ro_enc) Go.Proofs.Try.func28 (lps_fn (l := []) (by kernel_rfl) trivial) (dec := prod_copied_ro_dec) (fun u r h => by unfold prod_copied_ro_dec at h; split at h; (obtain rfl := Option.some.inj h; rfl); cases h) (fun us r h => by unfold prod_copied_ro_w at h; split at h; exact ((den2_eq _).symm.trans (prod_copied_ro_eq K _ _ _ _ _ _ _ _ _)).trans h; cases h)
def env_prod_copied_ro (K : Nat) : FuncId → Option Vm.Spec := addS (env_slices_Clone___api_Tier_api_Tier__ro K) 1000028 (prod_copied_ro_spec K)
theorem env_prod_copied_ro_ok (K : Nat) : EnvOk Go.Proofs.Try.prog (env_prod_copied_ro K) := addS_ok (env_slices_Clone___api_Tier_api_Tier__ro_ok K) (.inl ⟨callable Go.Proofs.Try.func28 (by kernel_rfl) (by kernel_rfl), prod_copied_ro_ok K⟩)
end
end Go.Proofs.Ytmmaechogibodaa.F
