/- Proved: Every decimal is rounded to minor units as it is said, and every amount is a decimal, which is the amount again by every mode. Conditions: none but that the arguments are values of their Go types. -/
import Derived.Test.YtfeifhlnidkbbaaRows
import Derived.Test.YtfeifhlnidkbbaaFE
import Derived.Test.YtfeifhlnidkbbaaPMc
import Derived.Test.YtfeifhlnidkbbaaVmZ
import Derived.WalkKit
import Derived.ProofKit
import Derived.OpenShut
import Derived.ChangeCalls
namespace Go.Proofs.Ytfeifhlnidkbbaa.moneyDecimals
open Go Go.ChangeShapes Go.WideShapes Go.ChangeAt Go.RowKit Go.Proofs.Ytfeifhlnidkbbaa.Vm
set_option linter.unusedVariables false
theorem own : ownKnob Try.prog.godebug = none := by kernel_rfl
theorem kids : Kids Try.prog (· < Try.prog.types.size) := kids_rows (by kernel_rfl) (by kernel_rfl)
def shp : List PP := [.agg [.int .i64, .int .u64, .int .i64], .one (.int .i64), .one (.int .i64), .agg [.int .i64, .int .i64]]
theorem shp_eq : shapes Try.prog Try.f8.params.toList = some shp := by kernel_rfl
theorem small : Try.f8.params.toList.all (fun t => decide (t < Try.prog.types.size)) = true := by kernel_rfl
theorem shp_args : (F.law05_MoneyDecimals_spec 100000).args = shp := by kernel_rfl
theorem g_eq (x0 : Int) (x1 : Int) (x2 : Int) (x3 : Int) (x4 : Int) (x5 : Int) (x6 : Int) : (F.law05_MoneyDecimals_spec 100000).G [.i x0, .i x1, .i x2, .i x3, .i x4, .i x5, .i x6] = F.law05_MoneyDecimals 100000 x0 x1 x2 x3 x4 x5 x6 := by kernel_rfl
theorem pure_ok {us : List U} (h : UsOk (cpsOf shp) us) : (F.law05_MoneyDecimals_spec 100000).G us = some true := by
  rw [← shp_args] at h
  have h : UsOk [.int .i64, .int .u64, .int .i64, .int .i64, .int .i64, .int .i64, .int .i64] us := h
  obtain ⟨x0, u0, rfl, w0, h⟩ := usOk_int h
  obtain ⟨x1, u1, rfl, w1, h⟩ := usOk_int h
  obtain ⟨x2, u2, rfl, w2, h⟩ := usOk_int h
  obtain ⟨x3, u3, rfl, w3, h⟩ := usOk_int h
  obtain ⟨x4, u4, rfl, w4, h⟩ := usOk_int h
  obtain ⟨x5, u5, rfl, w5, h⟩ := usOk_int h
  obtain ⟨x6, u6, rfl, w6, h⟩ := usOk_int h
  obtain rfl := usOk_nil h
  rw [g_eq]
  exact Wide.L.MoneyDecimals w0 w1 w2 w3 w4 w5 w6
set_option maxRecDepth 100000 in
theorem lifted (os : Os) (started : os.Started) (H : Type) (enc : TypeId × Value → H) :
    ReturnsInHanded {} Try.checked os 8 .any (Rows.moneyDecimalsSpec.pre6 enc Try.prog Try.f8 Rows.moneyDecimalsRow.domain false) (Rows.moneyDecimalsSpec.post enc Try.prog Try.f8 false true false false) := by
  refine returnsInHanded_of_change (C := Try.checked) own started (by kernel_rfl) Try.func8
    (ChangeSpec.witness6 (enc := enc) (C := Try.checked) false ⟨#[], #[.agg #[.int .i64 0, .int .u64 0, .int .i64 0], .int .i64 0, .int .i64 0, .agg #[.int .i64 0, .int .i64 0]], []⟩ 8 (by kernel_rfl) (by kernel_rfl) (by kernel_rfl) (by kernel_rfl)) ?_
  intro W base args ds gs before hval0 hW hcnd _
  have hval : ∀ (j : Nat) t v, Try.f8.params.toList[j]? = some t → args.toList[j]? = some v → Value.okWide Try.prog W .any base t v := fun j t v h1 h2 => hval0 j t v (by simpa using h1) (by simpa using h2)
  have hW' := hW
  obtain ⟨p, q, hA0, hV, rfl, hfz, hnd⟩ := hW
  have hA : DataW.TrodAll enc Try.prog W 0 (fun _ => true) true Try.f8.params.toList args.toList ds p := hA0
  obtain ⟨rfl, rfl⟩ := trodVars_none hV
  have hk : ∀ t ∈ Try.f8.params.toList, t < Try.prog.types.size := fun t ht => of_decide_eq_true (List.all_eq_true.1 small t ht)
  obtain ⟨us, gs', hr⟩ := read_args (fun _ => rfl) kids _ _ shp_eq hk _ _ _ hval hA
  have hG := pure_ok hr.ok
  rw [← shp_args] at hr
  have hag : ∀ W', Below W.heap.size W W' → DataW.TrodAll enc Try.prog W' 0 (fun b => decide (b < W.heap.size)) true Try.f8.params.toList args.toList ds p := fun W' hb => args_again kids (slices_full_of Try.prog (by kernel_rfl)) hb hk hA
  have hlen := (trodAll_length hA).2
  rw [Try.params8] at hlen
  rcases ds with _ | ⟨d0, _ | ⟨d1, _ | ⟨d2, _ | ⟨d3, _ | ⟨dz, lz⟩⟩⟩⟩⟩ <;> first | (simp at hlen; done) | skip
  refine ((F.law05_MoneyDecimals_ok 100000).law hr hG rfl).mono fun e W' ⟨he, bel⟩ => ?_
  subst he
  exact ⟨_, rfl, _, _, _, [], _, [], hW', trodAll_mk1 (shut_bool Try.underlying4 _), hag W' bel, rfl, bel.frame _, fun h => by cases h⟩
theorem over : Rows.moneyDecimalsRow.holds Try.pinned (OpenSpec.ofChange Rows.moneyDecimalsSpec) :=
  OpenClaim.holds_of_wide 8 Try.f8 rfl rfl rfl rfl rfl rfl rfl ⟨rfl, rfl, rfl, rfl, rfl⟩ rfl rfl rfl rfl rfl (by kernel_rfl) Try.func8 (by kernel_rfl)
    (of_decide_eq_true (by kernel_rfl)) (by unfold Func.isWrapper; first | (rw [if_pos (by decide +kernel)]; kernel_rfl) | (rw [if_neg (by decide +kernel)]; exact ⟨rfl, rfl⟩))
    (fun os started H enc _ => lifted os started H enc)
end Go.Proofs.Ytfeifhlnidkbbaa.moneyDecimals
namespace Go.Proofs.Ytfeifhlnidkbbaa
theorem moneyDecimals_holds : Rows.MoneyDecimalsSaid := moneyDecimals.over
#print axioms moneyDecimals_holds
end Go.Proofs.Ytfeifhlnidkbbaa
