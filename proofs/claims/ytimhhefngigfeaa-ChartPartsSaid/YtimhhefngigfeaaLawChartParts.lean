/- Proved: two entries that balance, one behind the other, leave what they leave as one. Conditions: none but that the arguments are values of their Go types. -/
import Derived.Test.YtimhhefngigfeaaRows
import Derived.Test.YtimhhefngigfeaaFP
import Derived.Test.YtimhhefngigfeaaPHp
import Derived.Test.YtimhhefngigfeaaVmZ
import Derived.WalkKit
import Derived.ProofKit
import Derived.OpenShut
import Derived.ChangeCalls
namespace Go.Proofs.Ytimhhefngigfeaa.chartParts
open Go Go.ChangeShapes Go.WideShapes Go.ChangeAt Go.RowKit Go.Proofs.Ytimhhefngigfeaa.Vm
set_option linter.unusedVariables false
theorem own : ownKnob Try.prog.godebug = none := by kernel_rfl
theorem kids : Kids Try.prog (· < Try.prog.types.size) := kids_rows (by kernel_rfl) (by kernel_rfl)
def shp : List PP := [.one (.recs [.i64, .i64, .i64, .u64, .i64] false), .one (.recs [.i64, .i64, .i64, .u64, .i64] false)]
theorem shp_eq : shapes Try.prog Try.f6.params.toList = some shp := by kernel_rfl
theorem small : Try.f6.params.toList.all (fun t => decide (t < Try.prog.types.size)) = true := by kernel_rfl
theorem shp_args : (F.law13_ChartParts_spec 100000).args = shp := by kernel_rfl
theorem g_eq (x0 : List (List Int)) (x1 : List (List Int)) : (F.law13_ChartParts_spec 100000).G [.rr x0, .rr x1] = F.law13_ChartParts 100000 x0 x1 := by kernel_rfl
theorem pure_ok {us : List U} (h : UsOk (cpsOf shp) us) : (F.law13_ChartParts_spec 100000).G us = some true := by
  rw [← shp_args] at h
  have h : UsOk [.recs [.i64, .i64, .i64, .u64, .i64] false, .recs [.i64, .i64, .i64, .u64, .i64] false] us := h
  obtain ⟨x0, u0, rfl, w0, h⟩ := usOk_recs h
  obtain ⟨x1, u1, rfl, w1, h⟩ := usOk_recs h
  obtain rfl := usOk_nil h
  rw [g_eq]
  exact Wide.L.ChartParts w0 w1
set_option maxRecDepth 100000 in
theorem lifted (os : Os) (started : os.Started) (H : Type) (enc : TypeId × Value → H) :
    ReturnsInHanded {} Try.checked os 6 .any (Rows.chartPartsSpec.pre6 enc Try.prog Try.f6 Rows.chartPartsRow.domain false) (Rows.chartPartsSpec.post enc Try.prog Try.f6 false true false false) := by
  refine returnsInHanded_of_change (C := Try.checked) own started (by kernel_rfl) Try.func6
    (ChangeSpec.witness6 (enc := enc) (C := Try.checked) false ⟨#[], #[.slice none 0 0, .slice none 0 0], []⟩ 8 (by kernel_rfl) (by kernel_rfl) (by kernel_rfl) (by kernel_rfl)) ?_
  intro W base args ds gs before hval0 hW hcnd _
  have hval : ∀ (j : Nat) t v, Try.f6.params.toList[j]? = some t → args.toList[j]? = some v → Value.okWide Try.prog W .any base t v := fun j t v h1 h2 => hval0 j t v (by simpa using h1) (by simpa using h2)
  have hW' := hW
  obtain ⟨p, q, hA0, hV, rfl, hfz, hnd⟩ := hW
  have hA : DataW.TrodAll enc Try.prog W 0 (fun _ => true) true Try.f6.params.toList args.toList ds p := hA0
  obtain ⟨rfl, rfl⟩ := trodVars_none hV
  have hk : ∀ t ∈ Try.f6.params.toList, t < Try.prog.types.size := fun t ht => of_decide_eq_true (List.all_eq_true.1 small t ht)
  obtain ⟨us, gs', hr⟩ := read_args (fun _ => rfl) kids _ _ shp_eq hk _ _ _ hval hA
  have hG := pure_ok hr.ok
  rw [← shp_args] at hr
  have hag : ∀ W', Below W.heap.size W W' → DataW.TrodAll enc Try.prog W' 0 (fun b => decide (b < W.heap.size)) true Try.f6.params.toList args.toList ds p := fun W' hb => args_again kids (slices_full_of Try.prog (by kernel_rfl)) hb hk hA
  have hlen := (trodAll_length hA).2
  rw [Try.params6] at hlen
  rcases ds with _ | ⟨d0, _ | ⟨d1, _ | ⟨dz, lz⟩⟩⟩ <;> first | (simp at hlen; done) | skip
  refine ((F.law13_ChartParts_ok 100000).law hr hG rfl).mono fun e W' ⟨he, bel⟩ => ?_
  subst he
  exact ⟨_, rfl, _, _, _, [], _, [], hW', trodAll_mk1 (shut_bool Try.underlying4 _), hag W' bel, rfl, bel.frame _, fun h => by cases h⟩
theorem over : Rows.chartPartsRow.holds Try.pinned (OpenSpec.ofChange Rows.chartPartsSpec) :=
  OpenClaim.holds_of_wide 6 Try.f6 rfl rfl rfl rfl rfl rfl rfl ⟨rfl, rfl, rfl, rfl, rfl⟩ rfl rfl rfl rfl rfl (by kernel_rfl) Try.func6 (by kernel_rfl)
    (of_decide_eq_true (by kernel_rfl)) (by unfold Func.isWrapper; first | (rw [if_pos (by decide +kernel)]; kernel_rfl) | (rw [if_neg (by decide +kernel)]; exact ⟨rfl, rfl⟩))
    (fun os started H enc _ => lifted os started H enc)
end Go.Proofs.Ytimhhefngigfeaa.chartParts
namespace Go.Proofs.Ytimhhefngigfeaa
theorem chartParts_holds : Rows.ChartPartsSaid := chartParts.over
#print axioms chartParts_holds
end Go.Proofs.Ytimhhefngigfeaa
