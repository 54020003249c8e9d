/- Proved: entries of any lines, one behind the other, are posted or refused as it is said, whole; what Trial answers is new memory. Conditions: none but that the arguments are values of their Go types. -/
import Derived.Test.YtimhhefngigfeaaRows
import Derived.Test.YtimhhefngigfeaaFQ
import Derived.Test.YtimhhefngigfeaaPHq
import Derived.Test.YtimhhefngigfeaaVmZ
import Derived.WalkKit
import Derived.ProofKit
import Derived.OpenShut
import Derived.ChangeCalls
namespace Go.Proofs.Ytimhhefngigfeaa.chartPosts
open Go Go.ChangeShapes Go.WideShapes Go.ChangeAt Go.RowKit Go.Proofs.Ytimhhefngigfeaa.Vm
set_option linter.unusedVariables false
theorem own : ownKnob Try.prog.godebug = none := by kernel_rfl
theorem kids : Kids Try.prog (· < Try.prog.types.size) := kids_rows (by kernel_rfl) (by kernel_rfl)
def shp : List PP := [.one (.ro [.sl [.int .i64, .int .i64, .int .i64, .int .u64, .int .i64]])]
theorem shp_eq : shapes Try.prog Try.f3.params.toList = some shp := by kernel_rfl
theorem small : Try.f3.params.toList.all (fun t => decide (t < Try.prog.types.size)) = true := by kernel_rfl
theorem shp_args (K : Nat) : (F.law13_ChartPosts_spec K).args = shp := by kernel_rfl
theorem g_eq (K : Nat) (x0 : List (List D)) : (F.law13_ChartPosts_spec K).G [.d x0] = F.law13_ChartPosts K x0 := by kernel_rfl
theorem pure_ok {us : List U} (h : UsOk (cpsOf shp) us) (hq : UsFit reachBytes (cpsOf shp) us) : ∃ K, (F.law13_ChartPosts_spec K).G us = some true := by
  rw [← shp_args 0] at h
  have h : UsOk [.ro [.sl [.int .i64, .int .i64, .int .i64, .int .u64, .int .i64]]] us := h
  obtain ⟨x0, u0, rfl, w0, h⟩ := usOk_ro h
  obtain rfl := usOk_nil h
  have hq : UsFit reachBytes [.ro [.sl [.int .i64, .int .i64, .int .i64, .int .u64, .int .i64]]] [.d x0] := hq
  obtain ⟨K, e⟩ := Wide.L.ChartPosts w0 hq.1
  exact ⟨K, (g_eq K x0).trans e⟩
set_option maxRecDepth 100000 in
theorem lifted (os : Os) (started : os.Started) (H : Type) (enc : TypeId × Value → H) :
    ReturnsInHanded {} Try.checked os 3 .any (Rows.chartPostsSpec.pre6 enc Try.prog Try.f3 Rows.chartPostsRow.domain false) (Rows.chartPostsSpec.post enc Try.prog Try.f3 false true false false) := by
  refine returnsInHanded_of_change_sized (C := Try.checked) own started (by kernel_rfl) Try.func3
    (ChangeSpec.witness6 (enc := enc) (C := Try.checked) false ⟨#[], #[.slice none 0 0], []⟩ 8 (by kernel_rfl) (by kernel_rfl) (by kernel_rfl) (by kernel_rfl)) ?_
  intro W base args ds gs before hval0 hW hcnd hsz _
  have hval : ∀ (j : Nat) t v, Try.f3.params.toList[j]? = some t → args.toList[j]? = some v → Value.okWide Try.prog W .any base t v := fun j t v h1 h2 => hval0 j t v (by simpa using h1) (by simpa using h2)
  have hW' := hW
  obtain ⟨p, q, hA0, hV, rfl, hfz, hnd⟩ := hW
  have hA : DataW.TrodAll enc Try.prog W 0 (fun _ => true) true Try.f3.params.toList args.toList ds p := hA0
  obtain ⟨rfl, rfl⟩ := trodVars_none hV
  have hk : ∀ t ∈ Try.f3.params.toList, t < Try.prog.types.size := fun t ht => of_decide_eq_true (List.all_eq_true.1 small t ht)
  obtain ⟨us, gs', hr⟩ := read_args (fun _ => rfl) kids _ _ shp_eq hk _ _ _ hval hA
  obtain ⟨K, hG⟩ := pure_ok hr.ok (sized_fits hr (trodAll_length hA).2 hsz)
  rw [← shp_args K] at hr
  have hag : ∀ W', Below W.heap.size W W' → DataW.TrodAll enc Try.prog W' 0 (fun b => decide (b < W.heap.size)) true Try.f3.params.toList args.toList ds p := fun W' hb => args_again kids (slices_full_of Try.prog (by kernel_rfl)) hb hk hA
  have hlen := (trodAll_length hA).2
  rw [Try.params3] at hlen
  rcases ds with _ | ⟨d0, _ | ⟨dz, lz⟩⟩ <;> first | (simp at hlen; done) | skip
  refine ((F.law13_ChartPosts_ok K).law hr hG rfl).mono fun e W' ⟨he, bel⟩ => ?_
  subst he
  exact ⟨_, rfl, _, _, _, [], _, [], hW', trodAll_mk1 (shut_bool Try.underlying4 _), hag W' bel, rfl, bel.frame _, fun h => by cases h⟩
theorem over : Rows.chartPostsRow.holds Try.pinned (OpenSpec.ofChange Rows.chartPostsSpec) :=
  OpenClaim.holds_of_wide 3 Try.f3 rfl rfl rfl rfl rfl rfl rfl ⟨rfl, rfl, rfl, rfl, rfl⟩ rfl rfl rfl rfl rfl (by kernel_rfl) Try.func3 (by kernel_rfl)
    (of_decide_eq_true (by kernel_rfl)) (by unfold Func.isWrapper; first | (rw [if_pos (by decide +kernel)]; kernel_rfl) | (rw [if_neg (by decide +kernel)]; exact ⟨rfl, rfl⟩))
    (fun os started H enc _ => lifted os started H enc)
end Go.Proofs.Ytimhhefngigfeaa.chartPosts
namespace Go.Proofs.Ytimhhefngigfeaa
theorem chartPosts_holds : Rows.ChartPostsSaid := chartPosts.over
#print axioms chartPosts_holds
end Go.Proofs.Ytimhhefngigfeaa
