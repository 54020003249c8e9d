/- Proved: a day is rolled to a business day, and none lies between: forward, or back; by the third way it stays in its month, unless that has none further on. Conditions: none but that the arguments are values of their Go types. -/
import Derived.Test.YtoibhkhgpahdjaaRows
import Derived.Test.YtoibhkhgpahdjaaFC
import Derived.Test.YtoibhkhgpahdjaaPNa
import Derived.Test.YtoibhkhgpahdjaaVmZ
import Derived.WalkKit
import Derived.ProofKit
import Derived.OpenShut
import Derived.ChangeCalls
namespace Go.Proofs.Ytoibhkhgpahdjaa.calNearest
open Go Go.ChangeShapes Go.WideShapes Go.ChangeAt Go.RowKit Go.Proofs.Ytoibhkhgpahdjaa.Vm
set_option linter.unusedVariables false
theorem own : ownKnob Try.prog.godebug = none := by kernel_rfl
theorem kids : Kids Try.prog (· < Try.prog.types.size) := kids_rows (by kernel_rfl) (by kernel_rfl)
def shp : List PP := [.one (.int .i64), .one (.row .i64 false), .one (.int .u8)]
theorem shp_eq : shapes Try.prog Try.f4.params.toList = some shp := by kernel_rfl
theorem small : Try.f4.params.toList.all (fun t => decide (t < Try.prog.types.size)) = true := by kernel_rfl
theorem shp_args (K : Nat) : (F.law03_CalNearest_spec K).args = shp := by kernel_rfl
theorem g_eq (K : Nat) (x0 : Int) (x1 : List Int) (x2 : Int) : (F.law03_CalNearest_spec K).G [.i x0, .r x1, .i x2] = F.law03_CalNearest K x0 x1 x2 := by kernel_rfl
theorem pure_ok {us : List U} (h : UsOk (cpsOf shp) us) : ∃ K, (F.law03_CalNearest_spec K).G us = some true := by
  rw [← shp_args 0] at h
  have h : UsOk [.int .i64, .row .i64 false, .int .u8] us := h
  obtain ⟨x0, u0, rfl, w0, h⟩ := usOk_int h
  obtain ⟨x1, u1, rfl, w1, h⟩ := usOk_row h
  obtain ⟨x2, u2, rfl, w2, h⟩ := usOk_int h
  obtain rfl := usOk_nil h
  obtain ⟨K, e⟩ := Wide.L.CalNearest w0 w1 w2
  exact ⟨K, (g_eq K x0 x1 x2).trans e⟩
set_option maxRecDepth 100000 in
theorem lifted (os : Os) (started : os.Started) (H : Type) (enc : TypeId × Value → H) :
    ReturnsInHanded {} Try.checked os 4 .any (Rows.calNearestSpec.pre6 enc Try.prog Try.f4 Rows.calNearestRow.domain false) (Rows.calNearestSpec.post enc Try.prog Try.f4 false true false false) := by
  refine returnsInHanded_of_change (C := Try.checked) own started (by kernel_rfl) Try.func4
    (ChangeSpec.witness6 (enc := enc) (C := Try.checked) false ⟨#[], #[.int .i64 0, .slice none 0 0, .int .u8 0], []⟩ 8 (by kernel_rfl) (by kernel_rfl) (by kernel_rfl) (by kernel_rfl)) ?_
  intro W base args ds gs before hval0 hW hcnd _
  have hval : ∀ (j : Nat) t v, Try.f4.params.toList[j]? = some t → args.toList[j]? = some v → Value.okWide Try.prog W .any base t v := fun j t v h1 h2 => hval0 j t v (by simpa using h1) (by simpa using h2)
  have hW' := hW
  obtain ⟨p, q, hA0, hV, rfl, hfz, hnd⟩ := hW
  have hA : DataW.TrodAll enc Try.prog W 0 (fun _ => true) true Try.f4.params.toList args.toList ds p := hA0
  obtain ⟨rfl, rfl⟩ := trodVars_none hV
  have hk : ∀ t ∈ Try.f4.params.toList, t < Try.prog.types.size := fun t ht => of_decide_eq_true (List.all_eq_true.1 small t ht)
  obtain ⟨us, gs', hr⟩ := read_args (fun _ => rfl) kids _ _ shp_eq hk _ _ _ hval hA
  obtain ⟨K, hG⟩ := pure_ok hr.ok
  rw [← shp_args K] at hr
  have hag : ∀ W', Below W.heap.size W W' → DataW.TrodAll enc Try.prog W' 0 (fun b => decide (b < W.heap.size)) true Try.f4.params.toList args.toList ds p := fun W' hb => args_again kids (slices_full_of Try.prog (by kernel_rfl)) hb hk hA
  have hlen := (trodAll_length hA).2
  rw [Try.params4] at hlen
  rcases ds with _ | ⟨d0, _ | ⟨d1, _ | ⟨d2, _ | ⟨dz, lz⟩⟩⟩⟩ <;> first | (simp at hlen; done) | skip
  refine ((F.law03_CalNearest_ok K).law hr hG rfl).mono fun e W' ⟨he, bel⟩ => ?_
  subst he
  exact ⟨_, rfl, _, _, _, [], _, [], hW', trodAll_mk1 (shut_bool Try.underlying4 _), hag W' bel, rfl, bel.frame _, fun h => by cases h⟩
theorem over : Rows.calNearestRow.holds Try.pinned (OpenSpec.ofChange Rows.calNearestSpec) :=
  OpenClaim.holds_of_wide 4 Try.f4 rfl rfl rfl rfl rfl rfl rfl ⟨rfl, rfl, rfl, rfl, rfl⟩ rfl rfl rfl rfl rfl (by kernel_rfl) Try.func4 (by kernel_rfl)
    (of_decide_eq_true (by kernel_rfl)) (by unfold Func.isWrapper; first | (rw [if_pos (by decide +kernel)]; kernel_rfl) | (rw [if_neg (by decide +kernel)]; exact ⟨rfl, rfl⟩))
    (fun os started H enc _ => lifted os started H enc)
end Go.Proofs.Ytoibhkhgpahdjaa.calNearest
namespace Go.Proofs.Ytoibhkhgpahdjaa
theorem calNearest_holds : Rows.CalNearestSaid := calNearest.over
#print axioms calNearest_holds
end Go.Proofs.Ytoibhkhgpahdjaa
