/- Proved: every version is in form, or it is said why not; its tiers come back untouched, spare room too. Conditions: none but that the arguments are values of their Go types. -/
import Derived.Test.YtmmaechogibodaaRows
import Derived.Test.YtmmaechogibodaaFQ
import Derived.Test.YtmmaechogibodaaPPd
import Derived.Test.YtmmaechogibodaaVmZ
import Derived.WalkKit
import Derived.ProofKit
import Derived.OpenShut
import Derived.ChangeCalls
namespace Go.Proofs.Ytmmaechogibodaa.prodChecks
open Go Go.ChangeShapes Go.WideShapes Go.ChangeAt Go.RowKit Go.Proofs.Ytmmaechogibodaa.Vm
set_option linter.unusedVariables false
theorem own : ownKnob Try.prog.godebug = none := by kernel_rfl
theorem kids : Kids Try.prog (· < Try.prog.types.size) := kids_rows (by kernel_rfl) (by kernel_rfl)
def shp : List PP := [.agg [.int .i64, .int .i64, .int .i64, .int .i64, .int .i64, .int .i64, .int .i64, .int .i64, .recs [.i64, .i64] false]]
theorem shp_eq : shapes Try.prog Try.f3.params.toList = some shp := by kernel_rfl
theorem small : Try.f3.params.toList.all (fun t => decide (t < Try.prog.types.size)) = true := by kernel_rfl
theorem shp_args (K : Nat) : (F.law12_ProdChecks_spec K).args = shp := by kernel_rfl
theorem g_eq (K : Nat) (x0 : Int) (x1 : Int) (x2 : Int) (x3 : Int) (x4 : Int) (x5 : Int) (x6 : Int) (x7 : Int) (x8 : List (List Int)) : (F.law12_ProdChecks_spec K).G [.i x0, .i x1, .i x2, .i x3, .i x4, .i x5, .i x6, .i x7, .rr x8] = F.law12_ProdChecks K x0 x1 x2 x3 x4 x5 x6 x7 x8 := by kernel_rfl
theorem pure_ok {us : List U} (h : UsOk (cpsOf shp) us) (hq : UsFit reachBytes (cpsOf shp) us) : ∃ K, (F.law12_ProdChecks_spec K).G us = some true := by
  rw [← shp_args 0] at h
  have h : UsOk [.int .i64, .int .i64, .int .i64, .int .i64, .int .i64, .int .i64, .int .i64, .int .i64, .recs [.i64, .i64] false] us := h
  obtain ⟨x0, u0, rfl, w0, h⟩ := usOk_int h
  obtain ⟨x1, u1, rfl, w1, h⟩ := usOk_int h
  obtain ⟨x2, u2, rfl, w2, h⟩ := usOk_int h
  obtain ⟨x3, u3, rfl, w3, h⟩ := usOk_int h
  obtain ⟨x4, u4, rfl, w4, h⟩ := usOk_int h
  obtain ⟨x5, u5, rfl, w5, h⟩ := usOk_int h
  obtain ⟨x6, u6, rfl, w6, h⟩ := usOk_int h
  obtain ⟨x7, u7, rfl, w7, h⟩ := usOk_int h
  obtain ⟨x8, u8, rfl, w8, h⟩ := usOk_recs h
  obtain rfl := usOk_nil h
  have hq : UsFit reachBytes [.int .i64, .int .i64, .int .i64, .int .i64, .int .i64, .int .i64, .int .i64, .int .i64, .recs [.i64, .i64] false] [.i x0, .i x1, .i x2, .i x3, .i x4, .i x5, .i x6, .i x7, .rr x8] := hq
  obtain ⟨K, e⟩ := Wide.L.ProdChecks w0 w1 w2 w3 w4 w5 w6 w7 w8 hq.2.2.2.2.2.2.2.2.1
  exact ⟨K, (g_eq K x0 x1 x2 x3 x4 x5 x6 x7 x8).trans e⟩
set_option maxRecDepth 100000 in
theorem lifted (os : Os) (started : os.Started) (H : Type) (enc : TypeId × Value → H) :
    ReturnsInHanded {} Try.checked os 3 .any (Rows.prodChecksSpec.pre6 enc Try.prog Try.f3 Rows.prodChecksRow.domain false) (Rows.prodChecksSpec.post enc Try.prog Try.f3 false true false false) := by
  refine returnsInHanded_of_change_sized (C := Try.checked) own started (by kernel_rfl) Try.func3
    (ChangeSpec.witness6 (enc := enc) (C := Try.checked) false ⟨#[], #[.agg #[.int .i64 0, .int .i64 0, .int .i64 0, .int .i64 0, .int .i64 0, .int .i64 0, .int .i64 0, .int .i64 0, .slice none 0 0]], []⟩ 8 (by kernel_rfl) (by kernel_rfl) (by kernel_rfl) (by kernel_rfl)) ?_
  intro W base args ds gs before hval0 hW hcnd hsz _
  have hval : ∀ (j : Nat) t v, Try.f3.params.toList[j]? = some t → args.toList[j]? = some v → Value.okWide Try.prog W .any base t v := fun j t v h1 h2 => hval0 j t v (by simpa using h1) (by simpa using h2)
  have hW' := hW
  obtain ⟨p, q, hA0, hV, rfl, hfz, hnd⟩ := hW
  have hA : DataW.TrodAll enc Try.prog W 0 (fun _ => true) true Try.f3.params.toList args.toList ds p := hA0
  obtain ⟨rfl, rfl⟩ := trodVars_none hV
  have hk : ∀ t ∈ Try.f3.params.toList, t < Try.prog.types.size := fun t ht => of_decide_eq_true (List.all_eq_true.1 small t ht)
  obtain ⟨us, gs', hr⟩ := read_args (fun _ => rfl) kids _ _ shp_eq hk _ _ _ hval hA
  obtain ⟨K, hG⟩ := pure_ok hr.ok (sized_fits hr (trodAll_length hA).2 hsz)
  rw [← shp_args K] at hr
  have hag : ∀ W', Below W.heap.size W W' → DataW.TrodAll enc Try.prog W' 0 (fun b => decide (b < W.heap.size)) true Try.f3.params.toList args.toList ds p := fun W' hb => args_again kids (slices_full_of Try.prog (by kernel_rfl)) hb hk hA
  have hlen := (trodAll_length hA).2
  rw [Try.params3] at hlen
  rcases ds with _ | ⟨d0, _ | ⟨dz, lz⟩⟩ <;> first | (simp at hlen; done) | skip
  refine ((F.law12_ProdChecks_ok K).law hr hG rfl).mono fun e W' ⟨he, bel⟩ => ?_
  subst he
  exact ⟨_, rfl, _, _, _, [], _, [], hW', trodAll_mk1 (shut_bool Try.underlying4 _), hag W' bel, rfl, bel.frame _, fun h => by cases h⟩
theorem over : Rows.prodChecksRow.holds Try.pinned (OpenSpec.ofChange Rows.prodChecksSpec) :=
  OpenClaim.holds_of_wide 3 Try.f3 rfl rfl rfl rfl rfl rfl rfl ⟨rfl, rfl, rfl, rfl, rfl⟩ rfl rfl rfl rfl rfl (by kernel_rfl) Try.func3 (by kernel_rfl)
    (of_decide_eq_true (by kernel_rfl)) (by unfold Func.isWrapper; first | (rw [if_pos (by decide +kernel)]; kernel_rfl) | (rw [if_neg (by decide +kernel)]; exact ⟨rfl, rfl⟩))
    (fun os started H enc _ => lifted os started H enc)
end Go.Proofs.Ytmmaechogibodaa.prodChecks
namespace Go.Proofs.Ytmmaechogibodaa
theorem prodChecks_holds : Rows.ProdChecksSaid := prodChecks.over
#print axioms prodChecks_holds
end Go.Proofs.Ytmmaechogibodaa
