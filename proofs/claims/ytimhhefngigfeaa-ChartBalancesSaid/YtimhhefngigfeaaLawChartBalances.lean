/- Proved: every balance of a ledger with some entries, and of a nil one, is the true sum, or there is no such account. Conditions: none but that the arguments are values of their Go types. -/
import Derived.Test.YtimhhefngigfeaaRows
import Derived.Test.YtimhhefngigfeaaFU
import Derived.Test.YtimhhefngigfeaaPHm
import Derived.Test.YtimhhefngigfeaaVmZ
import Derived.WalkKit
import Derived.ProofKit
import Derived.OpenShut
import Derived.ChangeCalls
namespace Go.Proofs.Ytimhhefngigfeaa.chartBalances
open Go Go.ChangeShapes Go.WideShapes Go.ChangeAt Go.RowKit Go.Proofs.Ytimhhefngigfeaa.Vm
set_option linter.unusedVariables false
theorem own : ownKnob Try.prog.godebug = none := by kernel_rfl
theorem kids : Kids Try.prog (· < Try.prog.types.size) := kids_rows (by kernel_rfl) (by kernel_rfl)
def shp : List PP := [.one (.ro [.sl [.int .i64, .int .i64, .int .i64, .int .u64, .int .i64]]), .one (.int .i64), .one (.int .i64)]
theorem shp_eq : shapes Try.prog Try.f7.params.toList = some shp := by kernel_rfl
theorem small : Try.f7.params.toList.all (fun t => decide (t < Try.prog.types.size)) = true := by kernel_rfl
theorem shp_args (K : Nat) : (F.law13_ChartBalances_spec K).args = shp := by kernel_rfl
theorem g_eq (K : Nat) (x0 : List (List D)) (x1 : Int) (x2 : Int) : (F.law13_ChartBalances_spec K).G [.d x0, .i x1, .i x2] = F.law13_ChartBalances K x0 x1 x2 := by kernel_rfl
theorem pure_ok {us : List U} (h : UsOk (cpsOf shp) us) (hq : UsFit reachBytes (cpsOf shp) us) : ∃ K, (F.law13_ChartBalances_spec K).G us = some true := by
  rw [← shp_args 0] at h
  have h : UsOk [.ro [.sl [.int .i64, .int .i64, .int .i64, .int .u64, .int .i64]], .int .i64, .int .i64] us := h
  obtain ⟨x0, u0, rfl, w0, h⟩ := usOk_ro h
  obtain ⟨x1, u1, rfl, w1, h⟩ := usOk_int h
  obtain ⟨x2, u2, rfl, w2, h⟩ := usOk_int h
  obtain rfl := usOk_nil h
  have hq : UsFit reachBytes [.ro [.sl [.int .i64, .int .i64, .int .i64, .int .u64, .int .i64]], .int .i64, .int .i64] [.d x0, .i x1, .i x2] := hq
  obtain ⟨K, e⟩ := Wide.L.ChartBalances w0 w1 w2 hq.1
  exact ⟨K, (g_eq K x0 x1 x2).trans e⟩
set_option maxRecDepth 100000 in
theorem lifted (os : Os) (started : os.Started) (H : Type) (enc : TypeId × Value → H) :
    ReturnsInHanded {} Try.checked os 7 .any (Rows.chartBalancesSpec.pre6 enc Try.prog Try.f7 Rows.chartBalancesRow.domain false) (Rows.chartBalancesSpec.post enc Try.prog Try.f7 false true false false) := by
  refine returnsInHanded_of_change_sized (C := Try.checked) own started (by kernel_rfl) Try.func7
    (ChangeSpec.witness6 (enc := enc) (C := Try.checked) false ⟨#[], #[.slice none 0 0, .int .i64 0, .int .i64 0], []⟩ 8 (by kernel_rfl) (by kernel_rfl) (by kernel_rfl) (by kernel_rfl)) ?_
  intro W base args ds gs before hval0 hW hcnd hsz _
  have hval : ∀ (j : Nat) t v, Try.f7.params.toList[j]? = some t → args.toList[j]? = some v → Value.okWide Try.prog W .any base t v := fun j t v h1 h2 => hval0 j t v (by simpa using h1) (by simpa using h2)
  have hW' := hW
  obtain ⟨p, q, hA0, hV, rfl, hfz, hnd⟩ := hW
  have hA : DataW.TrodAll enc Try.prog W 0 (fun _ => true) true Try.f7.params.toList args.toList ds p := hA0
  obtain ⟨rfl, rfl⟩ := trodVars_none hV
  have hk : ∀ t ∈ Try.f7.params.toList, t < Try.prog.types.size := fun t ht => of_decide_eq_true (List.all_eq_true.1 small t ht)
  obtain ⟨us, gs', hr⟩ := read_args (fun _ => rfl) kids _ _ shp_eq hk _ _ _ hval hA
  obtain ⟨K, hG⟩ := pure_ok hr.ok (sized_fits hr (trodAll_length hA).2 hsz)
  rw [← shp_args K] at hr
  have hag : ∀ W', Below W.heap.size W W' → DataW.TrodAll enc Try.prog W' 0 (fun b => decide (b < W.heap.size)) true Try.f7.params.toList args.toList ds p := fun W' hb => args_again kids (slices_full_of Try.prog (by kernel_rfl)) hb hk hA
  have hlen := (trodAll_length hA).2
  rw [Try.params7] at hlen
  rcases ds with _ | ⟨d0, _ | ⟨d1, _ | ⟨d2, _ | ⟨dz, lz⟩⟩⟩⟩ <;> first | (simp at hlen; done) | skip
  refine ((F.law13_ChartBalances_ok K).law hr hG rfl).mono fun e W' ⟨he, bel⟩ => ?_
  subst he
  exact ⟨_, rfl, _, _, _, [], _, [], hW', trodAll_mk1 (shut_bool Try.underlying4 _), hag W' bel, rfl, bel.frame _, fun h => by cases h⟩
theorem over : Rows.chartBalancesRow.holds Try.pinned (OpenSpec.ofChange Rows.chartBalancesSpec) :=
  OpenClaim.holds_of_wide 7 Try.f7 rfl rfl rfl rfl rfl rfl rfl ⟨rfl, rfl, rfl, rfl, rfl⟩ rfl rfl rfl rfl rfl (by kernel_rfl) Try.func7 (by kernel_rfl)
    (of_decide_eq_true (by kernel_rfl)) (by unfold Func.isWrapper; first | (rw [if_pos (by decide +kernel)]; kernel_rfl) | (rw [if_neg (by decide +kernel)]; exact ⟨rfl, rfl⟩))
    (fun os started H enc _ => lifted os started H enc)
end Go.Proofs.Ytimhhefngigfeaa.chartBalances
namespace Go.Proofs.Ytimhhefngigfeaa
theorem chartBalances_holds : Rows.ChartBalancesSaid := chartBalances.over
#print axioms chartBalances_holds
end Go.Proofs.Ytimhhefngigfeaa
