/- Proved: DigitsOrder: texts of one scale stand in the order of their numbers. Conditions: none but that the arguments are values of their Go types. -/
import Derived.Test.YtmlohnfghomghaaDoorCards
import Derived.Test.YtmlohnfghomghaaDoorTie
import Derived.Lay
import Derived.LaidOnce
import Derived.SevenTiedAt
import Derived.Test.YtmlohnfghomghaaDoorFL
import Derived.Test.YtmlohnfghomghaaDoorPTi
import Derived.Test.YtmlohnfghomghaaDoorVmZ
import Derived.WalkKit
import Derived.ProofKit
import Derived.OpenShut
import Derived.ChangeCalls
namespace Go.Proofs.YtmlohnfghomghaaDoor.digitsOrder
open Go Go.ChangeShapes Go.WideShapes Go.ChangeAt Go.RowKit Go.Proofs.YtmlohnfghomghaaDoor.Vm
set_option linter.unusedVariables false
theorem own : ownKnob Tryd.prog.godebug = none := by kernel_rfl
theorem kids : Kids Tryd.prog (· < Tryd.prog.types.size) := kids_rows (by kernel_rfl) (by kernel_rfl)
def shp : List PP := [.one (.int .u64), .one (.int .u64), .one (.int .i64)]
def laid : List (String × DataW Unit) := Rows.digitsOrderRow.laid
theorem shp_eq : shapes Tryd.prog Tryd.f6.params.toList = some shp := by kernel_rfl
theorem small : Tryd.f6.params.toList.all (fun t => decide (t < Tryd.prog.types.size)) = true := by kernel_rfl
theorem shp_args : (F.law02_DigitsOrder_spec 100000).args = shp := by kernel_rfl
theorem g_eq (x0 : Int) (x1 : Int) (x2 : Int) : (F.law02_DigitsOrder_spec 100000).G [.i x0, .i x1, .i x2] = F.law02_DigitsOrder 100000 x0 x1 x2 := by kernel_rfl
theorem pure_ok {us : List U} (h : UsOk (cpsOf shp) us) : (F.law02_DigitsOrder_spec 100000).G us = some true := by
  rw [← shp_args] at h
  have h : UsOk [.int .u64, .int .u64, .int .i64] us := h
  obtain ⟨x0, u0, rfl, w0, h⟩ := usOk_int h
  obtain ⟨x1, u1, rfl, w1, h⟩ := usOk_int h
  obtain ⟨x2, u2, rfl, w2, h⟩ := usOk_int h
  obtain rfl := usOk_nil h
  rw [g_eq]
  exact Wide.L.DigitsOrder w0 w1 w2
set_option maxRecDepth 100000 in
theorem lifted (os : Os) (started : os.Started) (H : Type) (enc : TypeId × Value → H) :
    ReturnsInHanded {} Tryd.checked os 6 .any (fun w args => (Rows.digitsOrderSpec.pre enc Tryd.prog Tryd.f6 [] false w args ∧ laidMetH Tryd.prog laid w) ∧ sizedMet enc Tryd.prog Tryd.f6 (OpenSpec.ofChange Rows.digitsOrderSpec) false w args) (Rows.digitsOrderSpec.post enc Tryd.prog Tryd.f6 false true false false) := by
  refine returnsInHanded_of_change_and (C := Tryd.checked) (X := fun w _ => laidMetH Tryd.prog laid w) (fun _ _ _ hh h => h.of_heap hh) own started (by kernel_rfl) Tryd.func6
    (ChangeSpec.witness_shaped (enc := enc) (C := Tryd.checked) (os := os) (X := fun w _ => laidMetH Tryd.prog laid w) false (World.laidAll Tryd.prog os laid) #[.int .u64 0, .int .u64 0, .int .i64 0] 8 (World.laidAll_os _ _ _)
      (World.shaped_of_ZipB (by kernel_rfl) (by kernel_rfl)) (by kernel_rfl) (by kernel_rfl) (by kernel_rfl)
      (by rw [MakeChecks.laidMetH_plain _ _ _ (by kernel_rfl)]; exact laidMet_laidAll _ (by kernel_rfl) (by kernel_rfl))) ?_
  intro W base args ds gs before hval0 hW hcnd _ _ _
  have hval : ∀ (j : Nat) t v, Tryd.f6.params.toList[j]? = some t → args.toList[j]? = some v → Value.okWide Tryd.prog W .any base t v := fun j t v h1 h2 => hval0 j t v (by simpa using h1) (by simpa using h2)
  have hW' := hW
  obtain ⟨p, q, hA0, hV, rfl, hfz, hnd⟩ := hW
  have hA : DataW.TrodAll enc Tryd.prog W 0 (fun _ => true) true Tryd.f6.params.toList args.toList ds p := hA0
  obtain ⟨rfl, rfl⟩ := trodVars_none hV
  have hk : ∀ t ∈ Tryd.f6.params.toList, t < Tryd.prog.types.size := fun t ht => of_decide_eq_true (List.all_eq_true.1 small t ht)
  obtain ⟨us, gs', hr⟩ := read_args (fun _ => rfl) kids _ _ shp_eq hk _ _ _ hval hA
  have hG := pure_ok hr.ok
  rw [← shp_args] at hr
  have hag : ∀ W', Below W.heap.size W W' → DataW.TrodAll enc Tryd.prog W' 0 (fun b => decide (b < W.heap.size)) true Tryd.f6.params.toList args.toList ds p := fun W' hb => args_again kids (slices_full_of Tryd.prog (by kernel_rfl)) hb hk hA
  have hlen := (trodAll_length hA).2
  rw [Tryd.params6] at hlen
  rcases ds with _ | ⟨d0, _ | ⟨d1, _ | ⟨d2, _ | ⟨dz, lz⟩⟩⟩⟩ <;> first | (simp at hlen; done) | skip
  refine ((F.law02_DigitsOrder_ok 100000).law hr hG rfl).mono fun e W' ⟨he, bel⟩ => ?_
  subst he
  exact ⟨_, rfl, _, _, _, [], _, [], hW', trodAll_mk1 (shut_bool Tryd.underlying4 _), hag W' bel, rfl, bel.frame _, fun h => by cases h⟩
theorem over : Rows.digitsOrderRow.holds Tryd.pinned (OpenSpec.ofChange Rows.digitsOrderSpec) :=
  OpenClaim.holds_of_wide 6 Tryd.f6 rfl rfl rfl rfl rfl rfl rfl ⟨rfl, rfl, rfl, rfl, rfl⟩ rfl rfl rfl rfl rfl (by kernel_rfl) Tryd.func6 (by kernel_rfl)
    (of_decide_eq_true (by kernel_rfl)) (by unfold Func.isWrapper; first | (rw [if_pos (by decide +kernel)]; kernel_rfl) | (rw [if_neg (by decide +kernel)]; exact ⟨rfl, rfl⟩))
    (fun os started H enc _ => lifted os started H enc)
end Go.Proofs.YtmlohnfghomghaaDoor.digitsOrder
namespace Go.Proofs.YtmlohnfghomghaaDoor
theorem digitsOrder_holds : Rows.DigitsOrderCardSaid :=
  Claim7.holds_tied_plain_at .later [] [.data, .pinned] true (true, "7c1e845d9b7700955d55e31760d659571909d253557928f1420a758c78c17b0a") true digitsOrder.over (fun _ h => by cases h) (by kernel_rfl) (fun _ h => by cases h) digitsOrder_row_tie rfl ⟨rfl, rfl⟩ (by kernel_rfl) rfl
    (fun f fn hf hfn => by
      obtain rfl : f = 6 := Option.some.inj ((show Tryd.prog.funcNamed "passbook/passbooklaw02.DigitsOrder" = some 6 by kernel_rfl).symm.trans hf) |>.symm
      obtain rfl : fn = Tryd.f6 := (Option.some.inj (Tryd.func6.symm.trans hfn)).symm
      exact ⟨by kernel_rfl, fun j t ht => by
        have hall : (Tryd.f6.params.toList.all fun u => !Tryd.prog.wantsStandIn u) = true := by kernel_rfl
        exact (show Tryd.prog.wantsStandIn t = false by simpa using List.all_eq_true.1 hall t (by simpa using Array.mem_of_getElem? ht))⟩)
    (by kernel_rfl)
#print axioms digitsOrder_holds
end Go.Proofs.YtmlohnfghomghaaDoor
