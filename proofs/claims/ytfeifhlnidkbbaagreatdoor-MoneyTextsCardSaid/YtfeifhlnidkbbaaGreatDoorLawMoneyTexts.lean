/- Proved: MoneyTexts: every amount has its text and is read again from it; every other text is refused. Conditions: none but that the arguments are values of their Go types. -/
import Derived.Test.YtfeifhlnidkbbaaGreatDoorCards
import Derived.Test.YtfeifhlnidkbbaaGreatDoorTie
import Derived.Lay
import Derived.LaidOnce
import Derived.SevenTiedAt
import Derived.Test.YtfeifhlnidkbbaaGreatDoorFG
import Derived.Test.YtfeifhlnidkbbaaGreatDoorPXt
import Derived.Test.YtfeifhlnidkbbaaGreatDoorVmZ
import Derived.WalkKit
import Derived.ProofKit
import Derived.OpenShut
import Derived.ChangeCalls
namespace Go.Proofs.YtfeifhlnidkbbaaGreatDoor.moneyTexts
open Go Go.ChangeShapes Go.WideShapes Go.ChangeAt Go.RowKit Go.Proofs.YtfeifhlnidkbbaaGreatDoor.Vm
set_option linter.unusedVariables false
theorem own : ownKnob Tryz.prog.godebug = none := by kernel_rfl
theorem kids : Kids Tryz.prog (· < Tryz.prog.types.size) := kids_rows (by kernel_rfl) (by kernel_rfl)
def shp : List PP := [.agg [.int .i64, .int .i64], .one (.str)]
def laid : List (String × DataW Unit) := Rows.moneyTextsRow.laid
theorem shp_eq : shapes Tryz.prog Tryz.f3.params.toList = some shp := by kernel_rfl
theorem small : Tryz.f3.params.toList.all (fun t => decide (t < Tryz.prog.types.size)) = true := by kernel_rfl
theorem shp_args : (F.law05_MoneyTexts_spec 100000).args = shp := by kernel_rfl
theorem g_eq (x0 : Int) (x1 : Int) (x2 : ByteArray) : (F.law05_MoneyTexts_spec 100000).G [.i x0, .i x1, .s x2] = F.law05_MoneyTexts 100000 x0 x1 x2 := by kernel_rfl
theorem pure_ok {us : List U} (h : UsOk (cpsOf shp) us) : (F.law05_MoneyTexts_spec 100000).G us = some true := by
  rw [← shp_args] at h
  have h : UsOk [.int .i64, .int .i64, .str] us := h
  obtain ⟨x0, u0, rfl, w0, h⟩ := usOk_int h
  obtain ⟨x1, u1, rfl, w1, h⟩ := usOk_int h
  obtain ⟨x2, u2, rfl, w2, h⟩ := usOk_str h
  obtain rfl := usOk_nil h
  rw [g_eq]
  exact Wide.L.MoneyTexts w0 w1 w2
set_option maxRecDepth 100000 in
theorem lifted (os : Os) (started : os.Started) (H : Type) (enc : TypeId × Value → H) :
    ReturnsInHanded {} Tryz.checked os 3 .any (fun w args => (Rows.moneyTextsSpec.pre enc Tryz.prog Tryz.f3 [] false w args ∧ laidMetH Tryz.prog laid w) ∧ sizedMet enc Tryz.prog Tryz.f3 (OpenSpec.ofChange Rows.moneyTextsSpec) false w args) (Rows.moneyTextsSpec.post enc Tryz.prog Tryz.f3 false true false false) := by
  refine returnsInHanded_of_change_and (C := Tryz.checked) (X := fun w _ => laidMetH Tryz.prog laid w) (fun _ _ _ hh h => h.of_heap hh) own started (by kernel_rfl) Tryz.func3
    (ChangeSpec.witness_shaped (enc := enc) (C := Tryz.checked) (os := os) (X := fun w _ => laidMetH Tryz.prog laid w) false (World.laidAll Tryz.prog os laid) #[.agg #[.int .i64 0, .int .i64 0], .string ⟨#[]⟩] 8 (World.laidAll_os _ _ _)
      (World.shaped_of_ZipB (by kernel_rfl) (by kernel_rfl)) (by kernel_rfl) (by kernel_rfl) (by kernel_rfl)
      (by rw [MakeChecks.laidMetH_plain _ _ _ (by kernel_rfl)]; exact laidMet_laidAll _ (by kernel_rfl) (by kernel_rfl))) ?_
  intro W base args ds gs before hval0 hW hcnd _ _ _
  have hval : ∀ (j : Nat) t v, Tryz.f3.params.toList[j]? = some t → args.toList[j]? = some v → Value.okWide Tryz.prog W .any base t v := fun j t v h1 h2 => hval0 j t v (by simpa using h1) (by simpa using h2)
  have hW' := hW
  obtain ⟨p, q, hA0, hV, rfl, hfz, hnd⟩ := hW
  have hA : DataW.TrodAll enc Tryz.prog W 0 (fun _ => true) true Tryz.f3.params.toList args.toList ds p := hA0
  obtain ⟨rfl, rfl⟩ := trodVars_none hV
  have hk : ∀ t ∈ Tryz.f3.params.toList, t < Tryz.prog.types.size := fun t ht => of_decide_eq_true (List.all_eq_true.1 small t ht)
  obtain ⟨us, gs', hr⟩ := read_args (fun _ => rfl) kids _ _ shp_eq hk _ _ _ hval hA
  have hG := pure_ok hr.ok
  rw [← shp_args] at hr
  have hag : ∀ W', Below W.heap.size W W' → DataW.TrodAll enc Tryz.prog W' 0 (fun b => decide (b < W.heap.size)) true Tryz.f3.params.toList args.toList ds p := fun W' hb => args_again kids (slices_full_of Tryz.prog (by kernel_rfl)) hb hk hA
  have hlen := (trodAll_length hA).2
  rw [Tryz.params3] at hlen
  rcases ds with _ | ⟨d0, _ | ⟨d1, _ | ⟨dz, lz⟩⟩⟩ <;> first | (simp at hlen; done) | skip
  refine ((F.law05_MoneyTexts_ok 100000).law hr hG rfl).mono fun e W' ⟨he, bel⟩ => ?_
  subst he
  exact ⟨_, rfl, _, _, _, [], _, [], hW', trodAll_mk1 (shut_bool Tryz.underlying4 _), hag W' bel, rfl, bel.frame _, fun h => by cases h⟩
theorem over : Rows.moneyTextsRow.holds Tryz.pinned (OpenSpec.ofChange Rows.moneyTextsSpec) :=
  OpenClaim.holds_of_wide 3 Tryz.f3 rfl rfl rfl rfl rfl rfl rfl ⟨rfl, rfl, rfl, rfl, rfl⟩ rfl rfl rfl rfl rfl (by kernel_rfl) Tryz.func3 (by kernel_rfl)
    (of_decide_eq_true (by kernel_rfl)) (by unfold Func.isWrapper; first | (rw [if_pos (by decide +kernel)]; kernel_rfl) | (rw [if_neg (by decide +kernel)]; exact ⟨rfl, rfl⟩))
    (fun os started H enc _ => lifted os started H enc)
end Go.Proofs.YtfeifhlnidkbbaaGreatDoor.moneyTexts
namespace Go.Proofs.YtfeifhlnidkbbaaGreatDoor
theorem moneyTexts_holds : Rows.MoneyTextsCardSaid :=
  Claim7.holds_tied_plain_at .later [] [.data, .pinned] true (true, "8021644d0d621c446d00d32a07c95bf592f7773d2d51f40b23adaa17189e2de3") true moneyTexts.over (fun _ h => by cases h) (by kernel_rfl) (fun _ h => by cases h) moneyTexts_row_tie rfl ⟨rfl, rfl⟩ (by kernel_rfl) rfl
    (fun f fn hf hfn => by
      obtain rfl : f = 3 := Option.some.inj ((show Tryz.prog.funcNamed "passbook/passbooklaw05.MoneyTexts" = some 3 by kernel_rfl).symm.trans hf) |>.symm
      obtain rfl : fn = Tryz.f3 := (Option.some.inj (Tryz.func3.symm.trans hfn)).symm
      exact ⟨by kernel_rfl, fun j t ht => by
        have hall : (Tryz.f3.params.toList.all fun u => !Tryz.prog.wantsStandIn u) = true := by kernel_rfl
        exact (show Tryz.prog.wantsStandIn t = false by simpa using List.all_eq_true.1 hall t (by simpa using Array.mem_of_getElem? ht))⟩)
    (by kernel_rfl)
#print axioms moneyTexts_holds
end Go.Proofs.YtfeifhlnidkbbaaGreatDoor
