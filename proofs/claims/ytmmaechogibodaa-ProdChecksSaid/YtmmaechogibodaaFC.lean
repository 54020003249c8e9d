import Derived.Test.YtmmaechogibodaaVmY
import Derived.Test.YtmmaechogibodaaVmRc
import Derived.Test.YtmmaechogibodaaVmCl
import Derived.Test.YtmmaechogibodaaProg
import Derived.Test.YtmmaechogibodaaFA
import Derived.Test.YtmmaechogibodaaFB
import Derived.Test.YtmmaechogibodaaFV
namespace Go.Proofs.Ytmmaechogibodaa.F
open Go Go.Proofs.Ytmmaechogibodaa.Vm
set_option maxRecDepth 1000000
set_option linter.unusedVariables false
set_option linter.unusedSimpArgs false
noncomputable section
-- (*passbook/prod.Catalogue).clash
def _prod_Catalogue_clash_l6_pre : Vm.Pat := ⟨70, [(7, .pv (.one (.int .i64))), (28, .pv (.one (.int .i64))), (29, .pv (.one (.int .i64))), (0, .box 0 0), (3, .box 1 0), (27, .slf 2)], [.graph [.ref 2, .c (.map [.i64, .i64] [.i64])], .cells [.int .i64, .int .i64, .int .i64, .int .i64, .int .i64, .int .i64, .int .i64, .int .i64, .recs [.i64, .i64] false], .grow [.int .i64, .int .i64, .int .i64, .int .i64, .int .i64, .int .i64, .int .i64, .int .i64, .sl [.int .i64, .int .i64]]], [0]⟩
def _prod_Catalogue_clash_l6_post0 : Vm.Pat := ⟨70, [(7, .pv (.one (.int .i64))), (0, .box 0 0)], [.cells [.grow [.int .i64, .int .i64, .int .i64, .int .i64, .int .i64, .int .i64, .int .i64, .int .i64, .sl [.int .i64, .int .i64]], .map [.i64, .i64] [.i64]]], [0]⟩
def _prod_Catalogue_clash_l6_enc0 : Int × List (List D) × List (List Int × List Int) → List U := fun r => [.i r.1, .d r.2.1, .m r.2.2]
def _prod_Catalogue_clash_l6_dec0 : List U → Option (Int × List (List D) × List (List Int × List Int)) := fun u => match u with | [.i x7, .d dd0_0, .m m0_1] => some (x7, dd0_0, m0_1) | _ => none
def _prod_Catalogue_clash_l6_post1 : Vm.Pat := ⟨70, [(4, .pv (.one (.int .i64))), (0, .box 0 0)], [.cells [.grow [.int .i64, .int .i64, .int .i64, .int .i64, .int .i64, .int .i64, .int .i64, .int .i64, .sl [.int .i64, .int .i64]], .map [.i64, .i64] [.i64]]], [0]⟩
def _prod_Catalogue_clash_l6_enc1 : Int × List (List D) × List (List Int × List Int) → List U := fun r => [.i r.1, .d r.2.1, .m r.2.2]
def _prod_Catalogue_clash_l6_dec1 : List U → Option (Int × List (List D) × List (List Int × List Int)) := fun u => match u with | [.i x4, .d dd0_0, .m m0_1] => some (x4, dd0_0, m0_1) | _ => none
def _prod_Catalogue_clash_l6 (K : Nat) : Nat → Int → Int → Int → List (List Int × List Int) → Int → Int → Int → Int → Int → Int → Int → Int → List (List Int) → List (List D) → Option ((Int × List (List D) × List (List Int × List Int)) ⊕ (Int × List (List D) × List (List Int × List Int)))
  | 0, _, _, _, _, _, _, _, _, _, _, _, _, _, _ => none
  | k + 1, x7, x28, x29, m0_1, x3_0, x3_1, x3_2, x3_3, x3_4, x3_5, x3_6, x3_7, q3_8, dd27 => (bi (Decidable.decide (x29 < x28))
    (bi (Decidable.decide (0 ≤ x29) && Decidable.decide (x29 < (↑dd27.length : Int)))
    (bi ((nth d0
      (nth [] dd27 x29.toNat) 0).toI !=
  x3_0)
    (_prod_Catalogue_clash_l6 K k (x7) (x28) (Go.IntKind.i64.wrap (x29 + 1)) (m0_1) (x3_0) (x3_1) (x3_2) (x3_3) (x3_4) (x3_5) (x3_6) (x3_7) (q3_8) (dd27))
    (bi (Decidable.decide
  ((nth d0
        (nth [] dd27 x29.toNat) 3).toI >
    x3_3))
    (some (Sum.inr (9, dd27, m0_1)))
    (bi ((nth d0
      (nth [] dd27 x29.toNat) 1).toI !=
  x3_1)
    (_prod_Catalogue_clash_l6 K k (11) (x28) (Go.IntKind.i64.wrap (x29 + 1)) (m0_1) (x3_0) (x3_1) (x3_2) (x3_3) (x3_4) (x3_5) (x3_6) (x3_7) (q3_8) (dd27))
    (bi ((nth d0
      (nth [] dd27 x29.toNat) 2).toI !=
  x3_2)
    (_prod_Catalogue_clash_l6 K k (11) (x28) (Go.IntKind.i64.wrap (x29 + 1)) (m0_1) (x3_0) (x3_1) (x3_2) (x3_3) (x3_4) (x3_5) (x3_6) (x3_7) (q3_8) (dd27))
    (_prod_Catalogue_clash_l6 K k (x7) (x28) (Go.IntKind.i64.wrap (x29 + 1)) (m0_1) (x3_0) (x3_1) (x3_2) (x3_3) (x3_4) (x3_5) (x3_6) (x3_7) (q3_8) (dd27))))))
    none)
    (some (Sum.inl (x7, dd27, m0_1))))
def _prod_Catalogue_clash_l6_w (K k : Nat) : List U → Option ((Int × List (List D) × List (List Int × List Int)) ⊕ (Int × List (List D) × List (List Int × List Int))) := fun us => match us with | [.i x7, .i x28, .i x29, .m m0_1, .i x3_0, .i x3_1, .i x3_2, .i x3_3, .i x3_4, .i x3_5, .i x3_6, .i x3_7, .rr q3_8, .d dd27] => _prod_Catalogue_clash_l6 K k x7 x28 x29 m0_1 x3_0 x3_1 x3_2 x3_3 x3_4 x3_5 x3_6 x3_7 q3_8 dd27 | _ => none
theorem _prod_Catalogue_clash_l6_eq (K k : Nat) (x7 : Int) (x28 : Int) (x29 : Int) (m0_1 : List (List Int × List Int)) (x3_0 : Int) (x3_1 : Int) (x3_2 : Int) (x3_3 : Int) (x3_4 : Int) (x3_5 : Int) (x3_6 : Int) (x3_7 : Int) (q3_8 : List (List Int)) (dd27 : List (List D)) : (round2K Go.Proofs.Try.prog (env_prod_copied_ro K) (lenv0) (lp (bodyOf Go.Proofs.Try.f27) 0) _prod_Catalogue_clash_l6_pre (.exit 0) _prod_Catalogue_clash_l6_post0 .ret _prod_Catalogue_clash_l6_post1 _prod_Catalogue_clash_l6_dec0 _prod_Catalogue_clash_l6_dec1 (_prod_Catalogue_clash_l6_w K k) [.i x7, .i x28, .i x29, .m m0_1, .i x3_0, .i x3_1, .i x3_2, .i x3_3, .i x3_4, .i x3_5, .i x3_6, .i x3_7, .rr q3_8, .d dd27]).den2 = _prod_Catalogue_clash_l6 K (k + 1) x7 x28 x29 m0_1 x3_0 x3_1 x3_2 x3_3 x3_4 x3_5 x3_6 x3_7 q3_8 dd27 := by kernel_rfl
def _prod_Catalogue_clash_l6_s (K : Nat) : Vm.LS := .two _prod_Catalogue_clash_l6_pre _ _ (.exit 0) _prod_Catalogue_clash_l6_post0 .ret _prod_Catalogue_clash_l6_post1 (_prod_Catalogue_clash_l6_w K K) _prod_Catalogue_clash_l6_enc0 _prod_Catalogue_clash_l6_enc1
theorem _prod_Catalogue_clash_l6_ok (K : Nat) : LoopOk Go.Proofs.Try.prog (lp (bodyOf Go.Proofs.Try.f27) 0) (_prod_Catalogue_clash_l6_s K) := loop_twoK hmix (env_prod_copied_ro_ok K) (lenv := lenv0) (L := _prod_Catalogue_clash_l6_w K) (enc := _prod_Catalogue_clash_l6_enc0) (dec := _prod_Catalogue_clash_l6_dec0) (enc' := _prod_Catalogue_clash_l6_enc1) (dec' := _prod_Catalogue_clash_l6_dec1) (lps_ok (l := []) (by kernel_rfl) trivial) (fun u r h => by unfold _prod_Catalogue_clash_l6_dec0 at h; split at h; (obtain rfl := Option.some.inj h; rfl); cases h) (fun u r h => by unfold _prod_Catalogue_clash_l6_dec1 at h; split at h; (obtain rfl := Option.some.inj h; rfl); cases h) (fun us => by unfold _prod_Catalogue_clash_l6_w; split <;> first | rfl | (simp only [_prod_Catalogue_clash_l6])) (fun k us r h => by unfold _prod_Catalogue_clash_l6_w at h; split at h; exact ((den2_eq _).symm.trans (_prod_Catalogue_clash_l6_eq K k _ _ _ _ _ _ _ _ _ _ _ _ _ _)).trans h; cases h) K
def _prod_Catalogue_clash_v6 (K : Nat) : Nat → Option Vm.LS := addL (lenv0) 6 (_prod_Catalogue_clash_l6_s K)
def _prod_Catalogue_clash_dec : List U → Option (Int × List (List D) × List (List Int × List Int)) := fun u => match u with | [.i x0, .d dd1_0, .m m1_1] => some (x0, dd1_0, m1_1) | _ => none
def _prod_Catalogue_clash_enc : (Int × List (List D) × List (List Int × List Int)) → List U := fun r => [.i r.1, .d r.2.1, .m r.2.2]
def _prod_Catalogue_clash (K : Nat) (dd0_0 : List (List D)) (m0_1 : List (List Int × List Int)) (x1_0 : Int) (x1_1 : Int) (x1_2 : Int) (x1_3 : Int) (x1_4 : Int) (x1_5 : Int) (x1_6 : Int) (x1_7 : Int) (q1_8 : List (List Int)) : Option (Int × List (List D) × List (List Int × List Int)) := (bi (mhas m0_1 [x1_0, x1_3])
    (some ((8, dd0_0, m0_1)))
    (casO (_prod_Catalogue_clash_l6 K K 0 (↑dd0_0.length : Int) 0 m0_1 x1_0 x1_1 x1_2 x1_3 x1_4 x1_5
  x1_6 x1_7 q1_8 dd0_0) (fun r0 => (bi (r0.fst == 0)
    (bi ((↑r0.snd.fst.length : Int) == 64)
    (some ((17, r0.snd.fst, r0.snd.snd)))
    (some ((r0.fst, r0.snd.fst, r0.snd.snd))))
    (some ((r0.fst, r0.snd.fst, r0.snd.snd))))) (fun r1 => (some ((r1.fst, r1.snd.fst, r1.snd.snd))))))
theorem _prod_Catalogue_clash_eq (K : Nat) (dd0_0 : List (List D)) (m0_1 : List (List Int × List Int)) (x1_0 : Int) (x1_1 : Int) (x1_2 : Int) (x1_3 : Int) (x1_4 : Int) (x1_5 : Int) (x1_6 : Int) (x1_7 : Int) (q1_8 : List (List Int)) : (runFK Go.Proofs.Try.prog (env_prod_copied_ro K) (_prod_Catalogue_clash_v6 K) Go.Proofs.Try.f27 [.ptr [.grow [.int .i64, .int .i64, .int .i64, .int .i64, .int .i64, .int .i64, .int .i64, .int .i64, .sl [.int .i64, .int .i64]], .map [.i64, .i64] [.i64]], .agg [.int .i64, .int .i64, .int .i64, .int .i64, .int .i64, .int .i64, .int .i64, .int .i64, .recs [.i64, .i64] false]] [.one (.int .i64)] _prod_Catalogue_clash_dec [.d dd0_0, .m m0_1, .i x1_0, .i x1_1, .i x1_2, .i x1_3, .i x1_4, .i x1_5, .i x1_6, .i x1_7, .rr q1_8]).den2 = _prod_Catalogue_clash K dd0_0 m0_1 x1_0 x1_1 x1_2 x1_3 x1_4 x1_5 x1_6 x1_7 q1_8 := by kernel_rfl
def _prod_Catalogue_clash_w (K : Nat) : List U → Option (Int × List (List D) × List (List Int × List Int)) := fun us => match us with | [.d dd0_0, .m m0_1, .i x1_0, .i x1_1, .i x1_2, .i x1_3, .i x1_4, .i x1_5, .i x1_6, .i x1_7, .rr q1_8] => _prod_Catalogue_clash K dd0_0 m0_1 x1_0 x1_1 x1_2 x1_3 x1_4 x1_5 x1_6 x1_7 q1_8 | _ => none
def _prod_Catalogue_clash_spec (K : Nat) : Vm.Spec := ⟨[.ptr [.grow [.int .i64, .int .i64, .int .i64, .int .i64, .int .i64, .int .i64, .int .i64, .int .i64, .sl [.int .i64, .int .i64]], .map [.i64, .i64] [.i64]], .agg [.int .i64, .int .i64, .int .i64, .int .i64, .int .i64, .int .i64, .int .i64, .int .i64, .recs [.i64, .i64] false]], [.one (.int .i64)], Int × List (List D) × List (List Int × List Int), _prod_Catalogue_clash_w K, _prod_Catalogue_clash_enc⟩
theorem _prod_Catalogue_clash_ok (K : Nat) : FnOk Go.Proofs.Try.prog 27 (_prod_Catalogue_clash_spec K) := fn_okK' hmix (env_prod_copied_ro_ok K) (lenv := _prod_Catalogue_clash_v6 K) (args := [.ptr [.grow [.int .i64, .int .i64, .int .i64, .int .i64, .int .i64, .int .i64, .int .i64, .int .i64, .sl [.int .i64, .int .i64]], .map [.i64, .i64] [.i64]], .agg [.int .i64, .int .i64, .int .i64, .int .i64, .int .i64, .int .i64, .int .i64, .int .i64, .recs [.i64, .i64] false]]) (res := [.one (.int .i64)]) (G := _prod_Catalogue_clash_w K) (enc := _prod_Catalogue_clash_enc) Go.Proofs.Try.func27 (lps_fn (l := [lp (bodyOf Go.Proofs.Try.f27) 0]) (by kernel_rfl) ⟨⟨6, _prod_Catalogue_clash_l6_s K, by kernel_rfl, by kernel_rfl, _prod_Catalogue_clash_l6_ok K⟩, trivial⟩) (dec := _prod_Catalogue_clash_dec) (fun u r h => by unfold _prod_Catalogue_clash_dec at h; split at h; (obtain rfl := Option.some.inj h; rfl); cases h) (fun us r h => by unfold _prod_Catalogue_clash_w at h; split at h; exact ((den2_eq _).symm.trans (_prod_Catalogue_clash_eq K _ _ _ _ _ _ _ _ _ _ _)).trans h; cases h)
def env__prod_Catalogue_clash (K : Nat) : FuncId → Option Vm.Spec := addS (env_prod_copied_ro K) 27 (_prod_Catalogue_clash_spec K)
theorem env__prod_Catalogue_clash_ok (K : Nat) : EnvOk Go.Proofs.Try.prog (env__prod_Catalogue_clash K) := addS_ok (env_prod_copied_ro_ok K) (.inl ⟨callable Go.Proofs.Try.func27 (by kernel_rfl) (by kernel_rfl), _prod_Catalogue_clash_ok K⟩)
-- (*passbook/prod.Catalogue).Add
def _prod_Catalogue_Add_dec : List U → Option (Int × List (List D) × List (List Int × List Int)) := fun u => match u with | [.i x0, .d dd1_0, .m m1_1] => some (x0, dd1_0, m1_1) | _ => none
def _prod_Catalogue_Add_enc : (Int × List (List D) × List (List Int × List Int)) → List U := fun r => [.i r.1, .d r.2.1, .m r.2.2]
def _prod_Catalogue_Add (K : Nat) (dd0_0 : List (List D)) (m0_1 : List (List Int × List Int)) (x1_0 : Int) (x1_1 : Int) (x1_2 : Int) (x1_3 : Int) (x1_4 : Int) (x1_5 : Int) (x1_6 : Int) (x1_7 : Int) (q1_8 : List (List Int)) : Option (Int × List (List D) × List (List Int × List Int)) := ((prod_Check K x1_0 x1_1 x1_2 x1_3 x1_4 x1_5 x1_6 x1_7 q1_8).bind fun r0 => (bi (r0 != 0)
    (some ((r0, dd0_0, m0_1)))
    ((_prod_Catalogue_clash K dd0_0 m0_1 x1_0 x1_1 x1_2 x1_3 x1_4 x1_5 x1_6 x1_7 q1_8).bind fun r1 => (bi (r1.fst != 0)
    (some ((r1.fst, r1.snd.fst, r1.snd.snd)))
    ((prod_copied K x1_0 x1_1 x1_2 x1_3 x1_4 x1_5 x1_6 x1_7 q1_8).bind fun r2 => (bi (Decidable.decide (r1.snd.fst.length + 1 ≤ 1599289640401))
    (some ((0,
  r1.snd.fst ++
    [[D.i r2.fst, D.i r2.snd.fst,
        D.i r2.snd.snd.fst, D.i r2.snd.snd.snd.fst,
        D.i r2.snd.snd.snd.snd.fst,
        D.i r2.snd.snd.snd.snd.snd.fst,
        D.i r2.snd.snd.snd.snd.snd.snd.fst,
        D.i r2.snd.snd.snd.snd.snd.snd.snd.fst,
        D.l
          (List.map
            (fun r =>
              [D.i (nth 0 r 0),
                D.i (nth 0 r 1)])
            r2.snd.snd.snd.snd.snd.snd.snd.snd)]],
  mset r1.snd.snd [x1_0, x1_3] [(↑r1.snd.fst.length : Int)])))
    none))))))
theorem _prod_Catalogue_Add_eq (K : Nat) (dd0_0 : List (List D)) (m0_1 : List (List Int × List Int)) (x1_0 : Int) (x1_1 : Int) (x1_2 : Int) (x1_3 : Int) (x1_4 : Int) (x1_5 : Int) (x1_6 : Int) (x1_7 : Int) (q1_8 : List (List Int)) : (runFK Go.Proofs.Try.prog (env__prod_Catalogue_clash K) (lenv0) Go.Proofs.Try.f17 [.ptr [.grow [.int .i64, .int .i64, .int .i64, .int .i64, .int .i64, .int .i64, .int .i64, .int .i64, .sl [.int .i64, .int .i64]], .map [.i64, .i64] [.i64]], .agg [.int .i64, .int .i64, .int .i64, .int .i64, .int .i64, .int .i64, .int .i64, .int .i64, .recs [.i64, .i64] false]] [.one (.int .i64)] _prod_Catalogue_Add_dec [.d dd0_0, .m m0_1, .i x1_0, .i x1_1, .i x1_2, .i x1_3, .i x1_4, .i x1_5, .i x1_6, .i x1_7, .rr q1_8]).den2 = _prod_Catalogue_Add K dd0_0 m0_1 x1_0 x1_1 x1_2 x1_3 x1_4 x1_5 x1_6 x1_7 q1_8 := by kernel_rfl
def _prod_Catalogue_Add_w (K : Nat) : List U → Option (Int × List (List D) × List (List Int × List Int)) := fun us => match us with | [.d dd0_0, .m m0_1, .i x1_0, .i x1_1, .i x1_2, .i x1_3, .i x1_4, .i x1_5, .i x1_6, .i x1_7, .rr q1_8] => _prod_Catalogue_Add K dd0_0 m0_1 x1_0 x1_1 x1_2 x1_3 x1_4 x1_5 x1_6 x1_7 q1_8 | _ => none
def _prod_Catalogue_Add_spec (K : Nat) : Vm.Spec := ⟨[.ptr [.grow [.int .i64, .int .i64, .int .i64, .int .i64, .int .i64, .int .i64, .int .i64, .int .i64, .sl [.int .i64, .int .i64]], .map [.i64, .i64] [.i64]], .agg [.int .i64, .int .i64, .int .i64, .int .i64, .int .i64, .int .i64, .int .i64, .int .i64, .recs [.i64, .i64] false]], [.one (.int .i64)], Int × List (List D) × List (List Int × List Int), _prod_Catalogue_Add_w K, _prod_Catalogue_Add_enc⟩
theorem _prod_Catalogue_Add_ok (K : Nat) : FnOk Go.Proofs.Try.prog 17 (_prod_Catalogue_Add_spec K) := fn_okK' hmix (env__prod_Catalogue_clash_ok K) (lenv := lenv0) (args := [.ptr [.grow [.int .i64, .int .i64, .int .i64, .int .i64, .int .i64, .int .i64, .int .i64, .int .i64, .sl [.int .i64, .int .i64]], .map [.i64, .i64] [.i64]], .agg [.int .i64, .int .i64, .int .i64, .int .i64, .int .i64, .int .i64, .int .i64, .int .i64, .recs [.i64, .i64] false]]) (res := [.one (.int .i64)]) (G := _prod_Catalogue_Add_w K) (enc := _prod_Catalogue_Add_enc) Go.Proofs.Try.func17 (lps_fn (l := []) (by kernel_rfl) trivial) (dec := _prod_Catalogue_Add_dec) (fun u r h => by unfold _prod_Catalogue_Add_dec at h; split at h; (obtain rfl := Option.some.inj h; rfl); cases h) (fun us r h => by unfold _prod_Catalogue_Add_w at h; split at h; exact ((den2_eq _).symm.trans (_prod_Catalogue_Add_eq K _ _ _ _ _ _ _ _ _ _ _)).trans h; cases h)
def env__prod_Catalogue_Add (K : Nat) : FuncId → Option Vm.Spec := addS (env__prod_Catalogue_clash K) 17 (_prod_Catalogue_Add_spec K)
theorem env__prod_Catalogue_Add_ok (K : Nat) : EnvOk Go.Proofs.Try.prog (env__prod_Catalogue_Add K) := addS_ok (env__prod_Catalogue_clash_ok K) (.inl ⟨callable Go.Proofs.Try.func17 (by kernel_rfl) (by kernel_rfl), _prod_Catalogue_Add_ok K⟩)
-- (*passbook/prod.Catalogue).List
def _prod_Catalogue_List_l5_pre : Vm.Pat := ⟨24, [(3, .pv (.one (.grow [.int .i64, .int .i64, .int .i64, .int .i64, .int .i64, .int .i64, .int .i64, .int .i64, .sl [.int .i64, .int .i64]]))), (12, .pv (.one (.int .i64))), (13, .pv (.one (.int .i64))), (0, .box 0 0), (11, .slf 1)], [.graph [.ref 1, .c (.map [.i64, .i64] [.i64])], .grow [.int .i64, .int .i64, .int .i64, .int .i64, .int .i64, .int .i64, .int .i64, .int .i64, .sl [.int .i64, .int .i64]]], [0]⟩
def _prod_Catalogue_List_l5_post0 : Vm.Pat := ⟨24, [(3, .pv (.one (.grow [.int .i64, .int .i64, .int .i64, .int .i64, .int .i64, .int .i64, .int .i64, .int .i64, .sl [.int .i64, .int .i64]]))), (0, .box 0 0)], [.cells [.grow [.int .i64, .int .i64, .int .i64, .int .i64, .int .i64, .int .i64, .int .i64, .int .i64, .sl [.int .i64, .int .i64]], .map [.i64, .i64] [.i64]]], [0]⟩
def _prod_Catalogue_List_l5_enc0 : List (List D) × List (List D) × List (List Int × List Int) → List U := fun r => [.d r.1, .d r.2.1, .m r.2.2]
def _prod_Catalogue_List_l5_dec0 : List U → Option (List (List D) × List (List D) × List (List Int × List Int)) := fun u => match u with | [.d dd3, .d dd0_0, .m m0_1] => some (dd3, dd0_0, m0_1) | _ => none
def _prod_Catalogue_List_l5 (K : Nat) : Nat → List (List D) → Int → Int → List (List Int × List Int) → List (List D) → Option (List (List D) × List (List D) × List (List Int × List Int))
  | 0, _, _, _, _, _ => none
  | k + 1, dd3, x12, x13, m0_1, dd11 => (bi (Decidable.decide (x13 < x12))
    (bi (Decidable.decide (0 ≤ x13) && Decidable.decide (x13 < (↑dd11.length : Int)))
    ((prod_copied_ro K
  (nth d0
      (nth [] dd11 x13.toNat) 0).toI
  (nth d0
      (nth [] dd11 x13.toNat) 1).toI
  (nth d0
      (nth [] dd11 x13.toNat) 2).toI
  (nth d0
      (nth [] dd11 x13.toNat) 3).toI
  (nth d0
      (nth [] dd11 x13.toNat) 4).toI
  (nth d0
      (nth [] dd11 x13.toNat) 5).toI
  (nth d0
      (nth [] dd11 x13.toNat) 6).toI
  (nth d0
      (nth [] dd11 x13.toNat) 7).toI
  (D.l
      (nth d0
          (nth [] dd11 x13.toNat) 8).toL).toL).bind fun r0 => (bi (Decidable.decide (dd3.length + 1 ≤ 1599289640401))
    (_prod_Catalogue_List_l5 K k (dd3 ++
  [[D.i r0.fst, D.i r0.snd.fst,
      D.i r0.snd.snd.fst, D.i r0.snd.snd.snd.fst,
      D.i r0.snd.snd.snd.snd.fst,
      D.i r0.snd.snd.snd.snd.snd.fst,
      D.i r0.snd.snd.snd.snd.snd.snd.fst,
      D.i r0.snd.snd.snd.snd.snd.snd.snd.fst,
      D.l
        (List.map
          (fun r =>
            [D.i (nth 0 r 0),
              D.i (nth 0 r 1)])
          r0.snd.snd.snd.snd.snd.snd.snd.snd)]]) (x12) (Go.IntKind.i64.wrap (x13 + 1)) (m0_1) (dd11))
    none))
    none)
    (some ((dd3, dd11, m0_1))))
def _prod_Catalogue_List_l5_w (K k : Nat) : List U → Option (List (List D) × List (List D) × List (List Int × List Int)) := fun us => match us with | [.d dd3, .i x12, .i x13, .m m0_1, .d dd11] => _prod_Catalogue_List_l5 K k dd3 x12 x13 m0_1 dd11 | _ => none
theorem _prod_Catalogue_List_l5_eq (K k : Nat) (dd3 : List (List D)) (x12 : Int) (x13 : Int) (m0_1 : List (List Int × List Int)) (dd11 : List (List D)) : (round1K Go.Proofs.Try.prog (env__prod_Catalogue_Add K) (lenv0) (lp (bodyOf Go.Proofs.Try.f21) 0) _prod_Catalogue_List_l5_pre (.exit 0) _prod_Catalogue_List_l5_post0 _prod_Catalogue_List_l5_dec0 (_prod_Catalogue_List_l5_w K k) [.d dd3, .i x12, .i x13, .m m0_1, .d dd11]).den2 = _prod_Catalogue_List_l5 K (k + 1) dd3 x12 x13 m0_1 dd11 := by kernel_rfl
def _prod_Catalogue_List_l5_s (K : Nat) : Vm.LS := .one _prod_Catalogue_List_l5_pre _ (.exit 0) _prod_Catalogue_List_l5_post0 (_prod_Catalogue_List_l5_w K K) _prod_Catalogue_List_l5_enc0
theorem _prod_Catalogue_List_l5_ok (K : Nat) : LoopOk Go.Proofs.Try.prog (lp (bodyOf Go.Proofs.Try.f21) 0) (_prod_Catalogue_List_l5_s K) := loop_oneK hmix (env__prod_Catalogue_Add_ok K) (lenv := lenv0) (L := _prod_Catalogue_List_l5_w K) (enc := _prod_Catalogue_List_l5_enc0) (dec := _prod_Catalogue_List_l5_dec0) (lps_ok (l := []) (by kernel_rfl) trivial) (fun u r h => by unfold _prod_Catalogue_List_l5_dec0 at h; split at h; (obtain rfl := Option.some.inj h; rfl); cases h) (fun us => by unfold _prod_Catalogue_List_l5_w; split <;> first | rfl | (simp only [_prod_Catalogue_List_l5])) (fun k us r h => by unfold _prod_Catalogue_List_l5_w at h; split at h; exact ((den2_eq _).symm.trans (_prod_Catalogue_List_l5_eq K k _ _ _ _ _)).trans h; cases h) K
def _prod_Catalogue_List_v5 (K : Nat) : Nat → Option Vm.LS := addL (lenv0) 5 (_prod_Catalogue_List_l5_s K)
def _prod_Catalogue_List_dec : List U → Option (List (List D) × List (List D) × List (List Int × List Int)) := fun u => match u with | [.d dd0, .d dd1_0, .m m1_1] => some (dd0, dd1_0, m1_1) | _ => none
def _prod_Catalogue_List_enc : (List (List D) × List (List D) × List (List Int × List Int)) → List U := fun r => [.d r.1, .d r.2.1, .m r.2.2]
def _prod_Catalogue_List (K : Nat) (dd0_0 : List (List D)) (m0_1 : List (List Int × List Int)) : Option (List (List D) × List (List D) × List (List Int × List Int)) := ((_prod_Catalogue_List_l5 K K [] (↑dd0_0.length : Int) 0 m0_1 dd0_0).bind fun r0 => (some (((D.l r0.fst).toL, r0.snd.fst, r0.snd.snd))))
theorem _prod_Catalogue_List_eq (K : Nat) (dd0_0 : List (List D)) (m0_1 : List (List Int × List Int)) : (runFK Go.Proofs.Try.prog (env__prod_Catalogue_Add K) (_prod_Catalogue_List_v5 K) Go.Proofs.Try.f21 [.ptr [.grow [.int .i64, .int .i64, .int .i64, .int .i64, .int .i64, .int .i64, .int .i64, .int .i64, .sl [.int .i64, .int .i64]], .map [.i64, .i64] [.i64]]] [.one (.ro [.int .i64, .int .i64, .int .i64, .int .i64, .int .i64, .int .i64, .int .i64, .int .i64, .sl [.int .i64, .int .i64]])] _prod_Catalogue_List_dec [.d dd0_0, .m m0_1]).den2 = _prod_Catalogue_List K dd0_0 m0_1 := by kernel_rfl
def _prod_Catalogue_List_w (K : Nat) : List U → Option (List (List D) × List (List D) × List (List Int × List Int)) := fun us => match us with | [.d dd0_0, .m m0_1] => _prod_Catalogue_List K dd0_0 m0_1 | _ => none
def _prod_Catalogue_List_spec (K : Nat) : Vm.Spec := ⟨[.ptr [.grow [.int .i64, .int .i64, .int .i64, .int .i64, .int .i64, .int .i64, .int .i64, .int .i64, .sl [.int .i64, .int .i64]], .map [.i64, .i64] [.i64]]], [.one (.ro [.int .i64, .int .i64, .int .i64, .int .i64, .int .i64, .int .i64, .int .i64, .int .i64, .sl [.int .i64, .int .i64]])], List (List D) × List (List D) × List (List Int × List Int), _prod_Catalogue_List_w K, _prod_Catalogue_List_enc⟩
theorem _prod_Catalogue_List_ok (K : Nat) : FnOk Go.Proofs.Try.prog 21 (_prod_Catalogue_List_spec K) := fn_okK' hmix (env__prod_Catalogue_Add_ok K) (lenv := _prod_Catalogue_List_v5 K) (args := [.ptr [.grow [.int .i64, .int .i64, .int .i64, .int .i64, .int .i64, .int .i64, .int .i64, .int .i64, .sl [.int .i64, .int .i64]], .map [.i64, .i64] [.i64]]]) (res := [.one (.ro [.int .i64, .int .i64, .int .i64, .int .i64, .int .i64, .int .i64, .int .i64, .int .i64, .sl [.int .i64, .int .i64]])]) (G := _prod_Catalogue_List_w K) (enc := _prod_Catalogue_List_enc) Go.Proofs.Try.func21 (lps_fn (l := [lp (bodyOf Go.Proofs.Try.f21) 0]) (by kernel_rfl) ⟨⟨5, _prod_Catalogue_List_l5_s K, by kernel_rfl, by kernel_rfl, _prod_Catalogue_List_l5_ok K⟩, trivial⟩) (dec := _prod_Catalogue_List_dec) (fun u r h => by unfold _prod_Catalogue_List_dec at h; split at h; (obtain rfl := Option.some.inj h; rfl); cases h) (fun us r h => by unfold _prod_Catalogue_List_w at h; split at h; exact ((den2_eq _).symm.trans (_prod_Catalogue_List_eq K _ _)).trans h; cases h)
def env__prod_Catalogue_List (K : Nat) : FuncId → Option Vm.Spec := addS (env__prod_Catalogue_Add K) 21 (_prod_Catalogue_List_spec K)
theorem env__prod_Catalogue_List_ok (K : Nat) : EnvOk Go.Proofs.Try.prog (env__prod_Catalogue_List K) := addS_ok (env__prod_Catalogue_Add_ok K) (.inl ⟨callable Go.Proofs.Try.func21 (by kernel_rfl) (by kernel_rfl), _prod_Catalogue_List_ok K⟩)
end
end Go.Proofs.Ytmmaechogibodaa.F
