import Derived.Test.YtmmaechogibodaaVmY
import Derived.Test.YtmmaechogibodaaVmRc
import Derived.Test.YtmmaechogibodaaVmCl
import Derived.Test.YtmmaechogibodaaProg
import Derived.Test.YtmmaechogibodaaVmRg
import Derived.Test.YtmmaechogibodaaFA
import Derived.Test.YtmmaechogibodaaFB
import Derived.Test.YtmmaechogibodaaFV
import Derived.Test.YtmmaechogibodaaFC
import Derived.Test.YtmmaechogibodaaFD
namespace Go.Proofs.Ytmmaechogibodaa.F
open Go Go.Proofs.Ytmmaechogibodaa.Vm
set_option maxRecDepth 1000000
set_option linter.unusedVariables false
set_option linter.unusedSimpArgs false
noncomputable section
-- passbook/passbooklaw12.plain
def law12_plain_dec : List U → Option (Int × Int × Int × Int × Int × Int × Int × Int × List (List Int)) := fun u => match u with | [.i x0_0, .i x0_1, .i x0_2, .i x0_3, .i x0_4, .i x0_5, .i x0_6, .i x0_7, .rr q0_8] => some (x0_0, x0_1, x0_2, x0_3, x0_4, x0_5, x0_6, x0_7, q0_8) | _ => none
def law12_plain_enc : (Int × Int × Int × Int × Int × Int × Int × Int × List (List Int)) → List U := fun r => [.i r.1, .i r.2.1, .i r.2.2.1, .i r.2.2.2.1, .i r.2.2.2.2.1, .i r.2.2.2.2.2.1, .i r.2.2.2.2.2.2.1, .i r.2.2.2.2.2.2.2.1, .rr r.2.2.2.2.2.2.2.2]
def law12_plain (K : Nat) (x0 : Int) (x1 : Int) : Option (Int × Int × Int × Int × Int × Int × Int × Int × List (List Int)) := (some ((x0, 1, 0, x1, 0, 0, 0, 0, [[0, 5]])))
theorem law12_plain_eq (K : Nat) (x0 : Int) (x1 : Int) : (runFK Go.Proofs.Try.prog (env__prod_Catalogue_At K) (lenv0) Go.Proofs.Try.f18 [.one (.int .i64), .one (.int .i64)] [.agg [.int .i64, .int .i64, .int .i64, .int .i64, .int .i64, .int .i64, .int .i64, .int .i64, .recs [.i64, .i64] false]] law12_plain_dec [.i x0, .i x1]).den2 = law12_plain K x0 x1 := by kernel_rfl
def law12_plain_w (K : Nat) : List U → Option (Int × Int × Int × Int × Int × Int × Int × Int × List (List Int)) := fun us => match us with | [.i x0, .i x1] => law12_plain K x0 x1 | _ => none
def law12_plain_spec (K : Nat) : Vm.Spec := ⟨[.one (.int .i64), .one (.int .i64)], [.agg [.int .i64, .int .i64, .int .i64, .int .i64, .int .i64, .int .i64, .int .i64, .int .i64, .recs [.i64, .i64] false]], Int × Int × Int × Int × Int × Int × Int × Int × List (List Int), law12_plain_w K, law12_plain_enc⟩
theorem law12_plain_ok (K : Nat) : FnOk Go.Proofs.Try.prog 18 (law12_plain_spec K) := fn_okK' hmix (env__prod_Catalogue_At_ok K) (lenv := lenv0) (args := [.one (.int .i64), .one (.int .i64)]) (res := [.agg [.int .i64, .int .i64, .int .i64, .int .i64, .int .i64, .int .i64, .int .i64, .int .i64, .recs [.i64, .i64] false]]) (G := law12_plain_w K) (enc := law12_plain_enc) Go.Proofs.Try.func18 (lps_fn (l := []) (by kernel_rfl) trivial) (dec := law12_plain_dec) (fun u r h => by unfold law12_plain_dec at h; split at h; (obtain rfl := Option.some.inj h; rfl); cases h) (fun us r h => by unfold law12_plain_w at h; split at h; exact ((den2_eq _).symm.trans (law12_plain_eq K _ _)).trans h; cases h)
def env_law12_plain (K : Nat) : FuncId → Option Vm.Spec := addS (env__prod_Catalogue_At K) 18 (law12_plain_spec K)
theorem env_law12_plain_ok (K : Nat) : EnvOk Go.Proofs.Try.prog (env_law12_plain K) := addS_ok (env__prod_Catalogue_At_ok K) (.inl ⟨callable Go.Proofs.Try.func18 (by kernel_rfl) (by kernel_rfl), law12_plain_ok K⟩)
-- passbook/passbooklaw12.awake
def law12_awake_dec : List U → Option (Bool) := fun u => match u with | [.b c0] => some (c0) | _ => none
def law12_awake_enc : (Bool) → List U := fun r => [.b r]
def law12_awake (K : Nat)  : Option (Bool) := ((prod_New K).bind fun r0 => ((law12_plain K 7 10).bind fun r1 => ((_prod_Catalogue_Add K r0.fst r0.snd r1.fst r1.snd.fst r1.snd.snd.fst r1.snd.snd.snd.fst
  r1.snd.snd.snd.snd.fst r1.snd.snd.snd.snd.snd.fst r1.snd.snd.snd.snd.snd.snd.fst r1.snd.snd.snd.snd.snd.snd.snd.fst
  r1.snd.snd.snd.snd.snd.snd.snd.snd).bind fun r2 => (bi (r2.fst != 0)
    (some Bool.false)
    ((law12_plain K 7 20).bind fun r3 => ((_prod_Catalogue_Add K r2.snd.fst r2.snd.snd r3.fst r3.snd.fst r3.snd.snd.fst
  r3.snd.snd.snd.fst r3.snd.snd.snd.snd.fst r3.snd.snd.snd.snd.snd.fst r3.snd.snd.snd.snd.snd.snd.fst
  r3.snd.snd.snd.snd.snd.snd.snd.fst r3.snd.snd.snd.snd.snd.snd.snd.snd).bind fun r4 => (bi (r4.fst != 0)
    (some Bool.false)
    ((law12_plain K 7 20).bind fun r5 => ((_prod_Catalogue_Add K r4.snd.fst r4.snd.snd r5.fst r5.snd.fst r5.snd.snd.fst
  r5.snd.snd.snd.fst r5.snd.snd.snd.snd.fst r5.snd.snd.snd.snd.snd.fst r5.snd.snd.snd.snd.snd.snd.fst
  r5.snd.snd.snd.snd.snd.snd.snd.fst r5.snd.snd.snd.snd.snd.snd.snd.snd).bind fun r6 => (bi (r6.fst != 8)
    (some Bool.false)
    ((_prod_Catalogue_At K r6.snd.fst r6.snd.snd 7 19).bind fun r7 => ((_prod_Catalogue_At K r7.snd.snd.fst r7.snd.snd.snd 7 20).bind fun r8 => (bi (r7.snd.fst == 0)
    (bi (r8.snd.fst == 0)
    (bi (nth 0 r7.fst.fst 3 == 10)
    (some (nth 0 r8.fst.fst 3 == 20))
    (some Bool.false))
    (some Bool.false))
    (some Bool.false))))))))))))))
theorem law12_awake_eq (K : Nat)  : (runFK Go.Proofs.Try.prog (env_law12_plain K) (lenv0) Go.Proofs.Try.f9 [] [.one (.bool)] law12_awake_dec []).den2 = law12_awake K  := by kernel_rfl
def law12_awake_w (K : Nat) : List U → Option (Bool) := fun us => match us with | [] => law12_awake K  | _ => none
def law12_awake_spec (K : Nat) : Vm.Spec := ⟨[], [.one (.bool)], Bool, law12_awake_w K, law12_awake_enc⟩
theorem law12_awake_ok (K : Nat) : FnOk Go.Proofs.Try.prog 9 (law12_awake_spec K) := fn_okK' hmix (env_law12_plain_ok K) (lenv := lenv0) (args := []) (res := [.one (.bool)]) (G := law12_awake_w K) (enc := law12_awake_enc) Go.Proofs.Try.func9 (lps_fn (l := []) (by kernel_rfl) trivial) (dec := law12_awake_dec) (fun u r h => by unfold law12_awake_dec at h; split at h; (obtain rfl := Option.some.inj h; rfl); cases h) (fun us r h => by unfold law12_awake_w at h; split at h; exact ((den2_eq _).symm.trans (law12_awake_eq K)).trans h; cases h)
def env_law12_awake (K : Nat) : FuncId → Option Vm.Spec := addS (env_law12_plain K) 9 (law12_awake_spec K)
theorem env_law12_awake_ok (K : Nat) : EnvOk Go.Proofs.Try.prog (env_law12_awake K) := addS_ok (env_law12_plain_ok K) (.inl ⟨callable Go.Proofs.Try.func9 (by kernel_rfl) (by kernel_rfl), law12_awake_ok K⟩)
-- passbook/passbooklaw12.ProdHolds
def law12_ProdHolds_l6_pre : Vm.Pat := ⟨73, [(1, .pv (.one (.int .u16))), (6, .pv (.one (.int .i64))), (7, .pv (.one (.int .i64))), (15, .pv (.one (.row .u16 false))), (16, .pv (.one (.int .i64))), (17, .pv (.one (.int .i64))), (5, .box 0 0)], [.cells [.grow [.int .i64, .int .i64, .int .i64, .int .i64, .int .i64, .int .i64, .int .i64, .int .i64, .sl [.int .i64, .int .i64]], .map [.i64, .i64] [.i64]]], []⟩
def law12_ProdHolds_l6_post0 : Vm.Pat := ⟨73, [(1, .pv (.one (.int .u16))), (6, .pv (.one (.int .i64))), (5, .box 0 0)], [.cells [.grow [.int .i64, .int .i64, .int .i64, .int .i64, .int .i64, .int .i64, .int .i64, .int .i64, .sl [.int .i64, .int .i64]], .map [.i64, .i64] [.i64]]], []⟩
def law12_ProdHolds_l6_enc0 : Int × Int × List (List D) × List (List Int × List Int) → List U := fun r => [.i r.1, .i r.2.1, .d r.2.2.1, .m r.2.2.2]
def law12_ProdHolds_l6_dec0 : List U → Option (Int × Int × List (List D) × List (List Int × List Int)) := fun u => match u with | [.i x1, .i x6, .d dd5_0, .m m5_1] => some (x1, x6, dd5_0, m5_1) | _ => none
def law12_ProdHolds_l6_post1 : Vm.Pat := ⟨73, [(4, .pv (.one (.bool)))], [], []⟩
def law12_ProdHolds_l6_enc1 : Bool → List U := fun r => [.b r]
def law12_ProdHolds_l6_dec1 : List U → Option (Bool) := fun u => match u with | [.b c4] => some (c4) | _ => none
def law12_ProdHolds_l6 (K : Nat) : Nat → Int → Int → Int → List Int → Int → Int → List (List D) → List (List Int × List Int) → Option ((Int × Int × List (List D) × List (List Int × List Int)) ⊕ (Bool))
  | 0, _, _, _, _, _, _, _, _ => none
  | k + 1, x1, x6, x7, l15, x16, x17, dd5_0, m5_1 => (bi (Decidable.decide (x17 < x16))
    (bi (Decidable.decide (0 ≤ x17) && Decidable.decide (x17 < (↑l15.length : Int)))
    (bi (Decidable.decide (x17 ≥ 60))
    (some (Sum.inl (x1, x6, dd5_0, m5_1)))
    ((law12_plain K 3
  (Go.IntKind.i64.wrap
    (x7 + Go.IntKind.i64.wrap (1 + Go.IntKind.i64.wrap ((nth 0 l15 x17.toNat).tmod 100))))).bind fun r0 => ((_prod_Catalogue_Add K dd5_0 m5_1 r0.fst r0.snd.fst r0.snd.snd.fst r0.snd.snd.snd.fst
  r0.snd.snd.snd.snd.fst r0.snd.snd.snd.snd.snd.fst r0.snd.snd.snd.snd.snd.snd.fst r0.snd.snd.snd.snd.snd.snd.snd.fst
  r0.snd.snd.snd.snd.snd.snd.snd.snd).bind fun r1 => (bi (r1.fst != 0)
    (some (Sum.inr Bool.false))
    (bi (Decidable.decide
  (Go.IntKind.i64.wrap
      (x7 +
        Go.IntKind.i64.wrap (1 + Go.IntKind.i64.wrap ((nth 0 l15 x17.toNat).tmod 100))) ≤
    Go.IntKind.i64.wrap (1 + Go.IntKind.i64.wrap x1)))
    (law12_ProdHolds_l6 K k (x1) (Go.IntKind.i64.wrap
  (x7 + Go.IntKind.i64.wrap (1 + Go.IntKind.i64.wrap ((nth 0 l15 x17.toNat).tmod 100)))) (Go.IntKind.i64.wrap
  (x7 + Go.IntKind.i64.wrap (1 + Go.IntKind.i64.wrap ((nth 0 l15 x17.toNat).tmod 100)))) (l15) (x16) (Go.IntKind.i64.wrap (x17 + 1)) (r1.snd.fst) (r1.snd.snd))
    (law12_ProdHolds_l6 K k (x1) (x6) (Go.IntKind.i64.wrap
  (x7 + Go.IntKind.i64.wrap (1 + Go.IntKind.i64.wrap ((nth 0 l15 x17.toNat).tmod 100)))) (l15) (x16) (Go.IntKind.i64.wrap (x17 + 1)) (r1.snd.fst) (r1.snd.snd)))))))
    none)
    (some (Sum.inl (x1, x6, dd5_0, m5_1))))
def law12_ProdHolds_l6_w (K k : Nat) : List U → Option ((Int × Int × List (List D) × List (List Int × List Int)) ⊕ (Bool)) := fun us => match us with | [.i x1, .i x6, .i x7, .r l15, .i x16, .i x17, .d dd5_0, .m m5_1] => law12_ProdHolds_l6 K k x1 x6 x7 l15 x16 x17 dd5_0 m5_1 | _ => none
theorem law12_ProdHolds_l6_eq (K k : Nat) (x1 : Int) (x6 : Int) (x7 : Int) (l15 : List Int) (x16 : Int) (x17 : Int) (dd5_0 : List (List D)) (m5_1 : List (List Int × List Int)) : (round2K Go.Proofs.Try.prog (env_law12_awake K) (lenv0) (lp (bodyOf Go.Proofs.Try.f4) 0) law12_ProdHolds_l6_pre (.exit 0) law12_ProdHolds_l6_post0 .ret law12_ProdHolds_l6_post1 law12_ProdHolds_l6_dec0 law12_ProdHolds_l6_dec1 (law12_ProdHolds_l6_w K k) [.i x1, .i x6, .i x7, .r l15, .i x16, .i x17, .d dd5_0, .m m5_1]).den2 = law12_ProdHolds_l6 K (k + 1) x1 x6 x7 l15 x16 x17 dd5_0 m5_1 := by kernel_rfl
def law12_ProdHolds_l6_s (K : Nat) : Vm.LS := .two law12_ProdHolds_l6_pre _ _ (.exit 0) law12_ProdHolds_l6_post0 .ret law12_ProdHolds_l6_post1 (law12_ProdHolds_l6_w K K) law12_ProdHolds_l6_enc0 law12_ProdHolds_l6_enc1
theorem law12_ProdHolds_l6_ok (K : Nat) : LoopOk Go.Proofs.Try.prog (lp (bodyOf Go.Proofs.Try.f4) 0) (law12_ProdHolds_l6_s K) := loop_twoK hmix (env_law12_awake_ok K) (lenv := lenv0) (L := law12_ProdHolds_l6_w K) (enc := law12_ProdHolds_l6_enc0) (dec := law12_ProdHolds_l6_dec0) (enc' := law12_ProdHolds_l6_enc1) (dec' := law12_ProdHolds_l6_dec1) (lps_ok (l := []) (by kernel_rfl) trivial) (fun u r h => by unfold law12_ProdHolds_l6_dec0 at h; split at h; (obtain rfl := Option.some.inj h; rfl); cases h) (fun u r h => by unfold law12_ProdHolds_l6_dec1 at h; split at h; (obtain rfl := Option.some.inj h; rfl); cases h) (fun us => by unfold law12_ProdHolds_l6_w; split <;> first | rfl | (simp only [law12_ProdHolds_l6])) (fun k us r h => by unfold law12_ProdHolds_l6_w at h; split at h; exact ((den2_eq _).symm.trans (law12_ProdHolds_l6_eq K k _ _ _ _ _ _ _ _)).trans h; cases h) K
def law12_ProdHolds_v6 (K : Nat) : Nat → Option Vm.LS := addL (lenv0) 6 (law12_ProdHolds_l6_s K)
def law12_ProdHolds_dec : List U → Option (Bool) := fun u => match u with | [.b c0] => some (c0) | _ => none
def law12_ProdHolds_enc : (Bool) → List U := fun r => [.b r]
def law12_ProdHolds (K : Nat) (l0 : List Int) (x1 : Int) : Option (Bool) := ((law12_awake K).bind fun r0 => (bi (!r0)
    (some Bool.false)
    ((prod_New K).bind fun r1 => (casO (law12_ProdHolds_l6 K K x1 0 0 l0 (↑l0.length : Int) 0 r1.fst r1.snd) (fun r2 => ((_prod_Catalogue_At K r2.snd.snd.fst r2.snd.snd.snd 3
  (Go.IntKind.i64.wrap (1 + Go.IntKind.i64.wrap r2.fst))).bind fun r3 => (bi (r2.snd.fst == 0)
    (bi (r3.snd.fst == 7)
    (bi (nth 0 r3.fst.fst 0 == 0)
    (some ((↑r3.fst.snd.length : Int) == 0))
    (some Bool.false))
    (some Bool.false))
    (bi (r3.snd.fst == 0)
    (some (nth 0 r3.fst.fst 3 == r2.snd.fst))
    (some Bool.false))))) (fun r4 => (some r4))))))
theorem law12_ProdHolds_eq (K : Nat) (l0 : List Int) (x1 : Int) : (runFK Go.Proofs.Try.prog (env_law12_awake K) (law12_ProdHolds_v6 K) Go.Proofs.Try.f4 [.one (.row .u16 false), .one (.int .u16)] [.one (.bool)] law12_ProdHolds_dec [.r l0, .i x1]).den2 = law12_ProdHolds K l0 x1 := by kernel_rfl
def law12_ProdHolds_w (K : Nat) : List U → Option (Bool) := fun us => match us with | [.r l0, .i x1] => law12_ProdHolds K l0 x1 | _ => none
def law12_ProdHolds_spec (K : Nat) : Vm.Spec := ⟨[.one (.row .u16 false), .one (.int .u16)], [.one (.bool)], Bool, law12_ProdHolds_w K, law12_ProdHolds_enc⟩
theorem law12_ProdHolds_ok (K : Nat) : FnOk Go.Proofs.Try.prog 4 (law12_ProdHolds_spec K) := fn_okK' hmix (env_law12_awake_ok K) (lenv := law12_ProdHolds_v6 K) (args := [.one (.row .u16 false), .one (.int .u16)]) (res := [.one (.bool)]) (G := law12_ProdHolds_w K) (enc := law12_ProdHolds_enc) Go.Proofs.Try.func4 (lps_fn (l := [lp (bodyOf Go.Proofs.Try.f4) 0]) (by kernel_rfl) ⟨⟨6, law12_ProdHolds_l6_s K, by kernel_rfl, by kernel_rfl, law12_ProdHolds_l6_ok K⟩, trivial⟩) (dec := law12_ProdHolds_dec) (fun u r h => by unfold law12_ProdHolds_dec at h; split at h; (obtain rfl := Option.some.inj h; rfl); cases h) (fun us r h => by unfold law12_ProdHolds_w at h; split at h; exact ((den2_eq _).symm.trans (law12_ProdHolds_eq K _ _)).trans h; cases h)
def env_law12_ProdHolds (K : Nat) : FuncId → Option Vm.Spec := addS (env_law12_awake K) 4 (law12_ProdHolds_spec K)
theorem env_law12_ProdHolds_ok (K : Nat) : EnvOk Go.Proofs.Try.prog (env_law12_ProdHolds K) := addS_ok (env_law12_awake_ok K) (.inl ⟨callable Go.Proofs.Try.func4 (by kernel_rfl) (by kernel_rfl), law12_ProdHolds_ok K⟩)
end
end Go.Proofs.Ytmmaechogibodaa.F
