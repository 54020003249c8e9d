import Derived.Test.YtmmaechogibodaaVmY
import Derived.Test.YtmmaechogibodaaVmRc
import Derived.Test.YtmmaechogibodaaVmCl
import Derived.Test.YtmmaechogibodaaProg
import Derived.Test.YtmmaechogibodaaVmRg
import Derived.Test.YtmmaechogibodaaFA
import Derived.Test.YtmmaechogibodaaFB
import Derived.Test.YtmmaechogibodaaFV
import Derived.Test.YtmmaechogibodaaFC
import Derived.Test.YtmmaechogibodaaFD
import Derived.Test.YtmmaechogibodaaFO
import Derived.Test.YtmmaechogibodaaFP
import Derived.Test.YtmmaechogibodaaFS
namespace Go.Proofs.Ytmmaechogibodaa.F
open Go Go.Proofs.Ytmmaechogibodaa.Vm
set_option maxRecDepth 1000000
set_option linter.unusedVariables false
set_option linter.unusedSimpArgs false
noncomputable section
-- passbook/passbooklaw12.ProdApart
def law12_ProdApart_l7_pre : Vm.Pat := ⟨76, [(1, .pv (.one (.int .u16))), (19, .pv (.one (.ro [.int .i64, .int .i64, .int .i64, .int .i64, .int .i64, .int .i64, .int .i64, .int .i64, .sl [.int .i64, .int .i64]]))), (20, .pv (.one (.int .i64))), (21, .pv (.one (.int .i64))), (5, .box 0 0)], [.cells [.grow [.int .i64, .int .i64, .int .i64, .int .i64, .int .i64, .int .i64, .int .i64, .int .i64, .sl [.int .i64, .int .i64]], .map [.i64, .i64] [.i64]]], []⟩
def law12_ProdApart_l7_post0 : Vm.Pat := ⟨76, [(1, .pv (.one (.int .u16))), (5, .box 0 0)], [.cells [.grow [.int .i64, .int .i64, .int .i64, .int .i64, .int .i64, .int .i64, .int .i64, .int .i64, .sl [.int .i64, .int .i64]], .map [.i64, .i64] [.i64]]], []⟩
def law12_ProdApart_l7_enc0 : Int × List (List D) × List (List Int × List Int) → List U := fun r => [.i r.1, .d r.2.1, .m r.2.2]
def law12_ProdApart_l7_dec0 : List U → Option (Int × List (List D) × List (List Int × List Int)) := fun u => match u with | [.i x1, .d dd5_0, .m m5_1] => some (x1, dd5_0, m5_1) | _ => none
def law12_ProdApart_l7 (K : Nat) : Nat → Int → List (List D) → Int → Int → List (List D) → List (List Int × List Int) → Option (Int × List (List D) × List (List Int × List Int))
  | 0, _, _, _, _, _, _ => none
  | k + 1, x1, dd19, x20, x21, dd5_0, m5_1 => (bi (Decidable.decide (x21 < x20))
    (bi (Decidable.decide (0 ≤ x21) && Decidable.decide (x21 < (↑dd19.length : Int)))
    (bi (Decidable.decide (x21 < 60))
    (bi ((nth d0
      (nth [] dd19 x21.toNat) 0).toI !=
  1000000000)
    ((law12_of_ro K
  (nth d0
      (nth [] dd19 x21.toNat) 0).toI
  (nth d0
      (nth [] dd19 x21.toNat) 1).toI
  (nth d0
      (nth [] dd19 x21.toNat) 2).toI
  (nth d0
      (nth [] dd19 x21.toNat) 3).toI
  (nth d0
      (nth [] dd19 x21.toNat) 4).toI
  (nth d0
      (nth [] dd19 x21.toNat) 5).toI
  (nth d0
      (nth [] dd19 x21.toNat) 6).toI
  (nth d0
      (nth [] dd19 x21.toNat) 7).toI
  (D.l
      (nth d0
          (nth [] dd19 x21.toNat) 8).toL).toL).bind fun r0 => ((_prod_Catalogue_Add K dd5_0 m5_1 r0.fst r0.snd.fst r0.snd.snd.fst r0.snd.snd.snd.fst
  r0.snd.snd.snd.snd.fst r0.snd.snd.snd.snd.snd.fst r0.snd.snd.snd.snd.snd.snd.fst r0.snd.snd.snd.snd.snd.snd.snd.fst
  r0.snd.snd.snd.snd.snd.snd.snd.snd).bind fun r1 => (law12_ProdApart_l7 K k (x1) ((D.l dd19).toL) (x20) (Go.IntKind.i64.wrap (x21 + 1)) (r1.snd.fst) (r1.snd.snd))))
    (law12_ProdApart_l7 K k (x1) ((D.l dd19).toL) (x20) (Go.IntKind.i64.wrap (x21 + 1)) (dd5_0) (m5_1)))
    (law12_ProdApart_l7 K k (x1) ((D.l dd19).toL) (x20) (Go.IntKind.i64.wrap (x21 + 1)) (dd5_0) (m5_1)))
    none)
    (some ((x1, dd5_0, m5_1))))
def law12_ProdApart_l7_w (K k : Nat) : List U → Option (Int × List (List D) × List (List Int × List Int)) := fun us => match us with | [.i x1, .d dd19, .i x20, .i x21, .d dd5_0, .m m5_1] => law12_ProdApart_l7 K k x1 dd19 x20 x21 dd5_0 m5_1 | _ => none
theorem law12_ProdApart_l7_eq (K k : Nat) (x1 : Int) (dd19 : List (List D)) (x20 : Int) (x21 : Int) (dd5_0 : List (List D)) (m5_1 : List (List Int × List Int)) : (round1K Go.Proofs.Try.prog (env_law12_of_ro K) (lenv0) (lp (bodyOf Go.Proofs.Try.f5) 0) law12_ProdApart_l7_pre (.exit 0) law12_ProdApart_l7_post0 law12_ProdApart_l7_dec0 (law12_ProdApart_l7_w K k) [.i x1, .d dd19, .i x20, .i x21, .d dd5_0, .m m5_1]).den2 = law12_ProdApart_l7 K (k + 1) x1 dd19 x20 x21 dd5_0 m5_1 := by kernel_rfl
def law12_ProdApart_l7_s (K : Nat) : Vm.LS := .one law12_ProdApart_l7_pre _ (.exit 0) law12_ProdApart_l7_post0 (law12_ProdApart_l7_w K K) law12_ProdApart_l7_enc0
theorem law12_ProdApart_l7_ok (K : Nat) : LoopOk Go.Proofs.Try.prog (lp (bodyOf Go.Proofs.Try.f5) 0) (law12_ProdApart_l7_s K) := loop_oneK hmix (env_law12_of_ro_ok K) (lenv := lenv0) (L := law12_ProdApart_l7_w K) (enc := law12_ProdApart_l7_enc0) (dec := law12_ProdApart_l7_dec0) (lps_ok (l := []) (by kernel_rfl) trivial) (fun u r h => by unfold law12_ProdApart_l7_dec0 at h; split at h; (obtain rfl := Option.some.inj h; rfl); cases h) (fun us => by unfold law12_ProdApart_l7_w; split <;> first | rfl | (simp only [law12_ProdApart_l7])) (fun k us r h => by unfold law12_ProdApart_l7_w at h; split at h; exact ((den2_eq _).symm.trans (law12_ProdApart_l7_eq K k _ _ _ _ _ _)).trans h; cases h) K
def law12_ProdApart_v7 (K : Nat) : Nat → Option Vm.LS := addL (lenv0) 7 (law12_ProdApart_l7_s K)
def law12_ProdApart_dec : List U → Option (Bool) := fun u => match u with | [.b c0] => some (c0) | _ => none
def law12_ProdApart_enc : (Bool) → List U := fun r => [.b r]
def law12_ProdApart (K : Nat) (dd0 : List (List D)) (x1 : Int) : Option (Bool) := ((law12_awake K).bind fun r0 => (bi (!r0)
    (some Bool.false)
    ((prod_New K).bind fun r1 => ((law12_plain K 1000000000 5).bind fun r2 => ((_prod_Catalogue_Add K r1.fst r1.snd r2.fst r2.snd.fst r2.snd.snd.fst r2.snd.snd.snd.fst
  r2.snd.snd.snd.snd.fst r2.snd.snd.snd.snd.snd.fst r2.snd.snd.snd.snd.snd.snd.fst r2.snd.snd.snd.snd.snd.snd.snd.fst
  r2.snd.snd.snd.snd.snd.snd.snd.snd).bind fun r3 => (bi (r3.fst != 0)
    (some Bool.false)
    ((law12_ProdApart_l7 K K x1 (D.l dd0).toL (↑dd0.length : Int) 0
  r3.snd.fst r3.snd.snd).bind fun r4 => ((_prod_Catalogue_At K r4.snd.fst r4.snd.snd 1000000000
  (Go.IntKind.i64.wrap (5 + Go.IntKind.i64.wrap r4.fst))).bind fun r5 => ((_prod_Catalogue_At K r5.snd.snd.fst r5.snd.snd.snd 1000000000 4).bind fun r6 => (bi (r5.snd.fst == 0)
    (bi (nth 0 r5.fst.fst 3 == 5)
    (bi ((↑r5.fst.snd.length : Int) == 1)
    (bi (Bool.true && Decidable.decide (0 < (↑r5.fst.snd.length : Int)))
    (bi (nth 0 (nth [] r5.fst.snd 0) 1 == 5)
    (some (r6.snd.fst == 7))
    (some Bool.false))
    none)
    (some Bool.false))
    (some Bool.false))
    (some Bool.false)))))))))))
theorem law12_ProdApart_eq (K : Nat) (dd0 : List (List D)) (x1 : Int) : (runFK Go.Proofs.Try.prog (env_law12_of_ro K) (law12_ProdApart_v7 K) Go.Proofs.Try.f5 [.one (.ro [.int .i64, .int .i64, .int .i64, .int .i64, .int .i64, .int .i64, .int .i64, .int .i64, .sl [.int .i64, .int .i64]]), .one (.int .u16)] [.one (.bool)] law12_ProdApart_dec [.d dd0, .i x1]).den2 = law12_ProdApart K dd0 x1 := by kernel_rfl
def law12_ProdApart_w (K : Nat) : List U → Option (Bool) := fun us => match us with | [.d dd0, .i x1] => law12_ProdApart K dd0 x1 | _ => none
def law12_ProdApart_spec (K : Nat) : Vm.Spec := ⟨[.one (.ro [.int .i64, .int .i64, .int .i64, .int .i64, .int .i64, .int .i64, .int .i64, .int .i64, .sl [.int .i64, .int .i64]]), .one (.int .u16)], [.one (.bool)], Bool, law12_ProdApart_w K, law12_ProdApart_enc⟩
theorem law12_ProdApart_ok (K : Nat) : FnOk Go.Proofs.Try.prog 5 (law12_ProdApart_spec K) := fn_okK' hmix (env_law12_of_ro_ok K) (lenv := law12_ProdApart_v7 K) (args := [.one (.ro [.int .i64, .int .i64, .int .i64, .int .i64, .int .i64, .int .i64, .int .i64, .int .i64, .sl [.int .i64, .int .i64]]), .one (.int .u16)]) (res := [.one (.bool)]) (G := law12_ProdApart_w K) (enc := law12_ProdApart_enc) Go.Proofs.Try.func5 (lps_fn (l := [lp (bodyOf Go.Proofs.Try.f5) 0]) (by kernel_rfl) ⟨⟨7, law12_ProdApart_l7_s K, by kernel_rfl, by kernel_rfl, law12_ProdApart_l7_ok K⟩, trivial⟩) (dec := law12_ProdApart_dec) (fun u r h => by unfold law12_ProdApart_dec at h; split at h; (obtain rfl := Option.some.inj h; rfl); cases h) (fun us r h => by unfold law12_ProdApart_w at h; split at h; exact ((den2_eq _).symm.trans (law12_ProdApart_eq K _ _)).trans h; cases h)
def env_law12_ProdApart (K : Nat) : FuncId → Option Vm.Spec := addS (env_law12_of_ro K) 5 (law12_ProdApart_spec K)
theorem env_law12_ProdApart_ok (K : Nat) : EnvOk Go.Proofs.Try.prog (env_law12_ProdApart K) := addS_ok (env_law12_of_ro_ok K) (.inl ⟨callable Go.Proofs.Try.func5 (by kernel_rfl) (by kernel_rfl), law12_ProdApart_ok K⟩)
end
end Go.Proofs.Ytmmaechogibodaa.F
