import Derived.Test.YtmlohnfghomghaaDoorVmY
import Derived.Test.YtmlohnfghomghaaDoorVmRc
import Derived.Test.YtmlohnfghomghaaDoorProg
import Derived.Test.YtmlohnfghomghaaDoorFW
namespace Go.Proofs.YtmlohnfghomghaaDoor.F
open Go Go.Proofs.YtmlohnfghomghaaDoor.Vm
set_option maxRecDepth 1000000
set_option linter.unusedVariables false
-- passbook/passbookref02.Write
def ref02_Write_l13_pre : Vm.Pat := ⟨73, [(5, .pv (.one (.row .u8 true))), (10, .pv (.one (.str))), (11, .pv (.one (.int .i64))), (1, .box 0 0)], [.cells [.int .i64, .int .u64, .int .i64]], []⟩
def ref02_Write_l13_post0 : Vm.Pat := ⟨73, [(10, .pv (.one (.str)))], [], []⟩
def ref02_Write_l13_enc0 : ByteArray → List U := fun r => [.s r]
def ref02_Write_l13_dec0 : List U → Option (ByteArray) := fun u => match u with | [.s s10] => some (s10) | _ => none
def ref02_Write_l13 (K : Nat) : Nat → List Int → ByteArray → Int → Int → Int → Int → Option (ByteArray)
  | 0, _, _, _, _, _, _ => none
  | k + 1, l5, s10, x11, x1_0, x1_1, x1_2 => (bi (Decidable.decide (x11 ≥ 0))
    (bi (Decidable.decide (0 ≤ x11) && Decidable.decide (x11 ≤ Go.IntKind.i64.wrap (x11 + 1)) &&
  Decidable.decide (Go.IntKind.i64.wrap (x11 + 1) ≤ (↑l5.length : Int)))
    (bi (Decidable.decide
  ((↑(s10.size +
          (strOf
              (List.take ((Go.IntKind.i64.wrap (x11 + 1)).toNat - x11.toNat) (List.drop x11.toNat l5))).size) :
      Int) >
    9223372036854775807))
    none
    (bi (x11 == x1_2)
    (bi (Decidable.decide (x11 > 0))
    (bi (Decidable.decide
  ((↑((s10 ++
              strOf
                (List.take ((Go.IntKind.i64.wrap (x11 + 1)).toNat - x11.toNat) (List.drop x11.toNat l5))).size +
          1) :
      Int) >
    9223372036854775807))
    none
    (ref02_Write_l13 K k (l5) (s10 ++
    strOf
      (List.take ((Go.IntKind.i64.wrap (x11 + 1)).toNat - x11.toNat) (List.drop x11.toNat l5)) ++
  { data := #[46] }) (Go.IntKind.i64.wrap (x11 - 1)) (x1_0) (x1_1) (x1_2)))
    (ref02_Write_l13 K k (l5) (s10 ++
  strOf
    (List.take ((Go.IntKind.i64.wrap (x11 + 1)).toNat - x11.toNat) (List.drop x11.toNat l5))) (Go.IntKind.i64.wrap (x11 - 1)) (x1_0) (x1_1) (x1_2)))
    (ref02_Write_l13 K k (l5) (s10 ++
  strOf
    (List.take ((Go.IntKind.i64.wrap (x11 + 1)).toNat - x11.toNat) (List.drop x11.toNat l5))) (Go.IntKind.i64.wrap (x11 - 1)) (x1_0) (x1_1) (x1_2))))
    none)
    (some s10))
def ref02_Write_l13_w (K k : Nat) : List U → Option (ByteArray) := fun us => match us with | [.r l5, .s s10, .i x11, .i x1_0, .i x1_1, .i x1_2] => ref02_Write_l13 K k l5 s10 x11 x1_0 x1_1 x1_2 | _ => none
theorem ref02_Write_l13_eq (K k : Nat) (l5 : List Int) (s10 : ByteArray) (x11 : Int) (x1_0 : Int) (x1_1 : Int) (x1_2 : Int) : (round1 Go.Proofs.Tryd.prog (env_digits_Parse K) (lenv0) (lp (bodyOf Go.Proofs.Tryd.f16) 1) ref02_Write_l13_pre (.exit 2) ref02_Write_l13_post0 ref02_Write_l13_dec0 (ref02_Write_l13_w K k) [.r l5, .s s10, .i x11, .i x1_0, .i x1_1, .i x1_2]).den2 = ref02_Write_l13 K (k + 1) l5 s10 x11 x1_0 x1_1 x1_2 := by kernel_rfl
def ref02_Write_l13_s (K : Nat) : Vm.LS := .one ref02_Write_l13_pre _ (.exit 2) ref02_Write_l13_post0 (ref02_Write_l13_w K K) ref02_Write_l13_enc0
theorem ref02_Write_l13_ok (K : Nat) : LoopOk Go.Proofs.Tryd.prog (lp (bodyOf Go.Proofs.Tryd.f16) 1) (ref02_Write_l13_s K) := loop_one hmix (env_digits_Parse_ok K) (lenv := lenv0) (L := ref02_Write_l13_w K) (enc := ref02_Write_l13_enc0) (dec := ref02_Write_l13_dec0) (lps_ok (l := []) (by kernel_rfl) trivial) (fun u r h => by unfold ref02_Write_l13_dec0 at h; split at h; (obtain rfl := Option.some.inj h; rfl); cases h) (fun us => by unfold ref02_Write_l13_w; split <;> first | rfl | (simp only [ref02_Write_l13])) (fun k us r h => by unfold ref02_Write_l13_w at h; split at h; exact ((den2_eq _).symm.trans (ref02_Write_l13_eq K k _ _ _ _ _ _)).trans h; cases h) K
def ref02_Write_v13 (K : Nat) : Nat → Option Vm.LS := addL (lenv0) 13 (ref02_Write_l13_s K)
def ref02_Write_l4_pre : Vm.Pat := ⟨73, [(4, .pv (.one (.row .u64 false))), (5, .pv (.one (.row .u8 true))), (1, .box 0 0), (3, .box 1 0)], [.cells [.int .i64, .int .u64, .int .i64], .cells [.bool, .row .u64 false]], []⟩
def ref02_Write_l4_post0 : Vm.Pat := ⟨73, [(5, .pv (.one (.row .u8 true))), (1, .box 0 0), (3, .box 1 0)], [.cells [.int .i64, .int .u64, .int .i64], .cells [.bool, .row .u64 false]], []⟩
def ref02_Write_l4_enc0 : List Int × Int × Int × Int × Bool × List Int → List U := fun r => [.r r.1, .i r.2.1, .i r.2.2.1, .i r.2.2.2.1, .b r.2.2.2.2.1, .r r.2.2.2.2.2]
def ref02_Write_l4_dec0 : List U → Option (List Int × Int × Int × Int × Bool × List Int) := fun u => match u with | [.r l5, .i x1_0, .i x1_1, .i x1_2, .b c3_0, .r l3_1] => some (l5, x1_0, x1_1, x1_2, c3_0, l3_1) | _ => none
def ref02_Write_l4 (K : Nat) : Nat → List Int → List Int → Int → Int → Int → Bool → List Int → Option (List Int × Int × Int × Int × Bool × List Int)
  | 0, _, _, _, _, _, _, _ => none
  | k + 1, l4, l5, x1_0, x1_1, x1_2, c3_0, l3_1 => (bi (Decidable.decide ((↑l4.length : Int) > 0))
    ((ref01_Word K 10).bind fun r0 => ((ref01_Quo K l4 r0).bind fun r1 => ((ref01_Fits K r1.snd).bind fun r2 => (bi (Decidable.decide (l5.length + 1 ≤ 8796093022208))
    (ref02_Write_l4 K k (r1.fst) (l5 ++ [Go.IntKind.u8.wrap (Go.IntKind.u64.wrap (48 + r2.fst))]) (x1_0) (x1_1) (x1_2) (c3_0) (l3_1))
    none))))
    (bi (Decidable.decide ((↑l5.length : Int) ≤ x1_2))
    ((ref01_Word K 10).bind fun r3 => ((ref01_Quo K l4 r3).bind fun r4 => ((ref01_Fits K r4.snd).bind fun r5 => (bi (Decidable.decide (l5.length + 1 ≤ 8796093022208))
    (ref02_Write_l4 K k (r4.fst) (l5 ++ [Go.IntKind.u8.wrap (Go.IntKind.u64.wrap (48 + r5.fst))]) (x1_0) (x1_1) (x1_2) (c3_0) (l3_1))
    none))))
    (some ((l5, x1_0, x1_1, x1_2, c3_0, l3_1)))))
def ref02_Write_l4_w (K k : Nat) : List U → Option (List Int × Int × Int × Int × Bool × List Int) := fun us => match us with | [.r l4, .r l5, .i x1_0, .i x1_1, .i x1_2, .b c3_0, .r l3_1] => ref02_Write_l4 K k l4 l5 x1_0 x1_1 x1_2 c3_0 l3_1 | _ => none
theorem ref02_Write_l4_eq (K k : Nat) (l4 : List Int) (l5 : List Int) (x1_0 : Int) (x1_1 : Int) (x1_2 : Int) (c3_0 : Bool) (l3_1 : List Int) : (round1 Go.Proofs.Tryd.prog (env_digits_Parse K) (ref02_Write_v13 K) (lp (bodyOf Go.Proofs.Tryd.f16) 0) ref02_Write_l4_pre (.exit 0) ref02_Write_l4_post0 ref02_Write_l4_dec0 (ref02_Write_l4_w K k) [.r l4, .r l5, .i x1_0, .i x1_1, .i x1_2, .b c3_0, .r l3_1]).den2 = ref02_Write_l4 K (k + 1) l4 l5 x1_0 x1_1 x1_2 c3_0 l3_1 := by kernel_rfl
def ref02_Write_l4_s (K : Nat) : Vm.LS := .one ref02_Write_l4_pre _ (.exit 0) ref02_Write_l4_post0 (ref02_Write_l4_w K K) ref02_Write_l4_enc0
theorem ref02_Write_l4_ok (K : Nat) : LoopOk Go.Proofs.Tryd.prog (lp (bodyOf Go.Proofs.Tryd.f16) 0) (ref02_Write_l4_s K) := loop_one hmix (env_digits_Parse_ok K) (lenv := ref02_Write_v13 K) (L := ref02_Write_l4_w K) (enc := ref02_Write_l4_enc0) (dec := ref02_Write_l4_dec0) (lps_ok (l := []) (by kernel_rfl) trivial) (fun u r h => by unfold ref02_Write_l4_dec0 at h; split at h; (obtain rfl := Option.some.inj h; rfl); cases h) (fun us => by unfold ref02_Write_l4_w; split <;> first | rfl | (simp only [ref02_Write_l4])) (fun k us r h => by unfold ref02_Write_l4_w at h; split at h; exact ((den2_eq _).symm.trans (ref02_Write_l4_eq K k _ _ _ _ _ _ _)).trans h; cases h) K
def ref02_Write_v4 (K : Nat) : Nat → Option Vm.LS := addL (ref02_Write_v13 K) 4 (ref02_Write_l4_s K)
def ref02_Write_dec : List U → Option (ByteArray) := fun u => match u with | [.s s0] => some (s0) | _ => none
def ref02_Write_enc : (ByteArray) → List U := fun r => [.s r]
def ref02_Write (K : Nat) (x0_0 : Int) (x0_1 : Int) (x0_2 : Int) : Option (ByteArray) := ((ref01_Coef K x0_0 x0_1 x0_2).bind fun r0 => ((ref02_Write_l4 K K r0.snd [] x0_0 x0_1 x0_2 r0.fst r0.snd).bind fun r1 => ((ref01_Sign K r1.snd.snd.snd.snd.fst r1.snd.snd.snd.snd.snd).bind fun r2 => (bi (Decidable.decide (r2 < 0))
    ((ref02_Write_l13 K K r1.fst { data := #[45] }
  (Go.IntKind.i64.wrap ((↑r1.fst.length : Int) - 1)) r1.snd.fst r1.snd.snd.fst r1.snd.snd.snd.fst).bind fun r3 => (some r3))
    ((ref02_Write_l13 K K r1.fst { data := #[] }
  (Go.IntKind.i64.wrap ((↑r1.fst.length : Int) - 1)) r1.snd.fst r1.snd.snd.fst r1.snd.snd.snd.fst).bind fun r4 => (some r4))))))
theorem ref02_Write_eq (K : Nat) (x0_0 : Int) (x0_1 : Int) (x0_2 : Int) : (runF Go.Proofs.Tryd.prog (env_digits_Parse K) (ref02_Write_v4 K) Go.Proofs.Tryd.f16 [.agg [.int .i64, .int .u64, .int .i64]] [.one (.str)] ref02_Write_dec [.i x0_0, .i x0_1, .i x0_2]).den2 = ref02_Write K x0_0 x0_1 x0_2 := by kernel_rfl
def ref02_Write_w (K : Nat) : List U → Option (ByteArray) := fun us => match us with | [.i x0_0, .i x0_1, .i x0_2] => ref02_Write K x0_0 x0_1 x0_2 | _ => none
def ref02_Write_spec (K : Nat) : Vm.Spec := ⟨[.agg [.int .i64, .int .u64, .int .i64]], [.one (.str)], ByteArray, ref02_Write_w K, ref02_Write_enc⟩
theorem ref02_Write_ok (K : Nat) : FnOk Go.Proofs.Tryd.prog 16 (ref02_Write_spec K) := fn_ok' hmix (env_digits_Parse_ok K) (lenv := ref02_Write_v4 K) (args := [.agg [.int .i64, .int .u64, .int .i64]]) (res := [.one (.str)]) (G := ref02_Write_w K) (enc := ref02_Write_enc) Go.Proofs.Tryd.func16 (lps_fn (l := [lp (bodyOf Go.Proofs.Tryd.f16) 0, lp (bodyOf Go.Proofs.Tryd.f16) 1]) (by kernel_rfl) ⟨⟨4, ref02_Write_l4_s K, by kernel_rfl, by kernel_rfl, ref02_Write_l4_ok K⟩, ⟨⟨13, ref02_Write_l13_s K, by kernel_rfl, by kernel_rfl, ref02_Write_l13_ok K⟩, trivial⟩⟩) (dec := ref02_Write_dec) (fun u r h => by unfold ref02_Write_dec at h; split at h; (obtain rfl := Option.some.inj h; rfl); cases h) (fun us r h => by unfold ref02_Write_w at h; split at h; exact ((den2_eq _).symm.trans (ref02_Write_eq K _ _ _)).trans h; cases h)
def env_ref02_Write (K : Nat) : FuncId → Option Vm.Spec := addS (env_digits_Parse K) 16 (ref02_Write_spec K)
theorem env_ref02_Write_ok (K : Nat) : EnvOk Go.Proofs.Tryd.prog (env_ref02_Write K) := addS_ok (env_digits_Parse_ok K) (.inl ⟨callable Go.Proofs.Tryd.func16 (by kernel_rfl) (by kernel_rfl), ref02_Write_ok K⟩)
-- passbook/passbookref02.DocWrite
def ref02_DocWrite_dec : List U → Option (ByteArray × Int) := fun u => match u with | [.s s0, .i x1] => some (s0, x1) | _ => none
def ref02_DocWrite_enc : (ByteArray × Int) → List U := fun r => [.s r.1, .i r.2]
def ref02_DocWrite (K : Nat) (x0_0 : Int) (x0_1 : Int) (x0_2 : Int) : Option (ByteArray × Int) := ((ref01_Form K x0_0 x0_1 x0_2).bind fun r0 => (bi (!r0)
    (some (({ data := #[] }, 3)))
    ((ref02_Write K x0_0 x0_1 x0_2).bind fun r1 => (some ((r1, 0))))))
theorem ref02_DocWrite_eq (K : Nat) (x0_0 : Int) (x0_1 : Int) (x0_2 : Int) : (runF Go.Proofs.Tryd.prog (env_ref02_Write K) (lenv0) Go.Proofs.Tryd.f9 [.agg [.int .i64, .int .u64, .int .i64]] [.one (.str), .one (.int .i64)] ref02_DocWrite_dec [.i x0_0, .i x0_1, .i x0_2]).den2 = ref02_DocWrite K x0_0 x0_1 x0_2 := by kernel_rfl
def ref02_DocWrite_w (K : Nat) : List U → Option (ByteArray × Int) := fun us => match us with | [.i x0_0, .i x0_1, .i x0_2] => ref02_DocWrite K x0_0 x0_1 x0_2 | _ => none
def ref02_DocWrite_spec (K : Nat) : Vm.Spec := ⟨[.agg [.int .i64, .int .u64, .int .i64]], [.one (.str), .one (.int .i64)], ByteArray × Int, ref02_DocWrite_w K, ref02_DocWrite_enc⟩
theorem ref02_DocWrite_ok (K : Nat) : FnOk Go.Proofs.Tryd.prog 9 (ref02_DocWrite_spec K) := fn_ok' hmix (env_ref02_Write_ok K) (lenv := lenv0) (args := [.agg [.int .i64, .int .u64, .int .i64]]) (res := [.one (.str), .one (.int .i64)]) (G := ref02_DocWrite_w K) (enc := ref02_DocWrite_enc) Go.Proofs.Tryd.func9 (lps_fn (l := []) (by kernel_rfl) trivial) (dec := ref02_DocWrite_dec) (fun u r h => by unfold ref02_DocWrite_dec at h; split at h; (obtain rfl := Option.some.inj h; rfl); cases h) (fun us r h => by unfold ref02_DocWrite_w at h; split at h; exact ((den2_eq _).symm.trans (ref02_DocWrite_eq K _ _ _)).trans h; cases h)
def env_ref02_DocWrite (K : Nat) : FuncId → Option Vm.Spec := addS (env_ref02_Write K) 9 (ref02_DocWrite_spec K)
theorem env_ref02_DocWrite_ok (K : Nat) : EnvOk Go.Proofs.Tryd.prog (env_ref02_DocWrite K) := addS_ok (env_ref02_Write_ok K) (.inl ⟨callable Go.Proofs.Tryd.func9 (by kernel_rfl) (by kernel_rfl), ref02_DocWrite_ok K⟩)
-- passbook/passbooklaw02.awake
def law02_awake_dec : List U → Option (Bool) := fun u => match u with | [.b c0] => some (c0) | _ => none
def law02_awake_enc : (Bool) → List U := fun r => [.b r]
def law02_awake (K : Nat)  : Option (Bool) := ((digits_Write K 0 5 2).bind fun r0 => ((digits_Parse K { data := #[49, 50, 46, 48] }).bind fun r1 => (bi (r0.snd == 0)
    (bi (sEq r0.fst { data := #[48, 46, 48, 53] })
    (bi (r1.snd.snd.snd.snd == 0)
    (bi (r1.snd.snd.snd.fst == 0)
    (some (r1.fst == 0 && (r1.snd.fst == 120 && (r1.snd.snd.fst == 1 && Bool.true))))
    (some Bool.false))
    (some Bool.false))
    (some Bool.false))
    (some Bool.false))))
theorem law02_awake_eq (K : Nat)  : (runF Go.Proofs.Tryd.prog (env_ref02_DocWrite K) (lenv0) Go.Proofs.Tryd.f7 [] [.one (.bool)] law02_awake_dec []).den2 = law02_awake K  := by kernel_rfl
def law02_awake_w (K : Nat) : List U → Option (Bool) := fun us => match us with | [] => law02_awake K  | _ => none
def law02_awake_spec (K : Nat) : Vm.Spec := ⟨[], [.one (.bool)], Bool, law02_awake_w K, law02_awake_enc⟩
theorem law02_awake_ok (K : Nat) : FnOk Go.Proofs.Tryd.prog 7 (law02_awake_spec K) := fn_ok' hmix (env_ref02_DocWrite_ok K) (lenv := lenv0) (args := []) (res := [.one (.bool)]) (G := law02_awake_w K) (enc := law02_awake_enc) Go.Proofs.Tryd.func7 (lps_fn (l := []) (by kernel_rfl) trivial) (dec := law02_awake_dec) (fun u r h => by unfold law02_awake_dec at h; split at h; (obtain rfl := Option.some.inj h; rfl); cases h) (fun us r h => by unfold law02_awake_w at h; split at h; exact ((den2_eq _).symm.trans (law02_awake_eq K)).trans h; cases h)
def env_law02_awake (K : Nat) : FuncId → Option Vm.Spec := addS (env_ref02_DocWrite K) 7 (law02_awake_spec K)
theorem env_law02_awake_ok (K : Nat) : EnvOk Go.Proofs.Tryd.prog (env_law02_awake K) := addS_ok (env_ref02_DocWrite_ok K) (.inl ⟨callable Go.Proofs.Tryd.func7 (by kernel_rfl) (by kernel_rfl), law02_awake_ok K⟩)
-- passbook/passbooklaw02.DigitsWrites
def law02_DigitsWrites_dec : List U → Option (Bool) := fun u => match u with | [.b c0] => some (c0) | _ => none
def law02_DigitsWrites_enc : (Bool) → List U := fun r => [.b r]
def law02_DigitsWrites (K : Nat) (x0_0 : Int) (x0_1 : Int) (x0_2 : Int) : Option (Bool) := ((law02_awake K).bind fun r0 => (bi (!r0)
    (some Bool.false)
    ((digits_Write K x0_0 x0_1 x0_2).bind fun r1 => ((ref02_DocWrite K x0_0 x0_1 x0_2).bind fun r2 => (bi (!sEq r1.fst r2.fst)
    (some Bool.false)
    (bi (r1.snd != r2.snd)
    (some Bool.false)
    (bi (r1.snd != 0)
    (some Bool.true)
    ((digits_Parse K r1.fst).bind fun r3 => (bi (r3.snd.snd.snd.snd == 0)
    (bi (r3.snd.snd.snd.fst == 0)
    (some (r3.fst == x0_0 && (r3.snd.fst == x0_1 && (r3.snd.snd.fst == x0_2 && Bool.true))))
    (some Bool.false))
    (some Bool.false))))))))))
theorem law02_DigitsWrites_eq (K : Nat) (x0_0 : Int) (x0_1 : Int) (x0_2 : Int) : (runF Go.Proofs.Tryd.prog (env_law02_awake K) (lenv0) Go.Proofs.Tryd.f3 [.agg [.int .i64, .int .u64, .int .i64]] [.one (.bool)] law02_DigitsWrites_dec [.i x0_0, .i x0_1, .i x0_2]).den2 = law02_DigitsWrites K x0_0 x0_1 x0_2 := by kernel_rfl
def law02_DigitsWrites_w (K : Nat) : List U → Option (Bool) := fun us => match us with | [.i x0_0, .i x0_1, .i x0_2] => law02_DigitsWrites K x0_0 x0_1 x0_2 | _ => none
def law02_DigitsWrites_spec (K : Nat) : Vm.Spec := ⟨[.agg [.int .i64, .int .u64, .int .i64]], [.one (.bool)], Bool, law02_DigitsWrites_w K, law02_DigitsWrites_enc⟩
theorem law02_DigitsWrites_ok (K : Nat) : FnOk Go.Proofs.Tryd.prog 3 (law02_DigitsWrites_spec K) := fn_ok' hmix (env_law02_awake_ok K) (lenv := lenv0) (args := [.agg [.int .i64, .int .u64, .int .i64]]) (res := [.one (.bool)]) (G := law02_DigitsWrites_w K) (enc := law02_DigitsWrites_enc) Go.Proofs.Tryd.func3 (lps_fn (l := []) (by kernel_rfl) trivial) (dec := law02_DigitsWrites_dec) (fun u r h => by unfold law02_DigitsWrites_dec at h; split at h; (obtain rfl := Option.some.inj h; rfl); cases h) (fun us r h => by unfold law02_DigitsWrites_w at h; split at h; exact ((den2_eq _).symm.trans (law02_DigitsWrites_eq K _ _ _)).trans h; cases h)
def env_law02_DigitsWrites (K : Nat) : FuncId → Option Vm.Spec := addS (env_law02_awake K) 3 (law02_DigitsWrites_spec K)
theorem env_law02_DigitsWrites_ok (K : Nat) : EnvOk Go.Proofs.Tryd.prog (env_law02_DigitsWrites K) := addS_ok (env_law02_awake_ok K) (.inl ⟨callable Go.Proofs.Tryd.func3 (by kernel_rfl) (by kernel_rfl), law02_DigitsWrites_ok K⟩)
-- passbook/passbooklaw02.DigitsLead
def law02_DigitsLead_dec : List U → Option (Bool) := fun u => match u with | [.b c0] => some (c0) | _ => none
def law02_DigitsLead_enc : (Bool) → List U := fun r => [.b r]
def law02_DigitsLead (K : Nat) (x0_0 : Int) (x0_1 : Int) (x0_2 : Int) : Option (Bool) := ((law02_awake K).bind fun r0 => (bi (!r0)
    (some Bool.false)
    ((digits_Write K x0_0 x0_1 x0_2).bind fun r1 => (bi (r1.snd != 0)
    (some (sEq r1.fst { data := #[] }))
    (bi (Decidable.decide ((↑(1 + r1.fst.size) : Int) > 9223372036854775807))
    none
    (bi (Bool.true && Decidable.decide (0 < (↑r1.fst.size : Int)))
    (bi (bt r1.fst 0 == 45)
    (bi (Bool.true && Decidable.decide (1 ≤ (↑r1.fst.size : Int)) &&
  Decidable.decide ((↑r1.fst.size : Int) ≤ (↑r1.fst.size : Int)))
    (bi (Decidable.decide ((↑(2 + (r1.fst.extract 1 (↑r1.fst.size : Int).toNat).size) : Int) > 9223372036854775807))
    none
    ((digits_Parse K ({ data := #[45, 48] } ++ r1.fst.extract 1 (↑r1.fst.size : Int).toNat)).bind fun r2 => (bi (r2.fst == 0 && (r2.snd.fst == 0 && (r2.snd.snd.fst == 0 && Bool.true)))
    (bi (r2.snd.snd.snd.snd == 6)
    (some (r2.snd.snd.snd.fst == 2))
    (some Bool.false))
    (some Bool.false))))
    none)
    ((digits_Parse K ({ data := #[48] } ++ r1.fst)).bind fun r3 => (bi (r3.fst == 0 && (r3.snd.fst == 0 && (r3.snd.snd.fst == 0 && Bool.true)))
    (bi (r3.snd.snd.snd.snd == 6)
    (some (r3.snd.snd.snd.fst == 1))
    (some Bool.false))
    (some Bool.false))))
    none))))))
theorem law02_DigitsLead_eq (K : Nat) (x0_0 : Int) (x0_1 : Int) (x0_2 : Int) : (runF Go.Proofs.Tryd.prog (env_law02_DigitsWrites K) (lenv0) Go.Proofs.Tryd.f5 [.agg [.int .i64, .int .u64, .int .i64]] [.one (.bool)] law02_DigitsLead_dec [.i x0_0, .i x0_1, .i x0_2]).den2 = law02_DigitsLead K x0_0 x0_1 x0_2 := by kernel_rfl
def law02_DigitsLead_w (K : Nat) : List U → Option (Bool) := fun us => match us with | [.i x0_0, .i x0_1, .i x0_2] => law02_DigitsLead K x0_0 x0_1 x0_2 | _ => none
def law02_DigitsLead_spec (K : Nat) : Vm.Spec := ⟨[.agg [.int .i64, .int .u64, .int .i64]], [.one (.bool)], Bool, law02_DigitsLead_w K, law02_DigitsLead_enc⟩
theorem law02_DigitsLead_ok (K : Nat) : FnOk Go.Proofs.Tryd.prog 5 (law02_DigitsLead_spec K) := fn_ok' hmix (env_law02_DigitsWrites_ok K) (lenv := lenv0) (args := [.agg [.int .i64, .int .u64, .int .i64]]) (res := [.one (.bool)]) (G := law02_DigitsLead_w K) (enc := law02_DigitsLead_enc) Go.Proofs.Tryd.func5 (lps_fn (l := []) (by kernel_rfl) trivial) (dec := law02_DigitsLead_dec) (fun u r h => by unfold law02_DigitsLead_dec at h; split at h; (obtain rfl := Option.some.inj h; rfl); cases h) (fun us r h => by unfold law02_DigitsLead_w at h; split at h; exact ((den2_eq _).symm.trans (law02_DigitsLead_eq K _ _ _)).trans h; cases h)
def env_law02_DigitsLead (K : Nat) : FuncId → Option Vm.Spec := addS (env_law02_DigitsWrites K) 5 (law02_DigitsLead_spec K)
theorem env_law02_DigitsLead_ok (K : Nat) : EnvOk Go.Proofs.Tryd.prog (env_law02_DigitsLead K) := addS_ok (env_law02_DigitsWrites_ok K) (.inl ⟨callable Go.Proofs.Tryd.func5 (by kernel_rfl) (by kernel_rfl), law02_DigitsLead_ok K⟩)
-- passbook/passbooklaw02.DigitsOrder
def law02_DigitsOrder_dec : List U → Option (Bool) := fun u => match u with | [.b c0] => some (c0) | _ => none
def law02_DigitsOrder_enc : (Bool) → List U := fun r => [.b r]
def law02_DigitsOrder (K : Nat) (x0 : Int) (x1 : Int) (x2 : Int) : Option (Bool) := ((law02_awake K).bind fun r0 => (bi (!r0)
    (some Bool.false)
    ((digits_Write K 0 x0 (Go.IntKind.i64.wrap ((Go.IntKind.u64.wrap x2).tmod 19))).bind fun r1 => ((digits_Write K 0 x1 (Go.IntKind.i64.wrap ((Go.IntKind.u64.wrap x2).tmod 19))).bind fun r2 => ((dec_Cmp K 0 x0 (Go.IntKind.i64.wrap ((Go.IntKind.u64.wrap x2).tmod 19)) 0 x1
  (Go.IntKind.i64.wrap ((Go.IntKind.u64.wrap x2).tmod 19))).bind fun r3 => (bi (r1.snd != 0)
    (some Bool.false)
    (bi (r2.snd != 0)
    (some Bool.false)
    (bi (r3.snd != 0)
    (some Bool.false)
    (bi ((↑r1.fst.size : Int) != (↑r2.fst.size : Int))
    (bi (Decidable.decide ((↑r1.fst.size : Int) < (↑r2.fst.size : Int)) == Decidable.decide (r3.fst < 0))
    (some (r3.fst != 0))
    (some Bool.false))
    (bi (sLt r1.fst r2.fst == Decidable.decide (r3.fst < 0))
    (bi (sEq r1.fst r2.fst == (r3.fst == 0))
    ((ref01_Form K 0 x0 (Go.IntKind.i64.wrap ((Go.IntKind.u64.wrap x2).tmod 19))).bind fun r4 => (some r4))
    (some Bool.false))
    (some Bool.false)))))))))))
theorem law02_DigitsOrder_eq (K : Nat) (x0 : Int) (x1 : Int) (x2 : Int) : (runF Go.Proofs.Tryd.prog (env_law02_DigitsLead K) (lenv0) Go.Proofs.Tryd.f6 [.one (.int .u64), .one (.int .u64), .one (.int .i64)] [.one (.bool)] law02_DigitsOrder_dec [.i x0, .i x1, .i x2]).den2 = law02_DigitsOrder K x0 x1 x2 := by kernel_rfl
def law02_DigitsOrder_w (K : Nat) : List U → Option (Bool) := fun us => match us with | [.i x0, .i x1, .i x2] => law02_DigitsOrder K x0 x1 x2 | _ => none
def law02_DigitsOrder_spec (K : Nat) : Vm.Spec := ⟨[.one (.int .u64), .one (.int .u64), .one (.int .i64)], [.one (.bool)], Bool, law02_DigitsOrder_w K, law02_DigitsOrder_enc⟩
theorem law02_DigitsOrder_ok (K : Nat) : FnOk Go.Proofs.Tryd.prog 6 (law02_DigitsOrder_spec K) := fn_ok' hmix (env_law02_DigitsLead_ok K) (lenv := lenv0) (args := [.one (.int .u64), .one (.int .u64), .one (.int .i64)]) (res := [.one (.bool)]) (G := law02_DigitsOrder_w K) (enc := law02_DigitsOrder_enc) Go.Proofs.Tryd.func6 (lps_fn (l := []) (by kernel_rfl) trivial) (dec := law02_DigitsOrder_dec) (fun u r h => by unfold law02_DigitsOrder_dec at h; split at h; (obtain rfl := Option.some.inj h; rfl); cases h) (fun us r h => by unfold law02_DigitsOrder_w at h; split at h; exact ((den2_eq _).symm.trans (law02_DigitsOrder_eq K _ _ _)).trans h; cases h)
def env_law02_DigitsOrder (K : Nat) : FuncId → Option Vm.Spec := addS (env_law02_DigitsLead K) 6 (law02_DigitsOrder_spec K)
theorem env_law02_DigitsOrder_ok (K : Nat) : EnvOk Go.Proofs.Tryd.prog (env_law02_DigitsOrder K) := addS_ok (env_law02_DigitsLead_ok K) (.inl ⟨callable Go.Proofs.Tryd.func6 (by kernel_rfl) (by kernel_rfl), law02_DigitsOrder_ok K⟩)
-- passbook/passbooklaw02.DigitsFronts
def law02_DigitsFronts_dec : List U → Option (Bool) := fun u => match u with | [.b c0] => some (c0) | _ => none
def law02_DigitsFronts_enc : (Bool) → List U := fun r => [.b r]
def law02_DigitsFronts (K : Nat) (x0_0 : Int) (x0_1 : Int) (x0_2 : Int) (x1 : Int) (x2 : Int) (s3 : ByteArray) : Option (Bool) := ((law02_awake K).bind fun r0 => (bi (!r0)
    (some Bool.false)
    ((digits_Write K x0_0 x0_1 x0_2).bind fun r1 => (bi (r1.snd != 0)
    (some (sEq r1.fst { data := #[] }))
    (bi (Decidable.decide (Go.IntKind.i64.wrap ((↑r1.fst.size : Int) + 1) = 0))
    none
    (bi (Bool.true && Decidable.decide (0 ≤ (Go.IntKind.i64.wrap x1).tmod (Go.IntKind.i64.wrap ((↑r1.fst.size : Int) + 1))) &&
  Decidable.decide
    ((Go.IntKind.i64.wrap x1).tmod (Go.IntKind.i64.wrap ((↑r1.fst.size : Int) + 1)) ≤ (↑r1.fst.size : Int)))
    ((digits_Parse K
  (r1.fst.extract 0 ((Go.IntKind.i64.wrap x1).tmod (Go.IntKind.i64.wrap ((↑r1.fst.size : Int) + 1))).toNat)).bind fun r2 => (bi (r2.snd.snd.snd.snd != 0)
    (bi (r2.snd.snd.snd.snd != 6)
    (some Bool.false)
    (bi (r2.snd.snd.snd.fst != (Go.IntKind.i64.wrap x1).tmod (Go.IntKind.i64.wrap ((↑r1.fst.size : Int) + 1)))
    (bi (r2.snd.snd.snd.fst != 0)
    (some Bool.false)
    (bi ((Go.IntKind.i64.wrap x1).tmod (Go.IntKind.i64.wrap ((↑r1.fst.size : Int) + 1)) == 0)
    (some Bool.false)
    (bi (Bool.true && Decidable.decide (0 < (↑r1.fst.size : Int)))
    (bi (bt r1.fst 0 != 45)
    (some Bool.false)
    (bi (Decidable.decide (x2 ≥ 48))
    (bi (Decidable.decide (x2 ≤ 57))
    (some Bool.true)
    (bi (x2 == 45)
    (some Bool.true)
    (bi (x2 == 46)
    (some Bool.true)
    (bi (Decidable.decide
  (Go.IntKind.i64.wrap
      (Go.IntKind.i64.wrap ((Go.IntKind.i64.wrap x1).tmod (Go.IntKind.i64.wrap ((↑r1.fst.size : Int) + 1)) + 1) +
        (↑s3.size : Int)) >
    64))
    (some Bool.true)
    (bi (Bool.true && Decidable.decide (0 ≤ (Go.IntKind.i64.wrap x1).tmod (Go.IntKind.i64.wrap ((↑r1.fst.size : Int) + 1))) &&
  Decidable.decide
    ((Go.IntKind.i64.wrap x1).tmod (Go.IntKind.i64.wrap ((↑r1.fst.size : Int) + 1)) ≤ (↑r1.fst.size : Int)))
    (bi (Decidable.decide
  ((↑((r1.fst.extract 0 ((Go.IntKind.i64.wrap x1).tmod (Go.IntKind.i64.wrap ((↑r1.fst.size : Int) + 1))).toNat).size +
          (strOf [x2]).size) :
      Int) >
    9223372036854775807))
    none
    (bi (Decidable.decide
  ((↑((r1.fst.extract 0 ((Go.IntKind.i64.wrap x1).tmod (Go.IntKind.i64.wrap ((↑r1.fst.size : Int) + 1))).toNat ++
              strOf [x2]).size +
          s3.size) :
      Int) >
    9223372036854775807))
    none
    ((digits_Parse K
  (r1.fst.extract 0 ((Go.IntKind.i64.wrap x1).tmod (Go.IntKind.i64.wrap ((↑r1.fst.size : Int) + 1))).toNat ++
      strOf [x2] ++
    s3)).bind fun r3 => (bi (r3.snd.snd.snd.snd == 6)
    (some (r3.snd.snd.snd.fst == (Go.IntKind.i64.wrap x1).tmod (Go.IntKind.i64.wrap ((↑r1.fst.size : Int) + 1))))
    (some Bool.false)))))
    none)))))
    (bi (x2 == 45)
    (some Bool.true)
    (bi (x2 == 46)
    (some Bool.true)
    (bi (Decidable.decide
  (Go.IntKind.i64.wrap
      (Go.IntKind.i64.wrap ((Go.IntKind.i64.wrap x1).tmod (Go.IntKind.i64.wrap ((↑r1.fst.size : Int) + 1)) + 1) +
        (↑s3.size : Int)) >
    64))
    (some Bool.true)
    (bi (Bool.true && Decidable.decide (0 ≤ (Go.IntKind.i64.wrap x1).tmod (Go.IntKind.i64.wrap ((↑r1.fst.size : Int) + 1))) &&
  Decidable.decide
    ((Go.IntKind.i64.wrap x1).tmod (Go.IntKind.i64.wrap ((↑r1.fst.size : Int) + 1)) ≤ (↑r1.fst.size : Int)))
    (bi (Decidable.decide
  ((↑((r1.fst.extract 0 ((Go.IntKind.i64.wrap x1).tmod (Go.IntKind.i64.wrap ((↑r1.fst.size : Int) + 1))).toNat).size +
          (strOf [x2]).size) :
      Int) >
    9223372036854775807))
    none
    (bi (Decidable.decide
  ((↑((r1.fst.extract 0 ((Go.IntKind.i64.wrap x1).tmod (Go.IntKind.i64.wrap ((↑r1.fst.size : Int) + 1))).toNat ++
              strOf [x2]).size +
          s3.size) :
      Int) >
    9223372036854775807))
    none
    ((digits_Parse K
  (r1.fst.extract 0 ((Go.IntKind.i64.wrap x1).tmod (Go.IntKind.i64.wrap ((↑r1.fst.size : Int) + 1))).toNat ++
      strOf [x2] ++
    s3)).bind fun r4 => (bi (r4.snd.snd.snd.snd == 6)
    (some (r4.snd.snd.snd.fst == (Go.IntKind.i64.wrap x1).tmod (Go.IntKind.i64.wrap ((↑r1.fst.size : Int) + 1))))
    (some Bool.false)))))
    none))))))
    none)))
    (bi (Decidable.decide (x2 ≥ 48))
    (bi (Decidable.decide (x2 ≤ 57))
    (some Bool.true)
    (bi (x2 == 45)
    (some Bool.true)
    (bi (x2 == 46)
    (some Bool.true)
    (bi (Decidable.decide
  (Go.IntKind.i64.wrap
      (Go.IntKind.i64.wrap ((Go.IntKind.i64.wrap x1).tmod (Go.IntKind.i64.wrap ((↑r1.fst.size : Int) + 1)) + 1) +
        (↑s3.size : Int)) >
    64))
    (some Bool.true)
    (bi (Bool.true && Decidable.decide (0 ≤ (Go.IntKind.i64.wrap x1).tmod (Go.IntKind.i64.wrap ((↑r1.fst.size : Int) + 1))) &&
  Decidable.decide
    ((Go.IntKind.i64.wrap x1).tmod (Go.IntKind.i64.wrap ((↑r1.fst.size : Int) + 1)) ≤ (↑r1.fst.size : Int)))
    (bi (Decidable.decide
  ((↑((r1.fst.extract 0 ((Go.IntKind.i64.wrap x1).tmod (Go.IntKind.i64.wrap ((↑r1.fst.size : Int) + 1))).toNat).size +
          (strOf [x2]).size) :
      Int) >
    9223372036854775807))
    none
    (bi (Decidable.decide
  ((↑((r1.fst.extract 0 ((Go.IntKind.i64.wrap x1).tmod (Go.IntKind.i64.wrap ((↑r1.fst.size : Int) + 1))).toNat ++
              strOf [x2]).size +
          s3.size) :
      Int) >
    9223372036854775807))
    none
    ((digits_Parse K
  (r1.fst.extract 0 ((Go.IntKind.i64.wrap x1).tmod (Go.IntKind.i64.wrap ((↑r1.fst.size : Int) + 1))).toNat ++
      strOf [x2] ++
    s3)).bind fun r5 => (bi (r5.snd.snd.snd.snd == 6)
    (some (r5.snd.snd.snd.fst == (Go.IntKind.i64.wrap x1).tmod (Go.IntKind.i64.wrap ((↑r1.fst.size : Int) + 1))))
    (some Bool.false)))))
    none)))))
    (bi (x2 == 45)
    (some Bool.true)
    (bi (x2 == 46)
    (some Bool.true)
    (bi (Decidable.decide
  (Go.IntKind.i64.wrap
      (Go.IntKind.i64.wrap ((Go.IntKind.i64.wrap x1).tmod (Go.IntKind.i64.wrap ((↑r1.fst.size : Int) + 1)) + 1) +
        (↑s3.size : Int)) >
    64))
    (some Bool.true)
    (bi (Bool.true && Decidable.decide (0 ≤ (Go.IntKind.i64.wrap x1).tmod (Go.IntKind.i64.wrap ((↑r1.fst.size : Int) + 1))) &&
  Decidable.decide
    ((Go.IntKind.i64.wrap x1).tmod (Go.IntKind.i64.wrap ((↑r1.fst.size : Int) + 1)) ≤ (↑r1.fst.size : Int)))
    (bi (Decidable.decide
  ((↑((r1.fst.extract 0 ((Go.IntKind.i64.wrap x1).tmod (Go.IntKind.i64.wrap ((↑r1.fst.size : Int) + 1))).toNat).size +
          (strOf [x2]).size) :
      Int) >
    9223372036854775807))
    none
    (bi (Decidable.decide
  ((↑((r1.fst.extract 0 ((Go.IntKind.i64.wrap x1).tmod (Go.IntKind.i64.wrap ((↑r1.fst.size : Int) + 1))).toNat ++
              strOf [x2]).size +
          s3.size) :
      Int) >
    9223372036854775807))
    none
    ((digits_Parse K
  (r1.fst.extract 0 ((Go.IntKind.i64.wrap x1).tmod (Go.IntKind.i64.wrap ((↑r1.fst.size : Int) + 1))).toNat ++
      strOf [x2] ++
    s3)).bind fun r6 => (bi (r6.snd.snd.snd.snd == 6)
    (some (r6.snd.snd.snd.fst == (Go.IntKind.i64.wrap x1).tmod (Go.IntKind.i64.wrap ((↑r1.fst.size : Int) + 1))))
    (some Bool.false)))))
    none)))))))
    (bi (Decidable.decide (x2 ≥ 48))
    (bi (Decidable.decide (x2 ≤ 57))
    (some Bool.true)
    (bi (x2 == 45)
    (some Bool.true)
    (bi (x2 == 46)
    (some Bool.true)
    (bi (Decidable.decide
  (Go.IntKind.i64.wrap
      (Go.IntKind.i64.wrap ((Go.IntKind.i64.wrap x1).tmod (Go.IntKind.i64.wrap ((↑r1.fst.size : Int) + 1)) + 1) +
        (↑s3.size : Int)) >
    64))
    (some Bool.true)
    (bi (Bool.true && Decidable.decide (0 ≤ (Go.IntKind.i64.wrap x1).tmod (Go.IntKind.i64.wrap ((↑r1.fst.size : Int) + 1))) &&
  Decidable.decide
    ((Go.IntKind.i64.wrap x1).tmod (Go.IntKind.i64.wrap ((↑r1.fst.size : Int) + 1)) ≤ (↑r1.fst.size : Int)))
    (bi (Decidable.decide
  ((↑((r1.fst.extract 0 ((Go.IntKind.i64.wrap x1).tmod (Go.IntKind.i64.wrap ((↑r1.fst.size : Int) + 1))).toNat).size +
          (strOf [x2]).size) :
      Int) >
    9223372036854775807))
    none
    (bi (Decidable.decide
  ((↑((r1.fst.extract 0 ((Go.IntKind.i64.wrap x1).tmod (Go.IntKind.i64.wrap ((↑r1.fst.size : Int) + 1))).toNat ++
              strOf [x2]).size +
          s3.size) :
      Int) >
    9223372036854775807))
    none
    ((digits_Parse K
  (r1.fst.extract 0 ((Go.IntKind.i64.wrap x1).tmod (Go.IntKind.i64.wrap ((↑r1.fst.size : Int) + 1))).toNat ++
      strOf [x2] ++
    s3)).bind fun r7 => (bi (r7.snd.snd.snd.snd == 6)
    (some (r7.snd.snd.snd.fst == (Go.IntKind.i64.wrap x1).tmod (Go.IntKind.i64.wrap ((↑r1.fst.size : Int) + 1))))
    (some Bool.false)))))
    none)))))
    (bi (x2 == 45)
    (some Bool.true)
    (bi (x2 == 46)
    (some Bool.true)
    (bi (Decidable.decide
  (Go.IntKind.i64.wrap
      (Go.IntKind.i64.wrap ((Go.IntKind.i64.wrap x1).tmod (Go.IntKind.i64.wrap ((↑r1.fst.size : Int) + 1)) + 1) +
        (↑s3.size : Int)) >
    64))
    (some Bool.true)
    (bi (Bool.true && Decidable.decide (0 ≤ (Go.IntKind.i64.wrap x1).tmod (Go.IntKind.i64.wrap ((↑r1.fst.size : Int) + 1))) &&
  Decidable.decide
    ((Go.IntKind.i64.wrap x1).tmod (Go.IntKind.i64.wrap ((↑r1.fst.size : Int) + 1)) ≤ (↑r1.fst.size : Int)))
    (bi (Decidable.decide
  ((↑((r1.fst.extract 0 ((Go.IntKind.i64.wrap x1).tmod (Go.IntKind.i64.wrap ((↑r1.fst.size : Int) + 1))).toNat).size +
          (strOf [x2]).size) :
      Int) >
    9223372036854775807))
    none
    (bi (Decidable.decide
  ((↑((r1.fst.extract 0 ((Go.IntKind.i64.wrap x1).tmod (Go.IntKind.i64.wrap ((↑r1.fst.size : Int) + 1))).toNat ++
              strOf [x2]).size +
          s3.size) :
      Int) >
    9223372036854775807))
    none
    ((digits_Parse K
  (r1.fst.extract 0 ((Go.IntKind.i64.wrap x1).tmod (Go.IntKind.i64.wrap ((↑r1.fst.size : Int) + 1))).toNat ++
      strOf [x2] ++
    s3)).bind fun r8 => (bi (r8.snd.snd.snd.snd == 6)
    (some (r8.snd.snd.snd.fst == (Go.IntKind.i64.wrap x1).tmod (Go.IntKind.i64.wrap ((↑r1.fst.size : Int) + 1))))
    (some Bool.false)))))
    none)))))))
    none))))))
theorem law02_DigitsFronts_eq (K : Nat) (x0_0 : Int) (x0_1 : Int) (x0_2 : Int) (x1 : Int) (x2 : Int) (s3 : ByteArray) : (runF Go.Proofs.Tryd.prog (env_law02_DigitsOrder K) (lenv0) Go.Proofs.Tryd.f4 [.agg [.int .i64, .int .u64, .int .i64], .one (.int .u8), .one (.int .u8), .one (.str)] [.one (.bool)] law02_DigitsFronts_dec [.i x0_0, .i x0_1, .i x0_2, .i x1, .i x2, .s s3]).den2 = law02_DigitsFronts K x0_0 x0_1 x0_2 x1 x2 s3 := by kernel_rfl
def law02_DigitsFronts_w (K : Nat) : List U → Option (Bool) := fun us => match us with | [.i x0_0, .i x0_1, .i x0_2, .i x1, .i x2, .s s3] => law02_DigitsFronts K x0_0 x0_1 x0_2 x1 x2 s3 | _ => none
def law02_DigitsFronts_spec (K : Nat) : Vm.Spec := ⟨[.agg [.int .i64, .int .u64, .int .i64], .one (.int .u8), .one (.int .u8), .one (.str)], [.one (.bool)], Bool, law02_DigitsFronts_w K, law02_DigitsFronts_enc⟩
theorem law02_DigitsFronts_ok (K : Nat) : FnOk Go.Proofs.Tryd.prog 4 (law02_DigitsFronts_spec K) := fn_ok' hmix (env_law02_DigitsOrder_ok K) (lenv := lenv0) (args := [.agg [.int .i64, .int .u64, .int .i64], .one (.int .u8), .one (.int .u8), .one (.str)]) (res := [.one (.bool)]) (G := law02_DigitsFronts_w K) (enc := law02_DigitsFronts_enc) Go.Proofs.Tryd.func4 (lps_fn (l := []) (by kernel_rfl) trivial) (dec := law02_DigitsFronts_dec) (fun u r h => by unfold law02_DigitsFronts_dec at h; split at h; (obtain rfl := Option.some.inj h; rfl); cases h) (fun us r h => by unfold law02_DigitsFronts_w at h; split at h; exact ((den2_eq _).symm.trans (law02_DigitsFronts_eq K _ _ _ _ _ _)).trans h; cases h)
def env_law02_DigitsFronts (K : Nat) : FuncId → Option Vm.Spec := addS (env_law02_DigitsOrder K) 4 (law02_DigitsFronts_spec K)
theorem env_law02_DigitsFronts_ok (K : Nat) : EnvOk Go.Proofs.Tryd.prog (env_law02_DigitsFronts K) := addS_ok (env_law02_DigitsOrder_ok K) (.inl ⟨callable Go.Proofs.Tryd.func4 (by kernel_rfl) (by kernel_rfl), law02_DigitsFronts_ok K⟩)
end Go.Proofs.YtmlohnfghomghaaDoor.F
