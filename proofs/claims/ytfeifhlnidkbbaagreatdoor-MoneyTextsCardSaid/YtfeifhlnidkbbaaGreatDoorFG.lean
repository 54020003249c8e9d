import Derived.Test.YtfeifhlnidkbbaaGreatDoorVmY
import Derived.Test.YtfeifhlnidkbbaaGreatDoorVmRc
import Derived.Test.YtfeifhlnidkbbaaGreatDoorProg
import Derived.Test.YtfeifhlnidkbbaaGreatDoorFE
namespace Go.Proofs.YtfeifhlnidkbbaaGreatDoor.F
open Go Go.Proofs.YtfeifhlnidkbbaaGreatDoor.Vm
set_option maxRecDepth 1000000
set_option linter.unusedVariables false
def ref05_Name_dec : List U → Option (ByteArray) := fun u => match u with | [.s s0] => some (s0) | _ => none
def ref05_Name_enc : (ByteArray) → List U := fun r => [.s r]
def ref05_Name (K : Nat) (x0 : Int) : Option (ByteArray) := (bi (decide (0 ≤ IntKind.i64.wrap (3 * x0)) &&
    decide (IntKind.i64.wrap (3 * x0) ≤ IntKind.i64.wrap (IntKind.i64.wrap (3 * x0) + 3)) &&
  decide (IntKind.i64.wrap (IntKind.i64.wrap (3 * x0) + 3) ≤ 12))
    (some ((ByteArray.mk #[69, 85, 82, 85, 83, 68, 74, 80, 89, 75, 87, 68]).extract (IntKind.i64.wrap (3 * x0)).toNat
  (IntKind.i64.wrap (IntKind.i64.wrap (3 * x0) + 3)).toNat))
    none)
theorem ref05_Name_eq (K : Nat) (x0 : Int) : (runF Tryz.prog (env_ref02_DocParse K) (lenv0) Tryz.f17 [.one (.int .i64)] [.one (.str)] ref05_Name_dec [.i x0]).den2 = ref05_Name K x0 := by kernel_rfl
def ref05_Name_w (K : Nat) : List U → Option (ByteArray) := fun us => match us with | [.i x0] => ref05_Name K x0 | _ => none
def ref05_Name_spec (K : Nat) : Vm.Spec := ⟨[.one (.int .i64)], [.one (.str)], ByteArray, ref05_Name_w K, ref05_Name_enc⟩
theorem ref05_Name_ok (K : Nat) : FnOk Tryz.prog 17 (ref05_Name_spec K) := fn_ok' hmix (env_ref02_DocParse_ok K) (lenv := lenv0) (args := [.one (.int .i64)]) (res := [.one (.str)]) (G := ref05_Name_w K) (enc := ref05_Name_enc) Tryz.func17 (lps_fn (l := []) (by kernel_rfl) trivial) (dec := ref05_Name_dec) (fun u r h => by unfold ref05_Name_dec at h; split at h; (cases h; rfl); cases h) (fun us r h => by unfold ref05_Name_w at h; split at h; exact ((den2_eq _).symm.trans (ref05_Name_eq K _)).trans h; cases h)
def env_ref05_Name (K : Nat) : FuncId → Option Vm.Spec := addS (env_ref02_DocParse K) 17 (ref05_Name_spec K)
theorem env_ref05_Name_ok (K : Nat) : EnvOk Tryz.prog (env_ref05_Name K) := addS_ok (env_ref02_DocParse_ok K) (.inl ⟨callable Tryz.func17 (by kernel_rfl) (by kernel_rfl), ref05_Name_ok K⟩)
def ref05_Write_dec : List U → Option (ByteArray) := fun u => match u with | [.s s0] => some (s0) | _ => none
def ref05_Write_enc : (ByteArray) → List U := fun r => [.s r]
def ref05_Write (K : Nat) (x0_0 : Int) (x0_1 : Int) : Option (ByteArray) := ((ref05_DocTo K x0_0 x0_1).bind fun r0 => ((ref05_Name K x0_0).bind fun r1 => (bi (decide ((↑(ByteArray.size r1 + 1) : Int) > 9223372036854775807))
    none
    ((ref02_Write K r0.fst r0.snd.fst r0.snd.snd.fst).bind fun r2 => (bi (decide ((↑((r1 ++ (ByteArray.mk #[32])).size + ByteArray.size r2) : Int) > 9223372036854775807))
    none
    (some (r1 ++ (ByteArray.mk #[32]) ++ r2)))))))
theorem ref05_Write_eq (K : Nat) (x0_0 : Int) (x0_1 : Int) : (runF Tryz.prog (env_ref05_Name K) (lenv0) Tryz.f7 [.agg [.int .i64, .int .i64]] [.one (.str)] ref05_Write_dec [.i x0_0, .i x0_1]).den2 = ref05_Write K x0_0 x0_1 := by kernel_rfl
def ref05_Write_w (K : Nat) : List U → Option (ByteArray) := fun us => match us with | [.i x0_0, .i x0_1] => ref05_Write K x0_0 x0_1 | _ => none
def ref05_Write_spec (K : Nat) : Vm.Spec := ⟨[.agg [.int .i64, .int .i64]], [.one (.str)], ByteArray, ref05_Write_w K, ref05_Write_enc⟩
theorem ref05_Write_ok (K : Nat) : FnOk Tryz.prog 7 (ref05_Write_spec K) := fn_ok' hmix (env_ref05_Name_ok K) (lenv := lenv0) (args := [.agg [.int .i64, .int .i64]]) (res := [.one (.str)]) (G := ref05_Write_w K) (enc := ref05_Write_enc) Tryz.func7 (lps_fn (l := []) (by kernel_rfl) trivial) (dec := ref05_Write_dec) (fun u r h => by unfold ref05_Write_dec at h; split at h; (cases h; rfl); cases h) (fun us r h => by unfold ref05_Write_w at h; split at h; exact ((den2_eq _).symm.trans (ref05_Write_eq K _ _)).trans h; cases h)
def env_ref05_Write (K : Nat) : FuncId → Option Vm.Spec := addS (env_ref05_Name K) 7 (ref05_Write_spec K)
theorem env_ref05_Write_ok (K : Nat) : EnvOk Tryz.prog (env_ref05_Write K) := addS_ok (env_ref05_Name_ok K) (.inl ⟨callable Tryz.func7 (by kernel_rfl) (by kernel_rfl), ref05_Write_ok K⟩)
def ref05_DocParse_l4_pre : Vm.Pat := ⟨53, [(0, .pv (.one (.str))), (4, .pv (.one (.int .i64))), (2, .box 0 0)], [.cells [.int .i64, .int .i64]], []⟩
def ref05_DocParse_l4_post0 : Vm.Pat := ⟨53, [(2, .box 0 0)], [.cells [.int .i64, .int .i64]], []⟩
def ref05_DocParse_l4_enc0 : Int × Int → List U := fun r => [.i r.1, .i r.2]
def ref05_DocParse_l4_dec0 : List U → Option (Int × Int) := fun u => match u with | [.i x2_0, .i x2_1] => some (x2_0, x2_1) | _ => none
def ref05_DocParse_l4_post1 : Vm.Pat := ⟨53, [(3, .pv (.one (.int .i64))), (2, .box 0 0)], [.cells [.int .i64, .int .i64]], []⟩
def ref05_DocParse_l4_enc1 : Int × Int × Int → List U := fun r => [.i r.1, .i r.2.1, .i r.2.2]
def ref05_DocParse_l4_dec1 : List U → Option (Int × Int × Int) := fun u => match u with | [.i x3, .i x2_0, .i x2_1] => some (x3, x2_0, x2_1) | _ => none
def ref05_DocParse_l4 (K : Nat) : Nat → ByteArray → Int → Int → Int → Option ((Int × Int) ⊕ (Int × Int × Int))
  | 0, _, _, _, _ => none
  | k + 1, s0, x4, x2_0, x2_1 => (bi (decide (x4 < 4))
    (bi (decide ((↑s0.size : Int) < 4))
    (ref05_DocParse_l4 K k (s0) (IntKind.i64.wrap (x4 + 1)) (x2_0) (x2_1))
    (bi (Bool.true && decide (4 ≤ (↑s0.size : Int)))
    ((ref05_Name K x4).bind fun r0 => (bi (decide ((↑(ByteArray.size r0 + 1) : Int) > 9223372036854775807))
    none
    (bi (!sEq (s0.extract 0 4) (r0 ++ (ByteArray.mk #[32])))
    (ref05_DocParse_l4 K k (s0) (IntKind.i64.wrap (x4 + 1)) (x2_0) (x2_1))
    (bi (Bool.true && decide (4 ≤ (↑s0.size : Int)) && decide ((↑s0.size : Int) ≤ (↑s0.size : Int)))
    ((ref02_DocParse K (s0.extract 4 (↑s0.size : Int).toNat)).bind fun r1 => (bi (r1.snd.snd.snd.snd != 0)
    (some (Sum.inl (x2_0, x2_1)))
    ((ref05_DocOf K r1.fst r1.snd.fst r1.snd.snd.fst x4 0).bind fun r2 => (bi (r2.snd.snd == 0)
    ((ref05_Write K r2.fst r2.snd.fst).bind fun r3 => (bi (sEq r3 s0)
    (some (Sum.inr (0, r2.fst, r2.snd.fst)))
    (ref05_DocParse_l4 K k (s0) (IntKind.i64.wrap (x4 + 1)) (x2_0) (x2_1))))
    (ref05_DocParse_l4 K k (s0) (IntKind.i64.wrap (x4 + 1)) (x2_0) (x2_1))))))
    none))))
    none))
    (some (Sum.inl (x2_0, x2_1))))
def ref05_DocParse_l4_w (K k : Nat) : List U → Option ((Int × Int) ⊕ (Int × Int × Int)) := fun us => match us with | [.s s0, .i x4, .i x2_0, .i x2_1] => ref05_DocParse_l4 K k s0 x4 x2_0 x2_1 | _ => none
theorem ref05_DocParse_l4_eq (K k : Nat) (s0 : ByteArray) (x4 : Int) (x2_0 : Int) (x2_1 : Int) : (round2 Tryz.prog (env_ref05_Write K) (lenv0) (lp (bodyOf Tryz.f9) 0) ref05_DocParse_l4_pre (.exit 0) ref05_DocParse_l4_post0 .ret ref05_DocParse_l4_post1 ref05_DocParse_l4_dec0 ref05_DocParse_l4_dec1 (ref05_DocParse_l4_w K k) [.s s0, .i x4, .i x2_0, .i x2_1]).den2 = ref05_DocParse_l4 K (k + 1) s0 x4 x2_0 x2_1 := by kernel_rfl
def ref05_DocParse_l4_s (K : Nat) : Vm.LS := .two ref05_DocParse_l4_pre _ _ (.exit 0) ref05_DocParse_l4_post0 .ret ref05_DocParse_l4_post1 (ref05_DocParse_l4_w K K) ref05_DocParse_l4_enc0 ref05_DocParse_l4_enc1
theorem ref05_DocParse_l4_ok (K : Nat) : LoopOk Tryz.prog (lp (bodyOf Tryz.f9) 0) (ref05_DocParse_l4_s K) := loop_two hmix (env_ref05_Write_ok K) (lenv := lenv0) (L := ref05_DocParse_l4_w K) (enc := ref05_DocParse_l4_enc0) (dec := ref05_DocParse_l4_dec0) (enc' := ref05_DocParse_l4_enc1) (dec' := ref05_DocParse_l4_dec1) (lps_ok (l := []) (by kernel_rfl) trivial) (fun u r h => by unfold ref05_DocParse_l4_dec0 at h; split at h; (cases h; rfl); cases h) (fun u r h => by unfold ref05_DocParse_l4_dec1 at h; split at h; (cases h; rfl); cases h) (fun us => by unfold ref05_DocParse_l4_w; split <;> first | rfl | (simp only [ref05_DocParse_l4])) (fun k us r h => by unfold ref05_DocParse_l4_w at h; split at h; exact ((den2_eq _).symm.trans (ref05_DocParse_l4_eq K k _ _ _ _)).trans h; cases h) K
def ref05_DocParse_v4 (K : Nat) : Nat → Option Vm.LS := addL (lenv0) 4 (ref05_DocParse_l4_s K)
def ref05_DocParse_dec : List U → Option (Int × Int × Int) := fun u => match u with | [.i x0_0, .i x0_1, .i x1] => some (x0_0, x0_1, x1) | _ => none
def ref05_DocParse_enc : (Int × Int × Int) → List U := fun r => [.i r.1, .i r.2.1, .i r.2.2]
def ref05_DocParse (K : Nat) (s0 : ByteArray) : Option (Int × Int × Int) := (bi (decide ((↑s0.size : Int) > 64))
    (some ((0, 0, 2)))
    (casO (ref05_DocParse_l4 K K s0 0 0 0) (fun r0 => (some ((0, 0, 6)))) (fun r1 => (some ((r1.snd.fst, r1.snd.snd, r1.fst))))))
theorem ref05_DocParse_eq (K : Nat) (s0 : ByteArray) : (runF Tryz.prog (env_ref05_Write K) (ref05_DocParse_v4 K) Tryz.f9 [.one (.str)] [.agg [.int .i64, .int .i64], .one (.int .i64)] ref05_DocParse_dec [.s s0]).den2 = ref05_DocParse K s0 := by kernel_rfl
def ref05_DocParse_w (K : Nat) : List U → Option (Int × Int × Int) := fun us => match us with | [.s s0] => ref05_DocParse K s0 | _ => none
def ref05_DocParse_spec (K : Nat) : Vm.Spec := ⟨[.one (.str)], [.agg [.int .i64, .int .i64], .one (.int .i64)], Int × Int × Int, ref05_DocParse_w K, ref05_DocParse_enc⟩
theorem ref05_DocParse_ok (K : Nat) : FnOk Tryz.prog 9 (ref05_DocParse_spec K) := fn_ok' hmix (env_ref05_Write_ok K) (lenv := ref05_DocParse_v4 K) (args := [.one (.str)]) (res := [.agg [.int .i64, .int .i64], .one (.int .i64)]) (G := ref05_DocParse_w K) (enc := ref05_DocParse_enc) Tryz.func9 (lps_fn (l := [lp (bodyOf Tryz.f9) 0]) (by kernel_rfl) ⟨⟨4, ref05_DocParse_l4_s K, by kernel_rfl, by kernel_rfl, ref05_DocParse_l4_ok K⟩, trivial⟩) (dec := ref05_DocParse_dec) (fun u r h => by unfold ref05_DocParse_dec at h; split at h; (cases h; rfl); cases h) (fun us r h => by unfold ref05_DocParse_w at h; split at h; exact ((den2_eq _).symm.trans (ref05_DocParse_eq K _)).trans h; cases h)
def env_ref05_DocParse (K : Nat) : FuncId → Option Vm.Spec := addS (env_ref05_Write K) 9 (ref05_DocParse_spec K)
theorem env_ref05_DocParse_ok (K : Nat) : EnvOk Tryz.prog (env_ref05_DocParse K) := addS_ok (env_ref05_Write_ok K) (.inl ⟨callable Tryz.func9 (by kernel_rfl) (by kernel_rfl), ref05_DocParse_ok K⟩)
def law05_awake_dec : List U → Option (Bool) := fun u => match u with | [.b c0] => some (c0) | _ => none
def law05_awake_enc : (Bool) → List U := fun r => [.b r]
def law05_awake (K : Nat)  : Option (Bool) := ((money_Split K 0 100 [1, 1, 1]).bind fun r0 => ((money_Write K 2 12).bind fun r1 => (bi (r0.snd == 0)
    (bi ((↑r0.fst.length : Int) == 3)
    (bi (Bool.true && decide (0 < (↑r0.fst.length : Int)))
    (bi (nth 0 (nth [] r0.fst 0) 1 == 34)
    (bi (Bool.true && decide (1 < (↑r0.fst.length : Int)))
    (bi (nth 0 (nth [] r0.fst 1) 1 == 33)
    (bi (r1.snd == 0)
    (some (sEq r1.fst (ByteArray.mk #[74, 80, 89, 32, 49, 50])))
    (some Bool.false))
    (some Bool.false))
    none)
    (some Bool.false))
    none)
    (some Bool.false))
    (some Bool.false))))
theorem law05_awake_eq (K : Nat)  : (runF Tryz.prog (env_ref05_DocParse K) (lenv0) Tryz.f4 [] [.one (.bool)] law05_awake_dec []).den2 = law05_awake K  := by kernel_rfl
def law05_awake_w (K : Nat) : List U → Option (Bool) := fun us => match us with | [] => law05_awake K  | _ => none
def law05_awake_spec (K : Nat) : Vm.Spec := ⟨[], [.one (.bool)], Bool, law05_awake_w K, law05_awake_enc⟩
theorem law05_awake_ok (K : Nat) : FnOk Tryz.prog 4 (law05_awake_spec K) := fn_ok' hmix (env_ref05_DocParse_ok K) (lenv := lenv0) (args := []) (res := [.one (.bool)]) (G := law05_awake_w K) (enc := law05_awake_enc) Tryz.func4 (lps_fn (l := []) (by kernel_rfl) trivial) (dec := law05_awake_dec) (fun u r h => by unfold law05_awake_dec at h; split at h; (cases h; rfl); cases h) (fun us r h => by unfold law05_awake_w at h; split at h; exact ((den2_eq _).symm.trans (law05_awake_eq K)).trans h; cases h)
def env_law05_awake (K : Nat) : FuncId → Option Vm.Spec := addS (env_ref05_DocParse K) 4 (law05_awake_spec K)
theorem env_law05_awake_ok (K : Nat) : EnvOk Tryz.prog (env_law05_awake K) := addS_ok (env_ref05_DocParse_ok K) (.inl ⟨callable Tryz.func4 (by kernel_rfl) (by kernel_rfl), law05_awake_ok K⟩)
def law05_MoneyTexts_dec : List U → Option (Bool) := fun u => match u with | [.b c0] => some (c0) | _ => none
def law05_MoneyTexts_enc : (Bool) → List U := fun r => [.b r]
def law05_MoneyTexts (K : Nat) (x0_0 : Int) (x0_1 : Int) (s1 : ByteArray) : Option (Bool) := ((law05_awake K).bind fun r0 => (bi (!r0)
    (some Bool.false)
    ((money_Write K x0_0 x0_1).bind fun r1 => ((ref05_Form K x0_0 x0_1).bind fun r2 => (bi (!r2 == (r1.snd == 0))
    (some Bool.false)
    (bi (r1.snd == 0)
    ((ref05_Write K x0_0 x0_1).bind fun r3 => (bi (!sEq r1.fst r3)
    (some Bool.false)
    (bi (r1.snd != 0)
    (bi (r1.snd != 3)
    (some Bool.false)
    (bi (!sEq r1.fst (ByteArray.mk #[]))
    (some Bool.false)
    ((money_Parse K s1).bind fun r4 => ((ref05_DocParse K s1).bind fun r5 => (bi (!(r4.fst == r5.fst && (r4.snd.fst == r5.snd.fst && Bool.true)))
    (some Bool.false)
    (bi (r4.snd.snd != r5.snd.snd)
    (some Bool.false)
    (bi (r1.snd == 0)
    ((money_Parse K r1.fst).bind fun r6 => (bi (r6.snd.snd != 0)
    (some Bool.false)
    (bi (!(r6.fst == x0_0 && (r6.snd.fst == x0_1 && Bool.true)))
    (some Bool.false)
    (bi (r4.snd.snd == 0)
    ((money_Write K r4.fst r4.snd.fst).bind fun r7 => (bi (r7.snd == 0)
    (some (sEq r7.fst s1))
    (some Bool.false)))
    (some Bool.true)))))
    (bi (r4.snd.snd == 0)
    ((money_Write K r4.fst r4.snd.fst).bind fun r8 => (bi (r8.snd == 0)
    (some (sEq r8.fst s1))
    (some Bool.false)))
    (some Bool.true)))))))))
    ((money_Parse K s1).bind fun r9 => ((ref05_DocParse K s1).bind fun r10 => (bi (!(r9.fst == r10.fst && (r9.snd.fst == r10.snd.fst && Bool.true)))
    (some Bool.false)
    (bi (r9.snd.snd != r10.snd.snd)
    (some Bool.false)
    (bi (r1.snd == 0)
    ((money_Parse K r1.fst).bind fun r11 => (bi (r11.snd.snd != 0)
    (some Bool.false)
    (bi (!(r11.fst == x0_0 && (r11.snd.fst == x0_1 && Bool.true)))
    (some Bool.false)
    (bi (r9.snd.snd == 0)
    ((money_Write K r9.fst r9.snd.fst).bind fun r12 => (bi (r12.snd == 0)
    (some (sEq r12.fst s1))
    (some Bool.false)))
    (some Bool.true)))))
    (bi (r9.snd.snd == 0)
    ((money_Write K r9.fst r9.snd.fst).bind fun r13 => (bi (r13.snd == 0)
    (some (sEq r13.fst s1))
    (some Bool.false)))
    (some Bool.true))))))))))
    (bi (r1.snd != 0)
    (bi (r1.snd != 3)
    (some Bool.false)
    (bi (!sEq r1.fst (ByteArray.mk #[]))
    (some Bool.false)
    ((money_Parse K s1).bind fun r14 => ((ref05_DocParse K s1).bind fun r15 => (bi (!(r14.fst == r15.fst && (r14.snd.fst == r15.snd.fst && Bool.true)))
    (some Bool.false)
    (bi (r14.snd.snd != r15.snd.snd)
    (some Bool.false)
    (bi (r1.snd == 0)
    ((money_Parse K r1.fst).bind fun r16 => (bi (r16.snd.snd != 0)
    (some Bool.false)
    (bi (!(r16.fst == x0_0 && (r16.snd.fst == x0_1 && Bool.true)))
    (some Bool.false)
    (bi (r14.snd.snd == 0)
    ((money_Write K r14.fst r14.snd.fst).bind fun r17 => (bi (r17.snd == 0)
    (some (sEq r17.fst s1))
    (some Bool.false)))
    (some Bool.true)))))
    (bi (r14.snd.snd == 0)
    ((money_Write K r14.fst r14.snd.fst).bind fun r18 => (bi (r18.snd == 0)
    (some (sEq r18.fst s1))
    (some Bool.false)))
    (some Bool.true)))))))))
    ((money_Parse K s1).bind fun r19 => ((ref05_DocParse K s1).bind fun r20 => (bi (!(r19.fst == r20.fst && (r19.snd.fst == r20.snd.fst && Bool.true)))
    (some Bool.false)
    (bi (r19.snd.snd != r20.snd.snd)
    (some Bool.false)
    (bi (r1.snd == 0)
    ((money_Parse K r1.fst).bind fun r21 => (bi (r21.snd.snd != 0)
    (some Bool.false)
    (bi (!(r21.fst == x0_0 && (r21.snd.fst == x0_1 && Bool.true)))
    (some Bool.false)
    (bi (r19.snd.snd == 0)
    ((money_Write K r19.fst r19.snd.fst).bind fun r22 => (bi (r22.snd == 0)
    (some (sEq r22.fst s1))
    (some Bool.false)))
    (some Bool.true)))))
    (bi (r19.snd.snd == 0)
    ((money_Write K r19.fst r19.snd.fst).bind fun r23 => (bi (r23.snd == 0)
    (some (sEq r23.fst s1))
    (some Bool.false)))
    (some Bool.true))))))))))))))
theorem law05_MoneyTexts_eq (K : Nat) (x0_0 : Int) (x0_1 : Int) (s1 : ByteArray) : (runF Tryz.prog (env_law05_awake K) (lenv0) Tryz.f3 [.agg [.int .i64, .int .i64], .one (.str)] [.one (.bool)] law05_MoneyTexts_dec [.i x0_0, .i x0_1, .s s1]).den2 = law05_MoneyTexts K x0_0 x0_1 s1 := by kernel_rfl
def law05_MoneyTexts_w (K : Nat) : List U → Option (Bool) := fun us => match us with | [.i x0_0, .i x0_1, .s s1] => law05_MoneyTexts K x0_0 x0_1 s1 | _ => none
def law05_MoneyTexts_spec (K : Nat) : Vm.Spec := ⟨[.agg [.int .i64, .int .i64], .one (.str)], [.one (.bool)], Bool, law05_MoneyTexts_w K, law05_MoneyTexts_enc⟩
theorem law05_MoneyTexts_ok (K : Nat) : FnOk Tryz.prog 3 (law05_MoneyTexts_spec K) := fn_ok' hmix (env_law05_awake_ok K) (lenv := lenv0) (args := [.agg [.int .i64, .int .i64], .one (.str)]) (res := [.one (.bool)]) (G := law05_MoneyTexts_w K) (enc := law05_MoneyTexts_enc) Tryz.func3 (lps_fn (l := []) (by kernel_rfl) trivial) (dec := law05_MoneyTexts_dec) (fun u r h => by unfold law05_MoneyTexts_dec at h; split at h; (cases h; rfl); cases h) (fun us r h => by unfold law05_MoneyTexts_w at h; split at h; exact ((den2_eq _).symm.trans (law05_MoneyTexts_eq K _ _ _)).trans h; cases h)
def env_law05_MoneyTexts (K : Nat) : FuncId → Option Vm.Spec := addS (env_law05_awake K) 3 (law05_MoneyTexts_spec K)
theorem env_law05_MoneyTexts_ok (K : Nat) : EnvOk Tryz.prog (env_law05_MoneyTexts K) := addS_ok (env_law05_awake_ok K) (.inl ⟨callable Tryz.func3 (by kernel_rfl) (by kernel_rfl), law05_MoneyTexts_ok K⟩)
end Go.Proofs.YtfeifhlnidkbbaaGreatDoor.F
