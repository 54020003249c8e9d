import Derived.Test.YtfeifhlnidkbbaaGreatDoorVmY
import Derived.Test.YtfeifhlnidkbbaaGreatDoorVmRc
import Derived.Test.YtfeifhlnidkbbaaGreatDoorProg
import Derived.Test.YtfeifhlnidkbbaaGreatDoorFT
import Derived.Test.YtfeifhlnidkbbaaGreatDoorFV
namespace Go.Proofs.YtfeifhlnidkbbaaGreatDoor.F
open Go Go.Proofs.YtfeifhlnidkbbaaGreatDoor.Vm
set_option maxRecDepth 1000000
set_option linter.unusedVariables false
def digits_Parse_l7_pre : Vm.Pat := ⟨89, [(5, .pv (.one (.bool))), (6, .pv (.one (.str))), (7, .pv (.one (.int .i64))), (8, .pv (.one (.int .u64))), (9, .pv (.one (.int .u64))), (31, .pv (.one (.int .i64))), (32, .pv (.one (.int .i64))), (2, .box 0 0), (3, .box 1 0), (4, .box 2 0)], [.cells [.int .i64, .int .u64, .int .i64], .cells [.int .i64], .cells [.int .i64]], [0, 1, 2]⟩
def digits_Parse_l7_post0 : Vm.Pat := ⟨89, [(5, .pv (.one (.bool))), (7, .pv (.one (.int .i64))), (8, .pv (.one (.int .u64))), (9, .pv (.one (.int .u64))), (2, .box 0 0), (3, .box 1 0), (4, .box 2 0)], [.cells [.int .i64, .int .u64, .int .i64], .cells [.int .i64], .cells [.int .i64]], [0, 1, 2]⟩
def digits_Parse_l7_enc0 : Bool × Int × Int × Int × Int × Int × Int × Int × Int → List U := fun r => [.b r.1, .i r.2.1, .i r.2.2.1, .i r.2.2.2.1, .i r.2.2.2.2.1, .i r.2.2.2.2.2.1, .i r.2.2.2.2.2.2.1, .i r.2.2.2.2.2.2.2.1, .i r.2.2.2.2.2.2.2.2]
def digits_Parse_l7_dec0 : List U → Option (Bool × Int × Int × Int × Int × Int × Int × Int × Int) := fun u => match u with | [.b c5, .i x7, .i x8, .i x9, .i x2_0, .i x2_1, .i x2_2, .i x3_0, .i x4_0] => some (c5, x7, x8, x9, x2_0, x2_1, x2_2, x3_0, x4_0) | _ => none
def digits_Parse_l7_post1 : Vm.Pat := ⟨89, [(2, .box 0 0), (3, .box 1 0), (4, .box 2 0)], [.cells [.int .i64, .int .u64, .int .i64], .cells [.int .i64], .cells [.int .i64]], [0, 1, 2]⟩
def digits_Parse_l7_enc1 : Int × Int × Int × Int × Int → List U := fun r => [.i r.1, .i r.2.1, .i r.2.2.1, .i r.2.2.2.1, .i r.2.2.2.2]
def digits_Parse_l7_dec1 : List U → Option (Int × Int × Int × Int × Int) := fun u => match u with | [.i x2_0, .i x2_1, .i x2_2, .i x3_0, .i x4_0] => some (x2_0, x2_1, x2_2, x3_0, x4_0) | _ => none
def digits_Parse_l7 (K : Nat) : Nat → Bool → ByteArray → Int → Int → Int → Int → Int → Int → Int → Int → Int → Int → Option ((Bool × Int × Int × Int × Int × Int × Int × Int × Int) ⊕ (Int × Int × Int × Int × Int))
  | 0, _, _, _, _, _, _, _, _, _, _, _, _ => none
  | k + 1, c5, s6, x7, x8, x9, x31, x32, x2_0, x2_1, x2_2, x3_0, x4_0 => (bi (decide (x32 < x31))
    ((bits_Mul64 K x8 10).bind fun r0 => ((bits_Mul64 K x9 10).bind fun r1 => (bi (decide (0 ≤ x32) && decide (x32 < (↑s6.size : Int)))
    ((add64 r1.snd
  (IntKind.u64.wrap (IntKind.u8.wrap (bt s6 x32 - 48))) 0).bind fun r2 => ((add64 r0.snd r1.fst r2.snd).bind fun r3 => (bi (decide (r0.fst > 0))
    (some (Sum.inr (0, 0, 0, 0, 4)))
    (bi (decide (r3.snd > 0))
    (some (Sum.inr (0, 0, 0, 0, 4)))
    (bi (decide (r3.fst.fdiv 9223372036854775808 > 0))
    (some (Sum.inr (0, 0, 0, 0, 4)))
    (digits_Parse_l7 K k (c5) (s6) (x7) (r3.fst) (r2.fst) (x31) (IntKind.i64.wrap (x32 + 1)) (x2_0) (x2_1) (x2_2) (x3_0) (x4_0)))))))
    none)))
    (some (Sum.inl (c5, x7, x8, x9, x2_0, x2_1, x2_2, x3_0, x4_0))))
def digits_Parse_l7_w (K k : Nat) : List U → Option ((Bool × Int × Int × Int × Int × Int × Int × Int × Int) ⊕ (Int × Int × Int × Int × Int)) := fun us => match us with | [.b c5, .s s6, .i x7, .i x8, .i x9, .i x31, .i x32, .i x2_0, .i x2_1, .i x2_2, .i x3_0, .i x4_0] => digits_Parse_l7 K k c5 s6 x7 x8 x9 x31 x32 x2_0 x2_1 x2_2 x3_0 x4_0 | _ => none
theorem digits_Parse_l7_eq (K k : Nat) (c5 : Bool) (s6 : ByteArray) (x7 : Int) (x8 : Int) (x9 : Int) (x31 : Int) (x32 : Int) (x2_0 : Int) (x2_1 : Int) (x2_2 : Int) (x3_0 : Int) (x4_0 : Int) : (round2 Tryz.prog (env__digits_reader_read K) (lenv0) (lp (bodyOf Tryz.f19) 0) digits_Parse_l7_pre (.exit 0) digits_Parse_l7_post0 .ret digits_Parse_l7_post1 digits_Parse_l7_dec0 digits_Parse_l7_dec1 (digits_Parse_l7_w K k) [.b c5, .s s6, .i x7, .i x8, .i x9, .i x31, .i x32, .i x2_0, .i x2_1, .i x2_2, .i x3_0, .i x4_0]).den2 = digits_Parse_l7 K (k + 1) c5 s6 x7 x8 x9 x31 x32 x2_0 x2_1 x2_2 x3_0 x4_0 := by kernel_rfl
def digits_Parse_l7_s (K : Nat) : Vm.LS := .two digits_Parse_l7_pre _ _ (.exit 0) digits_Parse_l7_post0 .ret digits_Parse_l7_post1 (digits_Parse_l7_w K K) digits_Parse_l7_enc0 digits_Parse_l7_enc1
theorem digits_Parse_l7_ok (K : Nat) : LoopOk Tryz.prog (lp (bodyOf Tryz.f19) 0) (digits_Parse_l7_s K) := loop_two hmix (env__digits_reader_read_ok K) (lenv := lenv0) (L := digits_Parse_l7_w K) (enc := digits_Parse_l7_enc0) (dec := digits_Parse_l7_dec0) (enc' := digits_Parse_l7_enc1) (dec' := digits_Parse_l7_dec1) (lps_ok (l := []) (by kernel_rfl) trivial) (fun u r h => by unfold digits_Parse_l7_dec0 at h; split at h; (cases h; rfl); cases h) (fun u r h => by unfold digits_Parse_l7_dec1 at h; split at h; (cases h; rfl); cases h) (fun us => by unfold digits_Parse_l7_w; split <;> first | rfl | (simp only [digits_Parse_l7])) (fun k us r h => by unfold digits_Parse_l7_w at h; split at h; exact ((den2_eq _).symm.trans (digits_Parse_l7_eq K k _ _ _ _ _ _ _ _ _ _ _ _)).trans h; cases h) K
def digits_Parse_v7 (K : Nat) : Nat → Option Vm.LS := addL (lenv0) 7 (digits_Parse_l7_s K)
def digits_Parse_dec : List U → Option (Int × Int × Int × Int × Int) := fun u => match u with | [.i x0_0, .i x0_1, .i x0_2, .i x1, .i x2] => some (x0_0, x0_1, x0_2, x1, x2) | _ => none
def digits_Parse_enc : (Int × Int × Int × Int × Int) → List U := fun r => [.i r.1, .i r.2.1, .i r.2.2.1, .i r.2.2.2.1, .i r.2.2.2.2]
def digits_Parse (K : Nat) (s0 : ByteArray) : Option (Int × Int × Int × Int × Int) := (bi (decide ((↑s0.size : Int) > 64))
    (some ((0, 0, 0, 0, 2)))
    ((_digits_reader_read K s0 0).bind fun r0 => (bi (r0.fst)
    (casO (digits_Parse_l7 K K r0.snd.snd.fst r0.snd.snd.snd.fst r0.snd.snd.snd.snd.fst 0 0
  (↑r0.snd.snd.snd.fst.size : Int) 0 0 0 0 0 0) (fun r1 => (bi (r1.fst)
    ((dec_Neg K (IntKind.i64.wrap r1.snd.snd.fst) r1.snd.snd.snd.fst r1.snd.fst).bind fun r2 => (some ((r2.fst, r2.snd.fst, r2.snd.snd.fst, 0, 0))))
    (some ((IntKind.i64.wrap r1.snd.snd.fst, r1.snd.snd.snd.fst, r1.snd.fst, 0, 0))))) (fun r3 => (some ((r3.fst, r3.snd.fst, r3.snd.snd.fst, r3.snd.snd.snd.fst, r3.snd.snd.snd.snd)))))
    ((Option.some (0, 0, 0, r0.snd.fst, 6)).bind fun r4 => (some ((r4.fst, r4.snd.fst, r4.snd.snd.fst, r4.snd.snd.snd.fst, r4.snd.snd.snd.snd)))))))
theorem digits_Parse_eq (K : Nat) (s0 : ByteArray) : (runFR Tryz.prog (env__digits_reader_read K) (digits_Parse_v7 K) Tryz.f19 [.one (.str)] [.agg [.int .i64, .int .u64, .int .i64], .one (.int .i64), .one (.int .i64)] (seqA (bodyOf Tryz.f19)) (seqA (seqB (bodyOf Tryz.f19))) (seqB (seqB (seqB (bodyOf Tryz.f19)))) 21 [2, 3, 4] 84 digits_Parse_gs digits_Parse_dec [.s s0]).den2 = digits_Parse K s0 := by kernel_rfl
def digits_Parse_w (K : Nat) : List U → Option (Int × Int × Int × Int × Int) := fun us => match us with | [.s s0] => digits_Parse K s0 | _ => none
def digits_Parse_spec (K : Nat) : Vm.Spec := ⟨[.one (.str)], [.agg [.int .i64, .int .u64, .int .i64], .one (.int .i64), .one (.int .i64)], Int × Int × Int × Int × Int, digits_Parse_w K, digits_Parse_enc⟩
theorem digits_Parse_ok (K : Nat) : FnOk Tryz.prog 19 (digits_Parse_spec K) := fnR_ok hmix (env__digits_reader_read_ok K) (lenv := digits_Parse_v7 K) (sp := digits_Parse_spec K) (rid := regId (seqA (seqB (seqB (bodyOf Tryz.f19))))) (mk := regOp 0 (seqA (seqB (seqB (bodyOf Tryz.f19))))) (df := regOp 1 (seqA (seqB (seqB (bodyOf Tryz.f19))))) (tf := 21) (cs := [2, 3, 4]) (t0 := 84) (gs := digits_Parse_gs) Tryz.func19 (by kernel_rfl) (lps_ok (l := []) (by kernel_rfl) trivial) (lps_ok (l := []) (by kernel_rfl) trivial) (lps_ok (l := [lp (bodyOf Tryz.f19) 0]) (by kernel_rfl) ⟨⟨7, digits_Parse_l7_s K, by kernel_rfl, by kernel_rfl, digits_Parse_l7_ok K⟩, trivial⟩) (by kernel_rfl) (by kernel_rfl) (by kernel_rfl) (by kernel_rfl) (by kernel_rfl) (by kernel_rfl) digits_Parse_gs_func (by kernel_rfl) (by kernel_rfl) (digits_Parse_gs_quiet K) (digits_Parse_gs_mends K) (by kernel_rfl) (dec := digits_Parse_dec) (fun u r h => by unfold digits_Parse_dec at h; split at h; (cases h; rfl); cases h) (fun us r h => by unfold digits_Parse_spec digits_Parse_w at h; simp only at h; split at h; exact ((den2_eq _).symm.trans (digits_Parse_eq K _)).trans h; cases h)
def env_digits_Parse (K : Nat) : FuncId → Option Vm.Spec := addS (env__digits_reader_read K) 19 (digits_Parse_spec K)
theorem env_digits_Parse_ok (K : Nat) : EnvOk Tryz.prog (env_digits_Parse K) := addS_ok (env__digits_reader_read_ok K) (.inl ⟨callable Tryz.func19 (by kernel_rfl) (by kernel_rfl), digits_Parse_ok K⟩)
end Go.Proofs.YtfeifhlnidkbbaaGreatDoor.F
