import Derived.Test.YtimhhefngigfeaaVmY
import Derived.Test.YtimhhefngigfeaaVmRc
import Derived.Test.YtimhhefngigfeaaVmMq
import Derived.Test.YtimhhefngigfeaaProg
import Derived.Test.YtimhhefngigfeaaFK
namespace Go.Proofs.Ytimhhefngigfeaa.F
open Go Go.Proofs.Ytimhhefngigfeaa.Vm
set_option maxRecDepth 1000000
set_option linter.unusedVariables false
set_option linter.unusedSimpArgs false
noncomputable section
def law13_alike_l4_pre : Vm.Pat := ⟨41, [(5, .pv (.one (.recs [.i64, .i64, .i64, .u64, .i64] true))), (6, .pv (.one (.bool))), (24, .pv (.one (.int .i64))), (25, .pv (.one (.int .i64))), (0, .box 0 0), (1, .mem 1 0 RLs)], [.cells [.map [.i64, .i64] [.i64, .u64, .i64], .int .i64], .mem RLs], [0, 1]⟩
def law13_alike_l4_post0 : Vm.Pat := ⟨41, [(6, .pv (.one (.bool))), (0, .box 0 0), (1, .mem 1 0 RLs)], [.cells [.map [.i64, .i64] [.i64, .u64, .i64], .int .i64], .mem RLs], [0, 1]⟩
def law13_alike_l4_enc0 : Bool × MpT × Int × List D → List U := fun r => [.b r.1, .m r.2.1, .i r.2.2.1, .ds r.2.2.2]
def law13_alike_l4_dec0 : List U → Option (Bool × MpT × Int × List D) := fun u => match u with | [.b c6, .m m0_0, .i x0_1, .ds e1] => some (c6, m0_0, x0_1, e1) | _ => none
def law13_alike_l4 (K : Nat) : Nat → List (List Int) → Bool → Int → Int → MpT → Int → List D → Option (Bool × MpT × Int × List D)
 | 0, _, _, _, _, _, _, _ => none
 | k + 1, q5, c6, x24, x25, m0_0, x0_1, e1 => (bi (decide (x25 < x24))
 (bi (decide (0 ≤ x25) && decide (x25 < (↑q5.length : Int)))
 (law13_alike_l4 K k (q5.set x25.toNat
 [9, nth 0 (nth [] q5 x25.toNat) 1,
 nth 0 (nth [] q5 x25.toNat) 2,
 nth 0 (nth [] q5 x25.toNat) 3,
 nth 0 (nth [] q5 x25.toNat) 4]) (c6) (x24) (IntKind.i64.wrap (x25 + 1)) (m0_0) (x0_1) (e1))
 none)
 (some ((c6, m0_0, x0_1, e1))))
def law13_alike_l4_w (K k : Nat) : List U → Option (Bool × MpT × Int × List D) := fun us => match us with | [.rr q5, .b c6, .i x24, .i x25, .m m0_0, .i x0_1, .ds e1] => law13_alike_l4 K k q5 c6 x24 x25 m0_0 x0_1 e1 | _ => none
theorem law13_alike_l4_eq (K k : Nat) (q5 : List (List Int)) (c6 : Bool) (x24 : Int) (x25 : Int) (m0_0 : MpT) (x0_1 : Int) (e1 : List D) : (round1K Try.prog (env_r13_DocPost K) (lenv0) (lp (bodyOf Try.f14) 0) law13_alike_l4_pre (.exit 0) law13_alike_l4_post0 law13_alike_l4_dec0 (law13_alike_l4_w K k) [.rr q5, .b c6, .i x24, .i x25, .m m0_0, .i x0_1, .ds e1]).den2 = law13_alike_l4 K (k + 1) q5 c6 x24 x25 m0_0 x0_1 e1 := by kernel_rfl
def law13_alike_l4_s (K : Nat) : Vm.LS := .one law13_alike_l4_pre _ (.exit 0) law13_alike_l4_post0 (law13_alike_l4_w K K) law13_alike_l4_enc0
theorem law13_alike_l4_ok (K : Nat) : LoopOk Try.prog (lp (bodyOf Try.f14) 0) (law13_alike_l4_s K) := loop_oneK hmix (env_r13_DocPost_ok K) (lenv := lenv0) (L := law13_alike_l4_w K) (enc := law13_alike_l4_enc0) (dec := law13_alike_l4_dec0) (lps_ok (l := []) (by kernel_rfl) trivial) (fun u r h => by unfold law13_alike_l4_dec0 at h; split at h; (cases h; rfl); cases h) (fun us => by unfold law13_alike_l4_w; split <;> first | rfl | (simp only [law13_alike_l4])) (fun k us r h => by unfold law13_alike_l4_w at h; split at h; exact ((den2_eq _).symm.trans (law13_alike_l4_eq K k _ _ _ _ _ _ _)).trans h; cases h) K
def law13_alike_v4 (K : Nat) : Nat → Option Vm.LS := addL (lenv0) 4 (law13_alike_l4_s K)
def law13_alike_dec : List U → Option (Bool × MpT × Int × List D) := fun u => match u with | [.b c0, .m m1_0, .i x1_1, .ds e2] => some (c0, m1_0, x1_1, e2) | _ => none
def law13_alike_enc : (Bool × MpT × Int × List D) → List U := fun r => [.b r.1, .m r.2.1, .i r.2.2.1, .ds r.2.2.2]
def law13_alike (K : Nat) (m0_0 : MpT) (x0_1 : Int) (e1 : List D) : Option (Bool × MpT × Int × List D) := ((cL_Trial K m0_0 x0_1).bind fun r0 => ((r13_Trial K e1).bind fun r1 => ((r13_Same K r0.fst
 (D.l
 (List.map
 (fun r =>
 [D.i (nth 0 r 0),
 D.i (nth 0 r 1),
 D.i (nth 0 r 2),
 D.i (nth 0 r 3),
 D.i (nth 0 r 4)])
 r1.fst)).toL).bind fun r2 => (bi (r2)
 ((cL_Entries K r0.snd.fst r0.snd.snd).bind fun r3 => ((law13_alike_l4 K K r0.fst
 (r3.fst == (nth d0 r1.snd 72).toI) (↑r0.fst.length : Int)
 0 r3.snd.fst r3.snd.snd r1.snd).bind fun r4 => (bi (r4.fst)
 ((cL_Trial K r4.snd.fst r4.snd.snd.fst).bind fun r5 => ((r13_Trial K r4.snd.snd.snd).bind fun r6 => ((r13_Same K r5.fst
 (D.l
 (List.map
 (fun r =>
 [D.i (nth 0 r 0),
 D.i (nth 0 r 1),
 D.i (nth 0 r 2),
 D.i (nth 0 r 3),
 D.i (nth 0 r 4)])
 r6.fst)).toL).bind fun r7 => (some ((r7, r5.snd.fst, r5.snd.snd, r6.snd))))))
 (some ((false, r4.snd.fst, r4.snd.snd.fst, r4.snd.snd.snd))))))
 ((law13_alike_l4 K K r0.fst false (↑r0.fst.length : Int) 0 r0.snd.fst r0.snd.snd r1.snd).bind fun r8 => (bi (r8.fst)
 ((cL_Trial K r8.snd.fst r8.snd.snd.fst).bind fun r9 => ((r13_Trial K r8.snd.snd.snd).bind fun r10 => ((r13_Same K r9.fst
 (D.l
 (List.map
 (fun r =>
 [D.i (nth 0 r 0),
 D.i (nth 0 r 1),
 D.i (nth 0 r 2),
 D.i (nth 0 r 3),
 D.i (nth 0 r 4)])
 r10.fst)).toL).bind fun r11 => (some ((r11, r9.snd.fst, r9.snd.snd, r10.snd))))))
 (some ((false, r8.snd.fst, r8.snd.snd.fst, r8.snd.snd.snd)))))))))
theorem law13_alike_eq (K : Nat) (m0_0 : MpT) (x0_1 : Int) (e1 : List D) : (runFK Try.prog (env_r13_DocPost K) (law13_alike_v4 K) Try.f14 [.ptr [.map [.i64, .i64] [.i64, .u64, .i64], .int .i64], .mptr RLs] [.one (.bool)] law13_alike_dec [.m m0_0, .i x0_1, .ds e1]).den2 = law13_alike K m0_0 x0_1 e1 := by kernel_rfl
def law13_alike_w (K : Nat) : List U → Option (Bool × MpT × Int × List D) := fun us => match us with | [.m m0_0, .i x0_1, .ds e1] => law13_alike K m0_0 x0_1 e1 | _ => none
def law13_alike_spec (K : Nat) : Vm.Spec := ⟨[.ptr [.map [.i64, .i64] [.i64, .u64, .i64], .int .i64], .mptr RLs], [.one (.bool)], Bool × MpT × Int × List D, law13_alike_w K, law13_alike_enc⟩
theorem law13_alike_ok (K : Nat) : FnOk Try.prog 14 (law13_alike_spec K) := fn_okK' hmix (env_r13_DocPost_ok K) (lenv := law13_alike_v4 K) (args := [.ptr [.map [.i64, .i64] [.i64, .u64, .i64], .int .i64], .mptr RLs]) (res := [.one (.bool)]) (G := law13_alike_w K) (enc := law13_alike_enc) Try.func14 (lps_fn (l := [lp (bodyOf Try.f14) 0]) (by kernel_rfl) ⟨⟨4, law13_alike_l4_s K, by kernel_rfl, by kernel_rfl, law13_alike_l4_ok K⟩, trivial⟩) (dec := law13_alike_dec) (fun u r h => by unfold law13_alike_dec at h; split at h; (cases h; rfl); cases h) (fun us r h => by unfold law13_alike_w at h; split at h; exact ((den2_eq _).symm.trans (law13_alike_eq K _ _ _)).trans h; cases h)
def env_law13_alike (K : Nat) : FuncId → Option Vm.Spec := addS (env_r13_DocPost K) 14 (law13_alike_spec K)
theorem env_law13_alike_ok (K : Nat) : EnvOk Try.prog (env_law13_alike K) := addS_ok (env_r13_DocPost_ok K) (.inl ⟨callable Try.func14 (by kernel_rfl) (by kernel_rfl), law13_alike_ok K⟩)
end
end Go.Proofs.Ytimhhefngigfeaa.F
