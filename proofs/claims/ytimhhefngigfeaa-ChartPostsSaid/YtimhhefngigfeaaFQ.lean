import Derived.Test.YtimhhefngigfeaaVmY
import Derived.Test.YtimhhefngigfeaaVmRc
import Derived.Test.YtimhhefngigfeaaVmMq
import Derived.Test.YtimhhefngigfeaaProg
import Derived.Test.YtimhhefngigfeaaFL
namespace Go.Proofs.Ytimhhefngigfeaa.F
open Go Go.Proofs.Ytimhhefngigfeaa.Vm
set_option maxRecDepth 1000000
set_option linter.unusedVariables false
set_option linter.unusedSimpArgs false
noncomputable section
def law13_ChartPosts_l5_pre : Vm.Pat := ⟨65, [(14, .pv (.one (.ro [.sl [.int .i64, .int .i64, .int .i64, .int .u64, .int .i64]]))), (15, .pv (.one (.int .i64))), (16, .pv (.one (.int .i64))), (3, .box 0 0), (4, .mem 1 0 RLs)], [.cells [.map [.i64, .i64] [.i64, .u64, .i64], .int .i64], .mem RLs], []⟩
def law13_ChartPosts_l5_post0 : Vm.Pat := ⟨65, [], [], []⟩
def law13_ChartPosts_l5_enc0 : Unit → List U := fun _ => []
def law13_ChartPosts_l5_dec0 : List U → Option (Unit) := fun u => match u with | [] => some () | _ => none
def law13_ChartPosts_l5_post1 : Vm.Pat := ⟨65, [(2, .pv (.one (.bool)))], [], []⟩
def law13_ChartPosts_l5_enc1 : Bool → List U := fun r => [.b r]
def law13_ChartPosts_l5_dec1 : List U → Option (Bool) := fun u => match u with | [.b c2] => some (c2) | _ => none
def law13_ChartPosts_l5 (K : Nat) : Nat → List (List D) → Int → Int → MpT → Int → List D → Option ((Unit) ⊕ (Bool))
 | 0, _, _, _, _, _, _ => none
 | k + 1, dd14, x15, x16, m3_0, x3_1, e4 => (bi (decide (x16 < x15))
 (bi (decide (0 ≤ x16) && decide (x16 < (↑dd14.length : Int)))
 (bi (decide (x16 ≥ 60))
 (some (Sum.inl ()))
 (bi (decide
 (0 +
 (List.map
 (fun r =>
 [(nth d0 r 0).toI,
 (nth d0 r 1).toI,
 (nth d0 r 2).toI,
 (nth d0 r 3).toI,
 (nth d0 r 4).toI])
 (nth d0
 (nth [] dd14 x16.toNat) 0).toL).length ≤
 3518437208883))
 (bi (decide
 (([] ++
 List.map
 (fun r =>
 [(nth d0 r 0).toI,
 (nth d0 r 1).toI,
 (nth d0 r 2).toI,
 (nth d0 r 3).toI,
 (nth d0 r 4).toI])
 (nth d0
 (nth [] dd14 x16.toNat) 0).toL).length +
 1 ≤
 3518437208883))
 (bi (true &&
 decide
 (0 ≤
 (↑(nth d0
 (nth [] dd14 x16.toNat) 0).toL.length :
 Int)) &&
 decide
 ((↑(nth d0
 (nth [] dd14 x16.toNat) 0).toL.length :
 Int) ≤
 (↑([] ++
 List.map
 (fun r =>
 [(nth d0 r 0).toI,
 (nth d0 r 1).toI,
 (nth d0 r 2).toI,
 (nth d0 r 3).toI,
 (nth d0 r 4).toI])
 (nth d0
 (nth [] dd14 x16.toNat) 0).toL ++
 [[77, 0, 0, 0, 0]]).length :
 Int)))
 ((cL_Post K m3_0 x3_1
 (List.take
 ((↑(nth d0
 (nth [] dd14 x16.toNat) 0).toL.length :
 Int).toNat -
 0)
 (List.drop 0
 ([] ++
 List.map
 (fun r =>
 [(nth d0 r 0).toI,
 (nth d0 r 1).toI,
 (nth d0 r 2).toI,
 (nth d0 r 3).toI,
 (nth d0 r 4).toI])
 (nth d0
 (nth [] dd14 x16.toNat) 0).toL ++
 [[77, 0, 0, 0, 0]])))).bind fun r0 => ((r13_DocPost K e4
 (D.l
 (nth d0
 (nth [] dd14 x16.toNat) 0).toL).toL).bind fun r1 => (bi (r0.fst != r1.fst)
 (some (Sum.inr false))
 (bi (true &&
 decide
 (0 ≤
 (↑(nth d0
 (nth [] dd14 x16.toNat) 0).toL.length :
 Int)) &&
 decide
 ((↑(nth d0
 (nth [] dd14 x16.toNat) 0).toL.length :
 Int) ≤
 (↑([] ++
 List.map
 (fun r =>
 [(nth d0 r 0).toI,
 (nth d0 r 1).toI,
 (nth d0 r 2).toI,
 (nth d0 r 3).toI,
 (nth d0 r 4).toI])
 (nth d0
 (nth [] dd14 x16.toNat) 0).toL ++
 [[77, 0, 0, 0, 0]]).length :
 Int)))
 ((r13_Same K
 (List.take
 ((↑(nth d0
 (nth [] dd14 x16.toNat) 0).toL.length :
 Int).toNat -
 0)
 (List.drop 0
 ([] ++
 List.map
 (fun r =>
 [(nth d0 r 0).toI,
 (nth d0 r 1).toI,
 (nth d0 r 2).toI,
 (nth d0 r 3).toI,
 (nth d0 r 4).toI])
 (nth d0
 (nth [] dd14 x16.toNat) 0).toL ++
 [[77, 0, 0, 0, 0]])))
 (D.l
 (nth d0
 (nth [] dd14 x16.toNat) 0).toL).toL).bind fun r2 => (bi (!r2)
 (some (Sum.inr false))
 (bi (decide
 (0 ≤
 (↑(nth d0
 (nth [] dd14 x16.toNat) 0).toL.length :
 Int)) &&
 decide
 ((↑(nth d0
 (nth [] dd14 x16.toNat) 0).toL.length :
 Int) <
 (↑([] ++
 List.map
 (fun r =>
 [(nth d0 r 0).toI,
 (nth d0 r 1).toI,
 (nth d0 r 2).toI,
 (nth d0 r 3).toI,
 (nth d0 r 4).toI])
 (nth d0
 (nth [] dd14 x16.toNat) 0).toL ++
 [[77, 0, 0, 0, 0]]).length :
 Int)))
 (bi (nth 0
 (nth []
 ([] ++
 List.map
 (fun r =>
 [(nth d0 r 0).toI,
 (nth d0 r 1).toI,
 (nth d0 r 2).toI,
 (nth d0 r 3).toI,
 (nth d0 r 4).toI])
 (nth d0
 (nth [] dd14 x16.toNat) 0).toL ++
 [[77, 0, 0, 0, 0]])
 (↑(nth d0
 (nth [] dd14 x16.toNat) 0).toL.length :
 Int).toNat)
 0 !=
 77)
 (some (Sum.inr false))
 ((law13_alike K r0.snd.fst r0.snd.snd r1.snd).bind fun r3 => (bi (!r3.fst)
 (some (Sum.inr false))
 (law13_ChartPosts_l5 K k ((D.l dd14).toL) (x15) (IntKind.i64.wrap (x16 + 1)) (r3.snd.fst) (r3.snd.snd.fst) (r3.snd.snd.snd)))))
 none)))
 none))))
 none)
 none)
 none))
 none)
 (some (Sum.inl ())))
def law13_ChartPosts_l5_w (K k : Nat) : List U → Option ((Unit) ⊕ (Bool)) := fun us => match us with | [.d dd14, .i x15, .i x16, .m m3_0, .i x3_1, .ds e4] => law13_ChartPosts_l5 K k dd14 x15 x16 m3_0 x3_1 e4 | _ => none
theorem law13_ChartPosts_l5_eq (K k : Nat) (dd14 : List (List D)) (x15 : Int) (x16 : Int) (m3_0 : MpT) (x3_1 : Int) (e4 : List D) : (round2K Try.prog (env_law13_alike K) (lenv0) (lp (bodyOf Try.f3) 0) law13_ChartPosts_l5_pre (.exit 0) law13_ChartPosts_l5_post0 .ret law13_ChartPosts_l5_post1 law13_ChartPosts_l5_dec0 law13_ChartPosts_l5_dec1 (law13_ChartPosts_l5_w K k) [.d dd14, .i x15, .i x16, .m m3_0, .i x3_1, .ds e4]).den2 = law13_ChartPosts_l5 K (k + 1) dd14 x15 x16 m3_0 x3_1 e4 := by kernel_rfl
def law13_ChartPosts_l5_s (K : Nat) : Vm.LS := .two law13_ChartPosts_l5_pre _ _ (.exit 0) law13_ChartPosts_l5_post0 .ret law13_ChartPosts_l5_post1 (law13_ChartPosts_l5_w K K) law13_ChartPosts_l5_enc0 law13_ChartPosts_l5_enc1
theorem law13_ChartPosts_l5_ok (K : Nat) : LoopOk Try.prog (lp (bodyOf Try.f3) 0) (law13_ChartPosts_l5_s K) := loop_twoK hmix (env_law13_alike_ok K) (lenv := lenv0) (L := law13_ChartPosts_l5_w K) (enc := law13_ChartPosts_l5_enc0) (dec := law13_ChartPosts_l5_dec0) (enc' := law13_ChartPosts_l5_enc1) (dec' := law13_ChartPosts_l5_dec1) (lps_ok (l := []) (by kernel_rfl) trivial) (fun u r h => by unfold law13_ChartPosts_l5_dec0 at h; split at h; (cases h; rfl); cases h) (fun u r h => by unfold law13_ChartPosts_l5_dec1 at h; split at h; (cases h; rfl); cases h) (fun us => by unfold law13_ChartPosts_l5_w; split <;> first | rfl | (simp only [law13_ChartPosts_l5])) (fun k us r h => by unfold law13_ChartPosts_l5_w at h; split at h; exact ((den2_eq _).symm.trans (law13_ChartPosts_l5_eq K k _ _ _ _ _ _)).trans h; cases h) K
def law13_ChartPosts_v5 (K : Nat) : Nat → Option Vm.LS := addL (lenv0) 5 (law13_ChartPosts_l5_s K)
def law13_ChartPosts_dec : List U → Option (Bool) := fun u => match u with | [.b c0] => some (c0) | _ => none
def law13_ChartPosts_enc : (Bool) → List U := fun r => [.b r]
def law13_ChartPosts (K : Nat) (dd0 : List (List D)) : Option (Bool) := ((law13_awake K).bind fun r0 => (bi (!r0)
 (some false)
 ((ct_New K).bind fun r1 => (casO (law13_ChartPosts_l5 K K (D.l dd0).toL (↑dd0.length : Int) 0
 r1.fst r1.snd
 [D.b false, D.l [],
 D.b false, D.l [],
 D.b false, D.l [],
 D.b false, D.l [],
 D.b false, D.l [],
 D.b false, D.l [],
 D.b false, D.l [],
 D.b false, D.l [],
 D.b false, D.l [],
 D.b false, D.l [],
 D.b false, D.l [],
 D.b false, D.l [],
 D.b false, D.l [],
 D.b false, D.l [],
 D.b false, D.l [],
 D.b false, D.l [],
 D.b false, D.l [],
 D.b false, D.l [],
 D.b false, D.l [],
 D.b false, D.l [],
 D.b false, D.l [],
 D.b false, D.l [],
 D.b false, D.l [],
 D.b false, D.l [],
 D.b false, D.l [],
 D.b false, D.l [],
 D.b false, D.l [],
 D.b false, D.l [],
 D.b false, D.l [],
 D.b false, D.l [],
 D.b false, D.l [],
 D.b false, D.l [],
 D.b false, D.l [],
 D.b false, D.l [],
 D.b false, D.l [],
 D.b false, D.l [],
 D.i 0]) (fun r2 => (some true)) (fun r3 => (some r3))))))
theorem law13_ChartPosts_eq (K : Nat) (dd0 : List (List D)) : (runFK Try.prog (env_law13_alike K) (law13_ChartPosts_v5 K) Try.f3 [.one (.ro [.sl [.int .i64, .int .i64, .int .i64, .int .u64, .int .i64]])] [.one (.bool)] law13_ChartPosts_dec [.d dd0]).den2 = law13_ChartPosts K dd0 := by kernel_rfl
def law13_ChartPosts_w (K : Nat) : List U → Option (Bool) := fun us => match us with | [.d dd0] => law13_ChartPosts K dd0 | _ => none
def law13_ChartPosts_spec (K : Nat) : Vm.Spec := ⟨[.one (.ro [.sl [.int .i64, .int .i64, .int .i64, .int .u64, .int .i64]])], [.one (.bool)], Bool, law13_ChartPosts_w K, law13_ChartPosts_enc⟩
theorem law13_ChartPosts_ok (K : Nat) : FnOk Try.prog 3 (law13_ChartPosts_spec K) := fn_okK' hmix (env_law13_alike_ok K) (lenv := law13_ChartPosts_v5 K) (args := [.one (.ro [.sl [.int .i64, .int .i64, .int .i64, .int .u64, .int .i64]])]) (res := [.one (.bool)]) (G := law13_ChartPosts_w K) (enc := law13_ChartPosts_enc) Try.func3 (lps_fn (l := [lp (bodyOf Try.f3) 0]) (by kernel_rfl) ⟨⟨5, law13_ChartPosts_l5_s K, by kernel_rfl, by kernel_rfl, law13_ChartPosts_l5_ok K⟩, trivial⟩) (dec := law13_ChartPosts_dec) (fun u r h => by unfold law13_ChartPosts_dec at h; split at h; (cases h; rfl); cases h) (fun us r h => by unfold law13_ChartPosts_w at h; split at h; exact ((den2_eq _).symm.trans (law13_ChartPosts_eq K _)).trans h; cases h)
def env_law13_ChartPosts (K : Nat) : FuncId → Option Vm.Spec := addS (env_law13_alike K) 3 (law13_ChartPosts_spec K)
theorem env_law13_ChartPosts_ok (K : Nat) : EnvOk Try.prog (env_law13_ChartPosts K) := addS_ok (env_law13_alike_ok K) (.inl ⟨callable Try.func3 (by kernel_rfl) (by kernel_rfl), law13_ChartPosts_ok K⟩)
end
end Go.Proofs.Ytimhhefngigfeaa.F
