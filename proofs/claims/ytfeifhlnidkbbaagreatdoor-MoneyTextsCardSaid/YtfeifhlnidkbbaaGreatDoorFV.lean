import Derived.Test.YtfeifhlnidkbbaaGreatDoorVmY
import Derived.Test.YtfeifhlnidkbbaaGreatDoorVmRc
import Derived.Test.YtfeifhlnidkbbaaGreatDoorProg
import Derived.Test.YtfeifhlnidkbbaaGreatDoorFT
namespace Go.Proofs.YtfeifhlnidkbbaaGreatDoor.F
open Go Go.Proofs.YtfeifhlnidkbbaaGreatDoor.Vm
set_option maxRecDepth 1000000
set_option linter.unusedVariables false
def digits_Parse_gs : Int → Vm.Spec := fun n => ⟨[.ptr [.int .i64, .int .u64, .int .i64], .ptr [.int .i64], .ptr [.int .i64]], [], Int × Int × Int × Int × Int, fun us => match us with | [.i _, .i _, .i _, .i _, .i _] => some (0, 0, 0, n, 6) | _ => none, fun r => [.i r.1, .i r.2.1, .i r.2.2.1, .i r.2.2.2.1, .i r.2.2.2.2]⟩
def digits_Parse_gdec : Int → List U → Option (Int × Int × Int × Int × Int) := fun _ u => match u with | [.i a, .i b, .i c, .i d, .i e] => some (a, b, c, d, e) | _ => none
theorem digits_Parse_gs_func : Tryz.prog.funcs[41]? = some Tryz.f41 := Tryz.func41
theorem digits_Parse_gs_quiet (K : Nat) : Quiet Tryz.prog 41 [2, 3, 4].length := quiet_ok hmix (env0_ok) (lenv := lenv0) (r0 := 0) (tr := 6) (rc := regOp 0 (seqA (bodyOf Tryz.f41))) (c := seqB (bodyOf Tryz.f41)) Tryz.func41 (by kernel_rfl) (by kernel_rfl) (by kernel_rfl) (by kernel_rfl) (by kernel_rfl) (lps_ok (l := []) (by kernel_rfl) trivial) (by decide) (by kernel_rfl)
theorem digits_Parse_gs_eq (n a b c d e : Int) : (runCl Tryz.prog env0 lenv0 Tryz.f41 (digits_Parse_gs n).args (seqB (bodyOf Tryz.f41)) 6 (.iface 84 (.int .i64 n)) (digits_Parse_gdec n) [.i a, .i b, .i c, .i d, .i e]).den2 = some (0, 0, 0, n, 6) := by kernel_rfl
theorem digits_Parse_gs_mends (K : Nat) : Mends Tryz.prog 41 84 digits_Parse_gs := mends_ok hmix (env0_ok) (lenv := lenv0) (rc := regOp 0 (seqA (bodyOf Tryz.f41))) (r0 := 0) (tr := 6) (c := seqB (bodyOf Tryz.f41)) Tryz.func41 (by kernel_rfl) (by kernel_rfl) (by kernel_rfl) (by kernel_rfl) (by kernel_rfl) (lps_ok (l := []) (by kernel_rfl) trivial) (fun _ => rfl) (dec := digits_Parse_gdec) (fun n u r h => by unfold digits_Parse_gdec at h; split at h; (cases h; rfl); cases h) (fun n us r h => by unfold digits_Parse_gs at h; simp only at h; split at h; exact ((den2_eq _).symm.trans (digits_Parse_gs_eq n _ _ _ _ _)).trans h; cases h)
end Go.Proofs.YtfeifhlnidkbbaaGreatDoor.F
