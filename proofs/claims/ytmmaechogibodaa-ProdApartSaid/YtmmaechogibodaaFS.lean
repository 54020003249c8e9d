import Derived.Test.YtmmaechogibodaaVmY
import Derived.Test.YtmmaechogibodaaVmRc
import Derived.Test.YtmmaechogibodaaVmCl
import Derived.Test.YtmmaechogibodaaProg
import Derived.Test.YtmmaechogibodaaVmRg
import Derived.Test.YtmmaechogibodaaFA
import Derived.Test.YtmmaechogibodaaFB
import Derived.Test.YtmmaechogibodaaFV
import Derived.Test.YtmmaechogibodaaFC
import Derived.Test.YtmmaechogibodaaFD
import Derived.Test.YtmmaechogibodaaFO
import Derived.Test.YtmmaechogibodaaFP
namespace Go.Proofs.Ytmmaechogibodaa.F
open Go Go.Proofs.Ytmmaechogibodaa.Vm
set_option maxRecDepth 1000000
set_option linter.unusedVariables false
set_option linter.unusedSimpArgs false
noncomputable section
-- passbook/passbooklaw12.of
def law12_of_ro_dec : List U → Option (Int × Int × Int × Int × Int × Int × Int × Int × List (List Int)) := fun u => match u with | [.i x0_0, .i x0_1, .i x0_2, .i x0_3, .i x0_4, .i x0_5, .i x0_6, .i x0_7, .rr q0_8] => some (x0_0, x0_1, x0_2, x0_3, x0_4, x0_5, x0_6, x0_7, q0_8) | _ => none
def law12_of_ro_enc : (Int × Int × Int × Int × Int × Int × Int × Int × List (List Int)) → List U := fun r => [.i r.1, .i r.2.1, .i r.2.2.1, .i r.2.2.2.1, .i r.2.2.2.2.1, .i r.2.2.2.2.2.1, .i r.2.2.2.2.2.2.1, .i r.2.2.2.2.2.2.2.1, .rr r.2.2.2.2.2.2.2.2]
def law12_of_ro (K : Nat) (x0_0 : Int) (x0_1 : Int) (x0_2 : Int) (x0_3 : Int) (x0_4 : Int) (x0_5 : Int) (x0_6 : Int) (x0_7 : Int) (dd0_8 : List (List D)) : Option (Int × Int × Int × Int × Int × Int × Int × Int × List (List Int)) := (bi (Decidable.decide
  (0 +
      (List.map
          (fun r =>
            [(nth d0 r 0).toI,
              (nth d0 r 1).toI])
          dd0_8).length ≤
    8796093022208))
    (bi (Decidable.decide
  (([] ++
          List.map
            (fun r =>
              [(nth d0 r 0).toI,
                (nth d0 r 1).toI])
            dd0_8).length +
      1 ≤
    8796093022208))
    (bi (Bool.true && Decidable.decide (0 ≤ (↑dd0_8.length : Int)) &&
  Decidable.decide
    ((↑dd0_8.length : Int) ≤
      (↑([] ++
                List.map
                  (fun r =>
                    [(nth d0 r 0).toI,
                      (nth d0 r 1).toI])
                  dd0_8 ++
              [[77, 0]]).length :
        Int)))
    (some ((x0_0, x0_1, x0_2, x0_3, x0_4, x0_5, x0_6, x0_7,
  List.take ((↑dd0_8.length : Int).toNat - 0)
    (List.drop 0
      ([] ++
          List.map
            (fun r =>
              [(nth d0 r 0).toI,
                (nth d0 r 1).toI])
            dd0_8 ++
        [[77, 0]])))))
    none)
    none)
    none)
theorem law12_of_ro_eq (K : Nat) (x0_0 : Int) (x0_1 : Int) (x0_2 : Int) (x0_3 : Int) (x0_4 : Int) (x0_5 : Int) (x0_6 : Int) (x0_7 : Int) (dd0_8 : List (List D)) : (runFK Go.Proofs.Try.prog (env_law12_ProdNil K) (lenv0) Go.Proofs.Try.f8 [.agg [.int .i64, .int .i64, .int .i64, .int .i64, .int .i64, .int .i64, .int .i64, .int .i64, .ro [.int .i64, .int .i64]]] [.agg [.int .i64, .int .i64, .int .i64, .int .i64, .int .i64, .int .i64, .int .i64, .int .i64, .recs [.i64, .i64] false]] law12_of_ro_dec [.i x0_0, .i x0_1, .i x0_2, .i x0_3, .i x0_4, .i x0_5, .i x0_6, .i x0_7, .d dd0_8]).den2 = law12_of_ro K x0_0 x0_1 x0_2 x0_3 x0_4 x0_5 x0_6 x0_7 dd0_8 := by kernel_rfl
def law12_of_ro_w (K : Nat) : List U → Option (Int × Int × Int × Int × Int × Int × Int × Int × List (List Int)) := fun us => match us with | [.i x0_0, .i x0_1, .i x0_2, .i x0_3, .i x0_4, .i x0_5, .i x0_6, .i x0_7, .d dd0_8] => law12_of_ro K x0_0 x0_1 x0_2 x0_3 x0_4 x0_5 x0_6 x0_7 dd0_8 | _ => none
def law12_of_ro_spec (K : Nat) : Vm.Spec := ⟨[.agg [.int .i64, .int .i64, .int .i64, .int .i64, .int .i64, .int .i64, .int .i64, .int .i64, .ro [.int .i64, .int .i64]]], [.agg [.int .i64, .int .i64, .int .i64, .int .i64, .int .i64, .int .i64, .int .i64, .int .i64, .recs [.i64, .i64] false]], Int × Int × Int × Int × Int × Int × Int × Int × List (List Int), law12_of_ro_w K, law12_of_ro_enc⟩
theorem law12_of_ro_ok (K : Nat) : FnOk Go.Proofs.Try.prog 8 (law12_of_ro_spec K) := fn_okK' hmix (env_law12_ProdNil_ok K) (lenv := lenv0) (args := [.agg [.int .i64, .int .i64, .int .i64, .int .i64, .int .i64, .int .i64, .int .i64, .int .i64, .ro [.int .i64, .int .i64]]]) (res := [.agg [.int .i64, .int .i64, .int .i64, .int .i64, .int .i64, .int .i64, .int .i64, .int .i64, .recs [.i64, .i64] false]]) (G := law12_of_ro_w K) (enc := law12_of_ro_enc) Go.Proofs.Try.func8 (lps_fn (l := []) (by kernel_rfl) trivial) (dec := law12_of_ro_dec) (fun u r h => by unfold law12_of_ro_dec at h; split at h; (obtain rfl := Option.some.inj h; rfl); cases h) (fun us r h => by unfold law12_of_ro_w at h; split at h; exact ((den2_eq _).symm.trans (law12_of_ro_eq K _ _ _ _ _ _ _ _ _)).trans h; cases h)
def env_law12_of_ro (K : Nat) : FuncId → Option Vm.Spec := addS (env_law12_ProdNil K) 1000008 (law12_of_ro_spec K)
theorem env_law12_of_ro_ok (K : Nat) : EnvOk Go.Proofs.Try.prog (env_law12_of_ro K) := addS_ok (env_law12_ProdNil_ok K) (.inl ⟨callable Go.Proofs.Try.func8 (by kernel_rfl) (by kernel_rfl), law12_of_ro_ok K⟩)
end
end Go.Proofs.Ytmmaechogibodaa.F
