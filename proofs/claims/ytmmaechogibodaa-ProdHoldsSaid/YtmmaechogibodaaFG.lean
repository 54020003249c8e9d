import Derived.Test.YtmmaechogibodaaVmY
import Derived.Test.YtmmaechogibodaaVmRc
import Derived.Test.YtmmaechogibodaaVmCl
import Derived.Test.YtmmaechogibodaaProg
import Derived.Test.YtmmaechogibodaaVmRg
import Derived.Test.YtmmaechogibodaaFA
import Derived.Test.YtmmaechogibodaaFB
import Derived.Test.YtmmaechogibodaaFV
import Derived.Test.YtmmaechogibodaaFC
import Derived.Test.YtmmaechogibodaaFD
import Derived.Test.YtmmaechogibodaaFE
namespace Go.Proofs.Ytmmaechogibodaa.F
open Go Go.Proofs.Ytmmaechogibodaa.Vm
set_option maxRecDepth 1000000
set_option linter.unusedVariables false
set_option linter.unusedSimpArgs false
noncomputable section
namespace At
noncomputable abbrev b33 : Code := bodyOf Go.Proofs.Try.f33
noncomputable def lpC : Code → Code
  | .loop c => c
  | c => c
noncomputable def Q0 : Code := sq1 b33
noncomputable def LB : Code := lpC (blkC (sq2 b33))
noncomputable def Q1 : Code := sq1 (sq1 LB)
noncomputable def Q3 : Code := sq1 (blkC (sq1 (sq2 LB)))
noncomputable def Q2 : Code := sq2 (sq2 LB)
noncomputable def opsQ : Array Oper := opsC Q3
theorem b33_eq : b33 = .seq Q0 (.block 0 (.loop (.seq (.seq Q1 (.cond (.tmp 8) .skip (.exit 0))) (.seq (.block 1 (.seq (.region 3 opsQ false) (.cond (.tmp 18) .ret .skip))) Q2)))) := by kernel_rfl
noncomputable def opY : Oper := nth { dst := none, op := .move (.tmp 0), type := 0, pos := "", after := #[], guard := none } opsQ.toList 6
noncomputable def opN : Oper := nth { dst := none, op := .move (.tmp 0), type := 0, pos := "", after := #[], guard := none } opsQ.toList 7
theorem opsQ_eq : opsQ.toList = opsQ.toList.take 6 ++ [opY, opN] := by kernel_rfl
theorem opY_eq : opY.op = .call { callee := .value (.tmp 11), args := #[.tmp 12, .tmp 16], argTypes := #[3, 25] } ∧ opY.guard = none ∧ opY.dst = some 17 := ⟨by kernel_rfl, by kernel_rfl, by kernel_rfl⟩
theorem opN_eq : opN.op = .unOp .not 4 (.tmp 17) ∧ opN.guard = none ∧ opN.dst = some 18 := ⟨by kernel_rfl, by kernel_rfl, by kernel_rfl⟩
/-- The iterator's state: yield, the box of the slice, the place. -/
noncomputable def sI (y : Value) (i : CV) (dd : List (List D)) : St :=
  ⟨put (put (put (List.replicate 19 anyS) 0 (.pv (.one (.val y)))) 1 (.pv (.one (.ptr 0 0 0 0)))) 3 (.pv (.one i)), memOf [⟨false, .cells [.slf 1]⟩, ⟨false, .grow Lp dd⟩], 2, []⟩
noncomputable def slotV (s : St) (t : Nat) : Option Value := match nth undefS s.tmps t with
  | .pv (.one (.val v)) => some v
  | _ => none
noncomputable def isP : SV → Bool
  | .pv (.one (.ptr 0 0 0 0)) => true
  | _ => false
noncomputable def kp (s : St) : Option (Value × Value) := match slotV s 0, isP (nth undefS s.tmps 1) && (len s.tmps == 19), slotV s 3 with
  | some f, true, some v => some (f, v)
  | _, _, _ => none
noncomputable def T0 (K : Nat) (y : Value) (dd : List (List D)) : T (Value × Value) := (runC P (env K) lenv0 Q0 (sI y .any dd)).bind fun x => match x with
  | (.normal, s1) => T.opt (kp s1) .ret
  | _ => .fail
theorem T0_eq (K : Nat) (y : Value) (dd : List (List D)) : (T0 K y dd).den2 = some (y, .int .i64 (Go.IntKind.i64.wrap ((dd.length : Int) - 1))) := by kernel_rfl
noncomputable def T1 (K : Nat) (y : Value) (i : Int) (dd : List (List D)) : T ((Value × Value) × Value) := (runC P (env K) lenv0 Q1 (sI y (.val (.int .i64 i)) dd)).bind fun x => match x with
  | (.normal, s1) => T.opt (kp s1) fun f => T.opt (slotV s1 8) fun b => .ret (f, b)
  | _ => .fail
theorem T1_eq (K : Nat) (y : Value) (i : Int) (dd : List (List D)) : (T1 K y i dd).den2 = some ((y, .int .i64 i), .bool (decide (i ≥ 0))) := by kernel_rfl
noncomputable def aggS (s : St) (t : Nat) : Option (List CV) := match nth undefS s.tmps t with
  | .pv (.agg l) => some l
  | _ => none
noncomputable def T3 (K : Nat) (y : Value) (i : Int) (dd : List (List D)) : T ((Value × Value) × Value × Value × List CV) := (runLX P (env K) opsQ.toList 2 (opsQ.toList.take 6) 0 (sI y (.val (.int .i64 i)) dd)).bind fun x => match x with
  | (.normal, s1) => T.opt (kp s1) fun f => T.opt (slotV s1 11) fun g => T.opt (slotV s1 12) fun j => T.opt (aggS s1 16) fun l => .ret (f, g, j, l)
  | _ => .fail
theorem T3_eq (K : Nat) (y : Value) (i : Int) (dd : List (List D)) : (T3 K y i dd).den2 = bi (decide (0 ≤ i) && decide (i < (dd.length : Int))) (some ((y, .int .i64 i), y, .int .i64 i, cvsL Lp (nth [] dd i.toNat) 0)) none := by kernel_rfl
noncomputable def T2 (K : Nat) (y : Value) (i : Int) (dd : List (List D)) : T (Value × Value) := (runC P (env K) lenv0 Q2 (sI y (.val (.int .i64 i)) dd)).bind fun x => match x with
  | (.normal, s1) => T.opt (kp s1) .ret
  | _ => .fail
theorem T2_eq (K : Nat) (y : Value) (i : Int) (dd : List (List D)) : (T2 K y i dd).den2 = some (y, .int .i64 (Go.IntKind.i64.wrap (i - 1))) := by kernel_rfl
end At
end
end Go.Proofs.Ytmmaechogibodaa.F
