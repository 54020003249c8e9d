/-
  No cell of these rows narrows 'for every input' (looked for: loops, veiled, ifaces, maps, wideKeys, modest, calm, conditions, laid).
  DERIVED. THE GIVEN ROWS OF THIS SEAT. 10 by the template 'for every input the law returns true; each argument reads behind the call as it read before'; 0 by the template 'total and deterministic' (their statements: YtemijfjchoimpaaTotals.lean).
  GIVEN WITH THE SEED: the statements are not yours to turn. If you find one false, say at which input.
  Laid BY PROGRAM, IN A SANDBOX (cutbox-rows.mjs): the forced cells as the released guide's own fill.sh prints them over the translation 4d0c429b14094801… (all of the seat's roots in one cut). By AI agents, Wed Nov 11 2026. No macro, syntax, notation, axiom, sorry.
-/
import Derived.Test.YtemijfjchoimpaaChecked
import GoSem.Claim
import GoSem.ClaimJoined
import GoSem.ClaimMapViews
import Derived.JoinedTies
import Derived.KernelRfl
namespace Go.Proofs.Ytemijfjchoimpaa
/- THE CELL 'sum', in the pinned program and in every row, IS THE sha256 OF THE DUMP (.gsa) THAT YtemijfjchoimpaaProg.lean LOADS. Nothing in Lean hashes anything: it is a label: what it is worth is what the hold of that sum in a sandbox is worth. -/
noncomputable def Try.pinned : Pinned := { name := "ytemijfjchoimpaa", sum := "4d0c429b1409480146c78541f6933db0c8088abc8fe6004d29ef4482d4b1285a", checked := Try.checked }
namespace Rows
def none {H : Type} : Left H := { results := [], args := [] }

/-- 'passbooklaw03.CalCycle': WHATEVER THE INPUT: true; the input reads as it did. -/
def calCycleSpec : ChangeSpec := { name := "calCycle", fn := fun _ => fun
  | [d] => { results := [.lit (.bool true)], args := [d] }
  | _ => none }
def calCycleRow : OpenClaim := { program := "ytemijfjchoimpaa", sum := "4d0c429b1409480146c78541f6933db0c8088abc8fe6004d29ef4482d4b1285a", func := "passbook/passbooklaw03.CalCycle", spec := "calCycle", apart := false }
def CalCycleSaid : Prop := calCycleRow.holds Try.pinned (OpenSpec.ofChange calCycleSpec)

/-- ITS FALSE NEIGHBOUR: 'it returns false'. Refute it at one input. -/
def calCycleWrong : ChangeSpec := { name := "calCycle", fn := fun _ => fun
  | [d] => { results := [.lit (.bool false)], args := [d] }
  | _ => none }
def CalCycleWrongFalsely : Prop := calCycleRow.holds Try.pinned (OpenSpec.ofChange calCycleWrong)

/-- 'passbooklaw03.CalFollows': WHATEVER THE INPUT: true; the input reads as it did. -/
def calFollowsSpec : ChangeSpec := { name := "calFollows", fn := fun _ => fun
  | [d] => { results := [.lit (.bool true)], args := [d] }
  | _ => none }
def calFollowsRow : OpenClaim := { program := "ytemijfjchoimpaa", sum := "4d0c429b1409480146c78541f6933db0c8088abc8fe6004d29ef4482d4b1285a", func := "passbook/passbooklaw03.CalFollows", spec := "calFollows", apart := false }
def CalFollowsSaid : Prop := calFollowsRow.holds Try.pinned (OpenSpec.ofChange calFollowsSpec)

/-- ITS FALSE NEIGHBOUR: 'it returns false'. Refute it at one input. -/
def calFollowsWrong : ChangeSpec := { name := "calFollows", fn := fun _ => fun
  | [d] => { results := [.lit (.bool false)], args := [d] }
  | _ => none }
def CalFollowsWrongFalsely : Prop := calFollowsRow.holds Try.pinned (OpenSpec.ofChange calFollowsWrong)

/-- 'passbooklaw03.CalMonths': WHATEVER THE INPUT: true; the input reads as it did. -/
def calMonthsSpec : ChangeSpec := { name := "calMonths", fn := fun _ => fun
  | [d1, d2] => { results := [.lit (.bool true)], args := [d1, d2] }
  | _ => none }
def calMonthsRow : OpenClaim := { program := "ytemijfjchoimpaa", sum := "4d0c429b1409480146c78541f6933db0c8088abc8fe6004d29ef4482d4b1285a", func := "passbook/passbooklaw03.CalMonths", spec := "calMonths", apart := false }
def CalMonthsSaid : Prop := calMonthsRow.holds Try.pinned (OpenSpec.ofChange calMonthsSpec)

/-- ITS FALSE NEIGHBOUR: 'it returns false'. Refute it at one input. -/
def calMonthsWrong : ChangeSpec := { name := "calMonths", fn := fun _ => fun
  | [d1, d2] => { results := [.lit (.bool false)], args := [d1, d2] }
  | _ => none }
def CalMonthsWrongFalsely : Prop := calMonthsRow.holds Try.pinned (OpenSpec.ofChange calMonthsWrong)

/-- 'passbooklaw03.CalNumbers': WHATEVER THE INPUT: true; the input reads as it did. -/
def calNumbersSpec : ChangeSpec := { name := "calNumbers", fn := fun _ => fun
  | [d1, d2, d3, d4] => { results := [.lit (.bool true)], args := [d1, d2, d3, d4] }
  | _ => none }
def calNumbersRow : OpenClaim := { program := "ytemijfjchoimpaa", sum := "4d0c429b1409480146c78541f6933db0c8088abc8fe6004d29ef4482d4b1285a", func := "passbook/passbooklaw03.CalNumbers", spec := "calNumbers", apart := false }
def CalNumbersSaid : Prop := calNumbersRow.holds Try.pinned (OpenSpec.ofChange calNumbersSpec)

/-- ITS FALSE NEIGHBOUR: 'it returns false'. Refute it at one input. -/
def calNumbersWrong : ChangeSpec := { name := "calNumbers", fn := fun _ => fun
  | [d1, d2, d3, d4] => { results := [.lit (.bool false)], args := [d1, d2, d3, d4] }
  | _ => none }
def CalNumbersWrongFalsely : Prop := calNumbersRow.holds Try.pinned (OpenSpec.ofChange calNumbersWrong)

/-- 'passbooklaw03.CalSteps': WHATEVER THE INPUT: true; the input reads as it did. -/
def calStepsSpec : ChangeSpec := { name := "calSteps", fn := fun _ => fun
  | [d1, d2, d3] => { results := [.lit (.bool true)], args := [d1, d2, d3] }
  | _ => none }
def calStepsRow : OpenClaim := { program := "ytemijfjchoimpaa", sum := "4d0c429b1409480146c78541f6933db0c8088abc8fe6004d29ef4482d4b1285a", func := "passbook/passbooklaw03.CalSteps", spec := "calSteps", apart := false }
def CalStepsSaid : Prop := calStepsRow.holds Try.pinned (OpenSpec.ofChange calStepsSpec)

/-- ITS FALSE NEIGHBOUR: 'it returns false'. Refute it at one input. -/
def calStepsWrong : ChangeSpec := { name := "calSteps", fn := fun _ => fun
  | [d1, d2, d3] => { results := [.lit (.bool false)], args := [d1, d2, d3] }
  | _ => none }
def CalStepsWrongFalsely : Prop := calStepsRow.holds Try.pinned (OpenSpec.ofChange calStepsWrong)

/-- 'passbooklaw03.CalTexts': WHATEVER THE INPUT: true; the input reads as it did. -/
def calTextsSpec : ChangeSpec := { name := "calTexts", fn := fun _ => fun
  | [d1, d2] => { results := [.lit (.bool true)], args := [d1, d2] }
  | _ => none }
def calTextsRow : OpenClaim := { program := "ytemijfjchoimpaa", sum := "4d0c429b1409480146c78541f6933db0c8088abc8fe6004d29ef4482d4b1285a", func := "passbook/passbooklaw03.CalTexts", spec := "calTexts", apart := false }
def CalTextsSaid : Prop := calTextsRow.holds Try.pinned (OpenSpec.ofChange calTextsSpec)

/-- ITS FALSE NEIGHBOUR: 'it returns false'. Refute it at one input. -/
def calTextsWrong : ChangeSpec := { name := "calTexts", fn := fun _ => fun
  | [d1, d2] => { results := [.lit (.bool false)], args := [d1, d2] }
  | _ => none }
def CalTextsWrongFalsely : Prop := calTextsRow.holds Try.pinned (OpenSpec.ofChange calTextsWrong)

/-- 'passbooklaw04.BasisAdds': WHATEVER THE INPUT: true; the input reads as it did. -/
def basisAddsSpec : ChangeSpec := { name := "basisAdds", fn := fun _ => fun
  | [d1, d2, d3, d4] => { results := [.lit (.bool true)], args := [d1, d2, d3, d4] }
  | _ => none }
def basisAddsRow : OpenClaim := { program := "ytemijfjchoimpaa", sum := "4d0c429b1409480146c78541f6933db0c8088abc8fe6004d29ef4482d4b1285a", func := "passbook/passbooklaw04.BasisAdds", spec := "basisAdds", apart := false }
def BasisAddsSaid : Prop := basisAddsRow.holds Try.pinned (OpenSpec.ofChange basisAddsSpec)

/-- ITS FALSE NEIGHBOUR: 'it returns false'. Refute it at one input. -/
def basisAddsWrong : ChangeSpec := { name := "basisAdds", fn := fun _ => fun
  | [d1, d2, d3, d4] => { results := [.lit (.bool false)], args := [d1, d2, d3, d4] }
  | _ => none }
def BasisAddsWrongFalsely : Prop := basisAddsRow.holds Try.pinned (OpenSpec.ofChange basisAddsWrong)

/-- 'passbooklaw04.BasisParts': WHATEVER THE INPUT: true; the input reads as it did. -/
def basisPartsSpec : ChangeSpec := { name := "basisParts", fn := fun _ => fun
  | [d1, d2, d3] => { results := [.lit (.bool true)], args := [d1, d2, d3] }
  | _ => none }
def basisPartsRow : OpenClaim := { program := "ytemijfjchoimpaa", sum := "4d0c429b1409480146c78541f6933db0c8088abc8fe6004d29ef4482d4b1285a", func := "passbook/passbooklaw04.BasisParts", spec := "basisParts", apart := false }
def BasisPartsSaid : Prop := basisPartsRow.holds Try.pinned (OpenSpec.ofChange basisPartsSpec)

/-- ITS FALSE NEIGHBOUR: 'it returns false'. Refute it at one input. -/
def basisPartsWrong : ChangeSpec := { name := "basisParts", fn := fun _ => fun
  | [d1, d2, d3] => { results := [.lit (.bool false)], args := [d1, d2, d3] }
  | _ => none }
def BasisPartsWrongFalsely : Prop := basisPartsRow.holds Try.pinned (OpenSpec.ofChange basisPartsWrong)

/-- 'passbooklaw04.BasisYears': WHATEVER THE INPUT: true; the input reads as it did. -/
def basisYearsSpec : ChangeSpec := { name := "basisYears", fn := fun _ => fun
  | [d1, d2] => { results := [.lit (.bool true)], args := [d1, d2] }
  | _ => none }
def basisYearsRow : OpenClaim := { program := "ytemijfjchoimpaa", sum := "4d0c429b1409480146c78541f6933db0c8088abc8fe6004d29ef4482d4b1285a", func := "passbook/passbooklaw04.BasisYears", spec := "basisYears", apart := false }
def BasisYearsSaid : Prop := basisYearsRow.holds Try.pinned (OpenSpec.ofChange basisYearsSpec)

/-- ITS FALSE NEIGHBOUR: 'it returns false'. Refute it at one input. -/
def basisYearsWrong : ChangeSpec := { name := "basisYears", fn := fun _ => fun
  | [d1, d2] => { results := [.lit (.bool false)], args := [d1, d2] }
  | _ => none }
def BasisYearsWrongFalsely : Prop := basisYearsRow.holds Try.pinned (OpenSpec.ofChange basisYearsWrong)

/-- 'passbooklaw03.CalNearest': WHATEVER THE INPUT: true; the input reads as it did. -/
def calNearestSpec : ChangeSpec := { name := "calNearest", fn := fun _ => fun
  | [d1, d2, d3] => { results := [.lit (.bool true)], args := [d1, d2, d3] }
  | _ => none }
def calNearestRow : OpenClaim := { program := "ytemijfjchoimpaa", sum := "4d0c429b1409480146c78541f6933db0c8088abc8fe6004d29ef4482d4b1285a", func := "passbook/passbooklaw03.CalNearest", spec := "calNearest", apart := false }
def CalNearestSaid : Prop := calNearestRow.holds Try.pinned (OpenSpec.ofChange calNearestSpec)

/-- ITS FALSE NEIGHBOUR: 'it returns false'. Refute it at one input. -/
def calNearestWrong : ChangeSpec := { name := "calNearest", fn := fun _ => fun
  | [d1, d2, d3] => { results := [.lit (.bool false)], args := [d1, d2, d3] }
  | _ => none }
def CalNearestWrongFalsely : Prop := calNearestRow.holds Try.pinned (OpenSpec.ofChange calNearestWrong)

/- THE SECOND FORM. 'bulk': how many values and letters a reading holds, each counted each time it is reached (what is shared counts as often as it is met; a slice's spare places count too). A statement '..UptoSaid' is the law's where the arguments, and the package variables that the reading takes, are together of bulk at most 1048576: NARROWER than '..Said'. Prove '..Said' where nothing that the law and all that it calls make is longer than what came in: it says more and counts as full. Else prove '..UptoSaid'. A law counts once. -/
mutual
def uptoBulk {H : Type} : DataW H → Nat
  | .lit (.string bytes) => bytes.length + 1
  | .lit _ => 1
  | .nil => 1
  | .ptr d => uptoBulk d + 1
  | .slice elems spare => uptoBulkAll elems + uptoBulkAll spare + 1
  | .agg parts => uptoBulkAll parts + 1
  | .iface _ d => uptoBulk d + 1
  | .map entries => uptoBulkEntries entries + 1
  | .held _ => 1
def uptoBulkAll {H : Type} : List (DataW H) → Nat
  | [] => 0
  | d :: r => uptoBulk d + uptoBulkAll r
def uptoBulkEntries {H : Type} : List (Lit × DataW H) → Nat
  | [] => 0
  | x :: r => uptoBulkEntry x + uptoBulkEntries r
def uptoBulkEntry {H : Type} : Lit × DataW H → Nat
  | (.string bytes, d) => bytes.length + uptoBulk d + 1
  | (_, d) => uptoBulk d + 1
 end
def uptoSmall : (H : Type) → List (DataW H) → Bool := fun _ ds => decide (uptoBulkAll ds ≤ 1048576)
def OpenSpec.upto (s : _root_.Go.ChangeSpec) : _root_.Go.OpenSpec := { _root_.Go.OpenSpec.ofChange s with cond := some uptoSmall }

/-- 'passbooklaw03.CalCycle', WHERE WHAT IT READS IS OF BULK AT MOST 1048576: true; the input reads as it did. -/
def calCycleUptoRow : OpenClaim := { program := "ytemijfjchoimpaa", sum := "4d0c429b1409480146c78541f6933db0c8088abc8fe6004d29ef4482d4b1285a", func := "passbook/passbooklaw03.CalCycle", spec := "calCycle", apart := false, narrowed := true }
def CalCycleUptoSaid : Prop := calCycleUptoRow.holds Try.pinned (OpenSpec.upto calCycleSpec)

/-- 'passbooklaw03.CalFollows', WHERE WHAT IT READS IS OF BULK AT MOST 1048576: true; the input reads as it did. -/
def calFollowsUptoRow : OpenClaim := { program := "ytemijfjchoimpaa", sum := "4d0c429b1409480146c78541f6933db0c8088abc8fe6004d29ef4482d4b1285a", func := "passbook/passbooklaw03.CalFollows", spec := "calFollows", apart := false, narrowed := true }
def CalFollowsUptoSaid : Prop := calFollowsUptoRow.holds Try.pinned (OpenSpec.upto calFollowsSpec)

/-- 'passbooklaw03.CalMonths', WHERE WHAT IT READS IS OF BULK AT MOST 1048576: true; the input reads as it did. -/
def calMonthsUptoRow : OpenClaim := { program := "ytemijfjchoimpaa", sum := "4d0c429b1409480146c78541f6933db0c8088abc8fe6004d29ef4482d4b1285a", func := "passbook/passbooklaw03.CalMonths", spec := "calMonths", apart := false, narrowed := true }
def CalMonthsUptoSaid : Prop := calMonthsUptoRow.holds Try.pinned (OpenSpec.upto calMonthsSpec)

/-- 'passbooklaw03.CalNumbers', WHERE WHAT IT READS IS OF BULK AT MOST 1048576: true; the input reads as it did. -/
def calNumbersUptoRow : OpenClaim := { program := "ytemijfjchoimpaa", sum := "4d0c429b1409480146c78541f6933db0c8088abc8fe6004d29ef4482d4b1285a", func := "passbook/passbooklaw03.CalNumbers", spec := "calNumbers", apart := false, narrowed := true }
def CalNumbersUptoSaid : Prop := calNumbersUptoRow.holds Try.pinned (OpenSpec.upto calNumbersSpec)

/-- 'passbooklaw03.CalSteps', WHERE WHAT IT READS IS OF BULK AT MOST 1048576: true; the input reads as it did. -/
def calStepsUptoRow : OpenClaim := { program := "ytemijfjchoimpaa", sum := "4d0c429b1409480146c78541f6933db0c8088abc8fe6004d29ef4482d4b1285a", func := "passbook/passbooklaw03.CalSteps", spec := "calSteps", apart := false, narrowed := true }
def CalStepsUptoSaid : Prop := calStepsUptoRow.holds Try.pinned (OpenSpec.upto calStepsSpec)

/-- 'passbooklaw03.CalTexts', WHERE WHAT IT READS IS OF BULK AT MOST 1048576: true; the input reads as it did. -/
def calTextsUptoRow : OpenClaim := { program := "ytemijfjchoimpaa", sum := "4d0c429b1409480146c78541f6933db0c8088abc8fe6004d29ef4482d4b1285a", func := "passbook/passbooklaw03.CalTexts", spec := "calTexts", apart := false, narrowed := true }
def CalTextsUptoSaid : Prop := calTextsUptoRow.holds Try.pinned (OpenSpec.upto calTextsSpec)

/-- 'passbooklaw04.BasisAdds', WHERE WHAT IT READS IS OF BULK AT MOST 1048576: true; the input reads as it did. -/
def basisAddsUptoRow : OpenClaim := { program := "ytemijfjchoimpaa", sum := "4d0c429b1409480146c78541f6933db0c8088abc8fe6004d29ef4482d4b1285a", func := "passbook/passbooklaw04.BasisAdds", spec := "basisAdds", apart := false, narrowed := true }
def BasisAddsUptoSaid : Prop := basisAddsUptoRow.holds Try.pinned (OpenSpec.upto basisAddsSpec)

/-- 'passbooklaw04.BasisParts', WHERE WHAT IT READS IS OF BULK AT MOST 1048576: true; the input reads as it did. -/
def basisPartsUptoRow : OpenClaim := { program := "ytemijfjchoimpaa", sum := "4d0c429b1409480146c78541f6933db0c8088abc8fe6004d29ef4482d4b1285a", func := "passbook/passbooklaw04.BasisParts", spec := "basisParts", apart := false, narrowed := true }
def BasisPartsUptoSaid : Prop := basisPartsUptoRow.holds Try.pinned (OpenSpec.upto basisPartsSpec)

/-- 'passbooklaw04.BasisYears', WHERE WHAT IT READS IS OF BULK AT MOST 1048576: true; the input reads as it did. -/
def basisYearsUptoRow : OpenClaim := { program := "ytemijfjchoimpaa", sum := "4d0c429b1409480146c78541f6933db0c8088abc8fe6004d29ef4482d4b1285a", func := "passbook/passbooklaw04.BasisYears", spec := "basisYears", apart := false, narrowed := true }
def BasisYearsUptoSaid : Prop := basisYearsUptoRow.holds Try.pinned (OpenSpec.upto basisYearsSpec)

/-- 'passbooklaw03.CalNearest', WHERE WHAT IT READS IS OF BULK AT MOST 1048576: true; the input reads as it did. -/
def calNearestUptoRow : OpenClaim := { program := "ytemijfjchoimpaa", sum := "4d0c429b1409480146c78541f6933db0c8088abc8fe6004d29ef4482d4b1285a", func := "passbook/passbooklaw03.CalNearest", spec := "calNearest", apart := false, narrowed := true }
def CalNearestUptoSaid : Prop := calNearestUptoRow.holds Try.pinned (OpenSpec.upto calNearestSpec)

end Rows
end Go.Proofs.Ytemijfjchoimpaa
