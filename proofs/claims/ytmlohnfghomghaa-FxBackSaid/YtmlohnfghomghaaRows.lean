/-
  No cell of these rows narrows 'for every input' (looked for: loops, veiled, ifaces, maps, wideKeys, modest, calm, conditions, laid).
  DERIVED. THE GIVEN ROWS OF THIS SEAT. 3 by the template 'for every input the law returns true; each argument reads behind the call as it read before'; 0 by the template 'total and deterministic' (their statements: YtmlohnfghomghaaTotals.lean).
  GIVEN WITH THE SEED: the statements are not yours to turn. If you find one false, say at which input.
  Laid BY PROGRAM, IN A SANDBOX (cutbox-rows.mjs): the forced cells as the released guide's own fill.sh prints them over the translation 1968c16ead709d6a… (all of the seat's roots in one cut). By AI agents, Wed Nov 11 2026. No macro, syntax, notation, axiom, sorry.
-/
import Derived.Test.YtmlohnfghomghaaChecked
import GoSem.Claim
import GoSem.ClaimJoined
import GoSem.ClaimMapViews
import Derived.JoinedTies
import Derived.KernelRfl
namespace Go.Proofs.Ytmlohnfghomghaa
/- THE CELL 'sum', in the pinned program and in every row, IS THE sha256 OF THE DUMP (.gsa) THAT YtmlohnfghomghaaProg.lean LOADS. Nothing in Lean hashes anything: it is a label: what it is worth is what the hold of that sum in a sandbox is worth. -/
noncomputable def Try.pinned : Pinned := { name := "ytmlohnfghomghaa", sum := "1968c16ead709d6a811ef5d30f1ce4c154ab8ab4999b4b224e83c409318477b8", checked := Try.checked }
namespace Rows
def none {H : Type} : Left H := { results := [], args := [] }

/-- 'passbooklaw16.FxBack': WHATEVER THE INPUT: true; the input reads as it did. -/
def fxBackSpec : ChangeSpec := { name := "fxBack", fn := fun _ => fun
  | [d1, d2, d3, d4] => { results := [.lit (.bool true)], args := [d1, d2, d3, d4] }
  | _ => none }
def fxBackRow : OpenClaim := { program := "ytmlohnfghomghaa", sum := "1968c16ead709d6a811ef5d30f1ce4c154ab8ab4999b4b224e83c409318477b8", func := "passbook/passbooklaw16.FxBack", spec := "fxBack", inPlace := ["math/bits.Add64", "math/bits.Sub64"], apart := false }
def FxBackSaid : Prop := fxBackRow.holds Try.pinned (OpenSpec.ofChange fxBackSpec)

/-- ITS FALSE NEIGHBOUR: 'it returns false'. Refute it at one input. -/
def fxBackWrong : ChangeSpec := { name := "fxBack", fn := fun _ => fun
  | [d1, d2, d3, d4] => { results := [.lit (.bool false)], args := [d1, d2, d3, d4] }
  | _ => none }
def FxBackWrongFalsely : Prop := fxBackRow.holds Try.pinned (OpenSpec.ofChange fxBackWrong)

/-- 'passbooklaw16.FxSpread': WHATEVER THE INPUT: true; the input reads as it did. -/
def fxSpreadSpec : ChangeSpec := { name := "fxSpread", fn := fun _ => fun
  | [d1, d2, d3] => { results := [.lit (.bool true)], args := [d1, d2, d3] }
  | _ => none }
def fxSpreadRow : OpenClaim := { program := "ytmlohnfghomghaa", sum := "1968c16ead709d6a811ef5d30f1ce4c154ab8ab4999b4b224e83c409318477b8", func := "passbook/passbooklaw16.FxSpread", spec := "fxSpread", inPlace := ["math/bits.Add64", "math/bits.Sub64"], apart := false }
def FxSpreadSaid : Prop := fxSpreadRow.holds Try.pinned (OpenSpec.ofChange fxSpreadSpec)

/-- ITS FALSE NEIGHBOUR: 'it returns false'. Refute it at one input. -/
def fxSpreadWrong : ChangeSpec := { name := "fxSpread", fn := fun _ => fun
  | [d1, d2, d3] => { results := [.lit (.bool false)], args := [d1, d2, d3] }
  | _ => none }
def FxSpreadWrongFalsely : Prop := fxSpreadRow.holds Try.pinned (OpenSpec.ofChange fxSpreadWrong)

/-- 'passbooklaw16.FxQuotes': WHATEVER THE INPUT: true; the input reads as it did. -/
def fxQuotesSpec : ChangeSpec := { name := "fxQuotes", fn := fun _ => fun
  | [d1, d2, d3] => { results := [.lit (.bool true)], args := [d1, d2, d3] }
  | _ => none }
def fxQuotesRow : OpenClaim := { program := "ytmlohnfghomghaa", sum := "1968c16ead709d6a811ef5d30f1ce4c154ab8ab4999b4b224e83c409318477b8", func := "passbook/passbooklaw16.FxQuotes", spec := "fxQuotes", inPlace := ["math/bits.Add64", "math/bits.Sub64"], apart := false }
def FxQuotesSaid : Prop := fxQuotesRow.holds Try.pinned (OpenSpec.ofChange fxQuotesSpec)

/-- ITS FALSE NEIGHBOUR: 'it returns false'. Refute it at one input. -/
def fxQuotesWrong : ChangeSpec := { name := "fxQuotes", fn := fun _ => fun
  | [d1, d2, d3] => { results := [.lit (.bool false)], args := [d1, d2, d3] }
  | _ => none }
def FxQuotesWrongFalsely : Prop := fxQuotesRow.holds Try.pinned (OpenSpec.ofChange fxQuotesWrong)

/- THE SECOND FORM. 'bulk': how many values and letters a reading holds, each counted each time it is reached (what is shared counts as often as it is met; a slice's spare places count too). A statement '..UptoSaid' is the law's where the arguments, and the package variables that the reading takes, are together of bulk at most 1048576: NARROWER than '..Said'. Prove '..Said' where nothing that the law and all that it calls make is longer than what came in: it says more and counts as full. Else prove '..UptoSaid'. A law counts once. -/
mutual
def uptoBulk {H : Type} : DataW H → Nat
  | .lit (.string bytes) => bytes.length + 1
  | .lit _ => 1
  | .nil => 1
  | .ptr d => uptoBulk d + 1
  | .slice elems spare => uptoBulkAll elems + uptoBulkAll spare + 1
  | .agg parts => uptoBulkAll parts + 1
  | .iface _ d => uptoBulk d + 1
  | .map entries => uptoBulkEntries entries + 1
  | .held _ => 1
def uptoBulkAll {H : Type} : List (DataW H) → Nat
  | [] => 0
  | d :: r => uptoBulk d + uptoBulkAll r
def uptoBulkEntries {H : Type} : List (Lit × DataW H) → Nat
  | [] => 0
  | x :: r => uptoBulkEntry x + uptoBulkEntries r
def uptoBulkEntry {H : Type} : Lit × DataW H → Nat
  | (.string bytes, d) => bytes.length + uptoBulk d + 1
  | (_, d) => uptoBulk d + 1
 end
def uptoSmall : (H : Type) → List (DataW H) → Bool := fun _ ds => decide (uptoBulkAll ds ≤ 1048576)
def OpenSpec.upto (s : _root_.Go.ChangeSpec) : _root_.Go.OpenSpec := { _root_.Go.OpenSpec.ofChange s with cond := some uptoSmall }

/-- 'passbooklaw16.FxBack', WHERE WHAT IT READS IS OF BULK AT MOST 1048576: true; the input reads as it did. -/
def fxBackUptoRow : OpenClaim := { program := "ytmlohnfghomghaa", sum := "1968c16ead709d6a811ef5d30f1ce4c154ab8ab4999b4b224e83c409318477b8", func := "passbook/passbooklaw16.FxBack", spec := "fxBack", inPlace := ["math/bits.Add64", "math/bits.Sub64"], apart := false, narrowed := true }
def FxBackUptoSaid : Prop := fxBackUptoRow.holds Try.pinned (OpenSpec.upto fxBackSpec)

/-- 'passbooklaw16.FxSpread', WHERE WHAT IT READS IS OF BULK AT MOST 1048576: true; the input reads as it did. -/
def fxSpreadUptoRow : OpenClaim := { program := "ytmlohnfghomghaa", sum := "1968c16ead709d6a811ef5d30f1ce4c154ab8ab4999b4b224e83c409318477b8", func := "passbook/passbooklaw16.FxSpread", spec := "fxSpread", inPlace := ["math/bits.Add64", "math/bits.Sub64"], apart := false, narrowed := true }
def FxSpreadUptoSaid : Prop := fxSpreadUptoRow.holds Try.pinned (OpenSpec.upto fxSpreadSpec)

/-- 'passbooklaw16.FxQuotes', WHERE WHAT IT READS IS OF BULK AT MOST 1048576: true; the input reads as it did. -/
def fxQuotesUptoRow : OpenClaim := { program := "ytmlohnfghomghaa", sum := "1968c16ead709d6a811ef5d30f1ce4c154ab8ab4999b4b224e83c409318477b8", func := "passbook/passbooklaw16.FxQuotes", spec := "fxQuotes", inPlace := ["math/bits.Add64", "math/bits.Sub64"], apart := false, narrowed := true }
def FxQuotesUptoSaid : Prop := fxQuotesUptoRow.holds Try.pinned (OpenSpec.upto fxQuotesSpec)

end Rows
end Go.Proofs.Ytmlohnfghomghaa
