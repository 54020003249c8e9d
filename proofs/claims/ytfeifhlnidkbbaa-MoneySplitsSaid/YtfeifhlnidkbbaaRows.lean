/-
  No cell of these rows narrows 'for every input' (looked for: loops, veiled, ifaces, maps, wideKeys, modest, calm, conditions, laid).
  DERIVED. THE GIVEN ROWS OF THIS SEAT. 6 by the template 'for every input the law returns true; each argument reads behind the call as it read before'; 0 by the template 'total and deterministic' (their statements: YtfeifhlnidkbbaaTotals.lean).
  GIVEN WITH THE SEED: the statements are not yours to turn. If you find one false, say at which input.
  Laid BY PROGRAM, IN A SANDBOX (cutbox-rows.mjs): the forced cells as the released guide's own fill.sh prints them over the translation c446d6b58f7cc3fa… (all of the seat's roots in one cut). By AI agents, Wed Nov 11 2026. No macro, syntax, notation, axiom, sorry.
-/
import Derived.Test.YtfeifhlnidkbbaaChecked
import GoSem.Claim
import GoSem.ClaimJoined
import GoSem.ClaimMapViews
import Derived.JoinedTies
import Derived.KernelRfl
namespace Go.Proofs.Ytfeifhlnidkbbaa
/- THE CELL 'sum', in the pinned program and in every row, IS THE sha256 OF THE DUMP (.gsa) THAT YtfeifhlnidkbbaaProg.lean LOADS. Nothing in Lean hashes anything: it is a label: what it is worth is what the hold of that sum in a sandbox is worth. -/
noncomputable def Try.pinned : Pinned := { name := "ytfeifhlnidkbbaa", sum := "c446d6b58f7cc3fa2bd9a3a31d4e074a8773a8e67ae62c7a0904ba205a214c0d", checked := Try.checked }
namespace Rows
def none {H : Type} : Left H := { results := [], args := [] }

/-- 'passbooklaw05.MoneySplits': WHATEVER THE INPUT: true; the input reads as it did. -/
def moneySplitsSpec : ChangeSpec := { name := "moneySplits", fn := fun _ => fun
  | [d1, d2] => { results := [.lit (.bool true)], args := [d1, d2] }
  | _ => none }
def moneySplitsRow : OpenClaim := { program := "ytfeifhlnidkbbaa", sum := "c446d6b58f7cc3fa2bd9a3a31d4e074a8773a8e67ae62c7a0904ba205a214c0d", func := "passbook/passbooklaw05.MoneySplits", spec := "moneySplits", unfollowed := true, recurses := true, named := ["math/bits.divideError", "math/bits.overflowError"], apart := false }
def MoneySplitsSaid : Prop := moneySplitsRow.holds Try.pinned (OpenSpec.ofChange moneySplitsSpec)

/-- ITS FALSE NEIGHBOUR: 'it returns false'. Refute it at one input. -/
def moneySplitsWrong : ChangeSpec := { name := "moneySplits", fn := fun _ => fun
  | [d1, d2] => { results := [.lit (.bool false)], args := [d1, d2] }
  | _ => none }
def MoneySplitsWrongFalsely : Prop := moneySplitsRow.holds Try.pinned (OpenSpec.ofChange moneySplitsWrong)

/-- 'passbooklaw05.MoneyNothingLost': WHATEVER THE INPUT: true; the input reads as it did. -/
def moneyNothingLostSpec : ChangeSpec := { name := "moneyNothingLost", fn := fun _ => fun
  | [d1, d2] => { results := [.lit (.bool true)], args := [d1, d2] }
  | _ => none }
def moneyNothingLostRow : OpenClaim := { program := "ytfeifhlnidkbbaa", sum := "c446d6b58f7cc3fa2bd9a3a31d4e074a8773a8e67ae62c7a0904ba205a214c0d", func := "passbook/passbooklaw05.MoneyNothingLost", spec := "moneyNothingLost", unfollowed := true, recurses := true, named := ["math/bits.divideError", "math/bits.overflowError"], apart := false }
def MoneyNothingLostSaid : Prop := moneyNothingLostRow.holds Try.pinned (OpenSpec.ofChange moneyNothingLostSpec)

/-- ITS FALSE NEIGHBOUR: 'it returns false'. Refute it at one input. -/
def moneyNothingLostWrong : ChangeSpec := { name := "moneyNothingLost", fn := fun _ => fun
  | [d1, d2] => { results := [.lit (.bool false)], args := [d1, d2] }
  | _ => none }
def MoneyNothingLostWrongFalsely : Prop := moneyNothingLostRow.holds Try.pinned (OpenSpec.ofChange moneyNothingLostWrong)

/-- 'passbooklaw05.MoneyScaled': WHATEVER THE INPUT: true; the input reads as it did. -/
def moneyScaledSpec : ChangeSpec := { name := "moneyScaled", fn := fun _ => fun
  | [d1, d2, d3, d4] => { results := [.lit (.bool true)], args := [d1, d2, d3, d4] }
  | _ => none }
def moneyScaledRow : OpenClaim := { program := "ytfeifhlnidkbbaa", sum := "c446d6b58f7cc3fa2bd9a3a31d4e074a8773a8e67ae62c7a0904ba205a214c0d", func := "passbook/passbooklaw05.MoneyScaled", spec := "moneyScaled", unfollowed := true, recurses := true, named := ["math/bits.divideError", "math/bits.overflowError"], apart := false }
def MoneyScaledSaid : Prop := moneyScaledRow.holds Try.pinned (OpenSpec.ofChange moneyScaledSpec)

/-- ITS FALSE NEIGHBOUR: 'it returns false'. Refute it at one input. -/
def moneyScaledWrong : ChangeSpec := { name := "moneyScaled", fn := fun _ => fun
  | [d1, d2, d3, d4] => { results := [.lit (.bool false)], args := [d1, d2, d3, d4] }
  | _ => none }
def MoneyScaledWrongFalsely : Prop := moneyScaledRow.holds Try.pinned (OpenSpec.ofChange moneyScaledWrong)

/-- 'passbooklaw05.MoneyOrder': WHATEVER THE INPUT: true; the input reads as it did. -/
def moneyOrderSpec : ChangeSpec := { name := "moneyOrder", fn := fun _ => fun
  | [d1, d2, d3, d4] => { results := [.lit (.bool true)], args := [d1, d2, d3, d4] }
  | _ => none }
def moneyOrderRow : OpenClaim := { program := "ytfeifhlnidkbbaa", sum := "c446d6b58f7cc3fa2bd9a3a31d4e074a8773a8e67ae62c7a0904ba205a214c0d", func := "passbook/passbooklaw05.MoneyOrder", spec := "moneyOrder", unfollowed := true, recurses := true, named := ["math/bits.divideError", "math/bits.overflowError"], apart := false }
def MoneyOrderSaid : Prop := moneyOrderRow.holds Try.pinned (OpenSpec.ofChange moneyOrderSpec)

/-- ITS FALSE NEIGHBOUR: 'it returns false'. Refute it at one input. -/
def moneyOrderWrong : ChangeSpec := { name := "moneyOrder", fn := fun _ => fun
  | [d1, d2, d3, d4] => { results := [.lit (.bool false)], args := [d1, d2, d3, d4] }
  | _ => none }
def MoneyOrderWrongFalsely : Prop := moneyOrderRow.holds Try.pinned (OpenSpec.ofChange moneyOrderWrong)

/-- 'passbooklaw05.MoneySums': WHATEVER THE INPUT: true; the input reads as it did. -/
def moneySumsSpec : ChangeSpec := { name := "moneySums", fn := fun _ => fun
  | [d1, d2] => { results := [.lit (.bool true)], args := [d1, d2] }
  | _ => none }
def moneySumsRow : OpenClaim := { program := "ytfeifhlnidkbbaa", sum := "c446d6b58f7cc3fa2bd9a3a31d4e074a8773a8e67ae62c7a0904ba205a214c0d", func := "passbook/passbooklaw05.MoneySums", spec := "moneySums", unfollowed := true, recurses := true, named := ["math/bits.divideError", "math/bits.overflowError"], apart := false }
def MoneySumsSaid : Prop := moneySumsRow.holds Try.pinned (OpenSpec.ofChange moneySumsSpec)

/-- ITS FALSE NEIGHBOUR: 'it returns false'. Refute it at one input. -/
def moneySumsWrong : ChangeSpec := { name := "moneySums", fn := fun _ => fun
  | [d1, d2] => { results := [.lit (.bool false)], args := [d1, d2] }
  | _ => none }
def MoneySumsWrongFalsely : Prop := moneySumsRow.holds Try.pinned (OpenSpec.ofChange moneySumsWrong)

/-- 'passbooklaw05.MoneyDecimals': WHATEVER THE INPUT: true; the input reads as it did. -/
def moneyDecimalsSpec : ChangeSpec := { name := "moneyDecimals", fn := fun _ => fun
  | [d1, d2, d3, d4] => { results := [.lit (.bool true)], args := [d1, d2, d3, d4] }
  | _ => none }
def moneyDecimalsRow : OpenClaim := { program := "ytfeifhlnidkbbaa", sum := "c446d6b58f7cc3fa2bd9a3a31d4e074a8773a8e67ae62c7a0904ba205a214c0d", func := "passbook/passbooklaw05.MoneyDecimals", spec := "moneyDecimals", inPlace := ["math/bits.Add64", "math/bits.Sub64"], unfollowed := true, recurses := true, named := ["math/bits.divideError", "math/bits.overflowError"], apart := false }
def MoneyDecimalsSaid : Prop := moneyDecimalsRow.holds Try.pinned (OpenSpec.ofChange moneyDecimalsSpec)

/-- ITS FALSE NEIGHBOUR: 'it returns false'. Refute it at one input. -/
def moneyDecimalsWrong : ChangeSpec := { name := "moneyDecimals", fn := fun _ => fun
  | [d1, d2, d3, d4] => { results := [.lit (.bool false)], args := [d1, d2, d3, d4] }
  | _ => none }
def MoneyDecimalsWrongFalsely : Prop := moneyDecimalsRow.holds Try.pinned (OpenSpec.ofChange moneyDecimalsWrong)

/- THE SECOND FORM. 'bulk': how many values and letters a reading holds, each counted each time it is reached (what is shared counts as often as it is met; a slice's spare places count too). A statement '..UptoSaid' is the law's where the arguments, and the package variables that the reading takes, are together of bulk at most 1048576: NARROWER than '..Said'. Prove '..Said' where nothing that the law and all that it calls make is longer than what came in: it says more and counts as full. Else prove '..UptoSaid'. A law counts once. -/
mutual
def uptoBulk {H : Type} : DataW H → Nat
  | .lit (.string bytes) => bytes.length + 1
  | .lit _ => 1
  | .nil => 1
  | .ptr d => uptoBulk d + 1
  | .slice elems spare => uptoBulkAll elems + uptoBulkAll spare + 1
  | .agg parts => uptoBulkAll parts + 1
  | .iface _ d => uptoBulk d + 1
  | .map entries => uptoBulkEntries entries + 1
  | .held _ => 1
def uptoBulkAll {H : Type} : List (DataW H) → Nat
  | [] => 0
  | d :: r => uptoBulk d + uptoBulkAll r
def uptoBulkEntries {H : Type} : List (Lit × DataW H) → Nat
  | [] => 0
  | x :: r => uptoBulkEntry x + uptoBulkEntries r
def uptoBulkEntry {H : Type} : Lit × DataW H → Nat
  | (.string bytes, d) => bytes.length + uptoBulk d + 1
  | (_, d) => uptoBulk d + 1
 end
def uptoSmall : (H : Type) → List (DataW H) → Bool := fun _ ds => decide (uptoBulkAll ds ≤ 1048576)
def OpenSpec.upto (s : _root_.Go.ChangeSpec) : _root_.Go.OpenSpec := { _root_.Go.OpenSpec.ofChange s with cond := some uptoSmall }

/-- 'passbooklaw05.MoneySplits', WHERE WHAT IT READS IS OF BULK AT MOST 1048576: true; the input reads as it did. -/
def moneySplitsUptoRow : OpenClaim := { program := "ytfeifhlnidkbbaa", sum := "c446d6b58f7cc3fa2bd9a3a31d4e074a8773a8e67ae62c7a0904ba205a214c0d", func := "passbook/passbooklaw05.MoneySplits", spec := "moneySplits", unfollowed := true, recurses := true, named := ["math/bits.divideError", "math/bits.overflowError"], apart := false, narrowed := true }
def MoneySplitsUptoSaid : Prop := moneySplitsUptoRow.holds Try.pinned (OpenSpec.upto moneySplitsSpec)

/-- 'passbooklaw05.MoneyNothingLost', WHERE WHAT IT READS IS OF BULK AT MOST 1048576: true; the input reads as it did. -/
def moneyNothingLostUptoRow : OpenClaim := { program := "ytfeifhlnidkbbaa", sum := "c446d6b58f7cc3fa2bd9a3a31d4e074a8773a8e67ae62c7a0904ba205a214c0d", func := "passbook/passbooklaw05.MoneyNothingLost", spec := "moneyNothingLost", unfollowed := true, recurses := true, named := ["math/bits.divideError", "math/bits.overflowError"], apart := false, narrowed := true }
def MoneyNothingLostUptoSaid : Prop := moneyNothingLostUptoRow.holds Try.pinned (OpenSpec.upto moneyNothingLostSpec)

/-- 'passbooklaw05.MoneyScaled', WHERE WHAT IT READS IS OF BULK AT MOST 1048576: true; the input reads as it did. -/
def moneyScaledUptoRow : OpenClaim := { program := "ytfeifhlnidkbbaa", sum := "c446d6b58f7cc3fa2bd9a3a31d4e074a8773a8e67ae62c7a0904ba205a214c0d", func := "passbook/passbooklaw05.MoneyScaled", spec := "moneyScaled", unfollowed := true, recurses := true, named := ["math/bits.divideError", "math/bits.overflowError"], apart := false, narrowed := true }
def MoneyScaledUptoSaid : Prop := moneyScaledUptoRow.holds Try.pinned (OpenSpec.upto moneyScaledSpec)

/-- 'passbooklaw05.MoneyOrder', WHERE WHAT IT READS IS OF BULK AT MOST 1048576: true; the input reads as it did. -/
def moneyOrderUptoRow : OpenClaim := { program := "ytfeifhlnidkbbaa", sum := "c446d6b58f7cc3fa2bd9a3a31d4e074a8773a8e67ae62c7a0904ba205a214c0d", func := "passbook/passbooklaw05.MoneyOrder", spec := "moneyOrder", unfollowed := true, recurses := true, named := ["math/bits.divideError", "math/bits.overflowError"], apart := false, narrowed := true }
def MoneyOrderUptoSaid : Prop := moneyOrderUptoRow.holds Try.pinned (OpenSpec.upto moneyOrderSpec)

/-- 'passbooklaw05.MoneySums', WHERE WHAT IT READS IS OF BULK AT MOST 1048576: true; the input reads as it did. -/
def moneySumsUptoRow : OpenClaim := { program := "ytfeifhlnidkbbaa", sum := "c446d6b58f7cc3fa2bd9a3a31d4e074a8773a8e67ae62c7a0904ba205a214c0d", func := "passbook/passbooklaw05.MoneySums", spec := "moneySums", unfollowed := true, recurses := true, named := ["math/bits.divideError", "math/bits.overflowError"], apart := false, narrowed := true }
def MoneySumsUptoSaid : Prop := moneySumsUptoRow.holds Try.pinned (OpenSpec.upto moneySumsSpec)

/-- 'passbooklaw05.MoneyDecimals', WHERE WHAT IT READS IS OF BULK AT MOST 1048576: true; the input reads as it did. -/
def moneyDecimalsUptoRow : OpenClaim := { program := "ytfeifhlnidkbbaa", sum := "c446d6b58f7cc3fa2bd9a3a31d4e074a8773a8e67ae62c7a0904ba205a214c0d", func := "passbook/passbooklaw05.MoneyDecimals", spec := "moneyDecimals", inPlace := ["math/bits.Add64", "math/bits.Sub64"], unfollowed := true, recurses := true, named := ["math/bits.divideError", "math/bits.overflowError"], apart := false, narrowed := true }
def MoneyDecimalsUptoSaid : Prop := moneyDecimalsUptoRow.holds Try.pinned (OpenSpec.upto moneyDecimalsSpec)

end Rows
end Go.Proofs.Ytfeifhlnidkbbaa
