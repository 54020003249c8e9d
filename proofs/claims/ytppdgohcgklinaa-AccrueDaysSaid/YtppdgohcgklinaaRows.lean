/-
  No cell of these rows narrows 'for every input' (looked for: loops, veiled, ifaces, maps, wideKeys, modest, calm, conditions, laid).
  DERIVED. THE GIVEN ROWS OF THIS SEAT. 7 by the template 'for every input the law returns true; each argument reads behind the call as it read before'; 0 by the template 'total and deterministic' (their statements: YtppdgohcgklinaaTotals.lean).
  GIVEN WITH THE SEED: the statements are not yours to turn. If you find one false, say at which input.
  Laid BY PROGRAM, IN A SANDBOX (cutbox-rows.mjs): the forced cells as the released guide's own fill.sh prints them over the translation 38504a11b5f30ef3… (all of the seat's roots in one cut). By AI agents, Wed Nov 11 2026. No macro, syntax, notation, axiom, sorry.
-/
import Derived.Test.YtppdgohcgklinaaChecked
import GoSem.Claim
import GoSem.ClaimJoined
import GoSem.ClaimMapViews
import Derived.JoinedTies
import Derived.KernelRfl
namespace Go.Proofs.Ytppdgohcgklinaa
/- THE CELL 'sum', in the pinned program and in every row, IS THE sha256 OF THE DUMP (.gsa) THAT YtppdgohcgklinaaProg.lean LOADS. Nothing in Lean hashes anything: it is a label: what it is worth is what the hold of that sum in a sandbox is worth. -/
noncomputable def Try.pinned : Pinned := { name := "ytppdgohcgklinaa", sum := "38504a11b5f30ef336b2d652f28f3cb1d627644ed1130b4bed8bb13de5d3121b", checked := Try.checked }
namespace Rows
def none {H : Type} : Left H := { results := [], args := [] }

/-- 'passbooklaw14.AccrueDays': WHATEVER THE INPUT: true; the input reads as it did. -/
def accrueDaysSpec : ChangeSpec := { name := "accrueDays", fn := fun _ => fun
  | [d1, d2, d3, d4, d5, d6] => { results := [.lit (.bool true)], args := [d1, d2, d3, d4, d5, d6] }
  | _ => none }
def accrueDaysRow : OpenClaim := { program := "ytppdgohcgklinaa", sum := "38504a11b5f30ef336b2d652f28f3cb1d627644ed1130b4bed8bb13de5d3121b", func := "passbook/passbooklaw14.AccrueDays", spec := "accrueDays", inPlace := ["math/bits.Add64", "math/bits.Sub64"], apart := false }
def AccrueDaysSaid : Prop := accrueDaysRow.holds Try.pinned (OpenSpec.ofChange accrueDaysSpec)

/-- ITS FALSE NEIGHBOUR: 'it returns false'. Refute it at one input. -/
def accrueDaysWrong : ChangeSpec := { name := "accrueDays", fn := fun _ => fun
  | [d1, d2, d3, d4, d5, d6] => { results := [.lit (.bool false)], args := [d1, d2, d3, d4, d5, d6] }
  | _ => none }
def AccrueDaysWrongFalsely : Prop := accrueDaysRow.holds Try.pinned (OpenSpec.ofChange accrueDaysWrong)

/-- 'passbooklaw14.AccrueGrows': WHATEVER THE INPUT: true; the input reads as it did. -/
def accrueGrowsSpec : ChangeSpec := { name := "accrueGrows", fn := fun _ => fun
  | [d1, d2, d3, d4, d5, d6] => { results := [.lit (.bool true)], args := [d1, d2, d3, d4, d5, d6] }
  | _ => none }
def accrueGrowsRow : OpenClaim := { program := "ytppdgohcgklinaa", sum := "38504a11b5f30ef336b2d652f28f3cb1d627644ed1130b4bed8bb13de5d3121b", func := "passbook/passbooklaw14.AccrueGrows", spec := "accrueGrows", inPlace := ["math/bits.Add64", "math/bits.Sub64"], apart := false }
def AccrueGrowsSaid : Prop := accrueGrowsRow.holds Try.pinned (OpenSpec.ofChange accrueGrowsSpec)

/-- ITS FALSE NEIGHBOUR: 'it returns false'. Refute it at one input. -/
def accrueGrowsWrong : ChangeSpec := { name := "accrueGrows", fn := fun _ => fun
  | [d1, d2, d3, d4, d5, d6] => { results := [.lit (.bool false)], args := [d1, d2, d3, d4, d5, d6] }
  | _ => none }
def AccrueGrowsWrongFalsely : Prop := accrueGrowsRow.holds Try.pinned (OpenSpec.ofChange accrueGrowsWrong)

/-- 'passbooklaw14.AccrueParts': WHATEVER THE INPUT: true; the input reads as it did. -/
def accruePartsSpec : ChangeSpec := { name := "accrueParts", fn := fun _ => fun
  | [d1, d2] => { results := [.lit (.bool true)], args := [d1, d2] }
  | _ => none }
def accruePartsRow : OpenClaim := { program := "ytppdgohcgklinaa", sum := "38504a11b5f30ef336b2d652f28f3cb1d627644ed1130b4bed8bb13de5d3121b", func := "passbook/passbooklaw14.AccrueParts", spec := "accrueParts", inPlace := ["math/bits.Add64", "math/bits.Sub64"], apart := false }
def AccruePartsSaid : Prop := accruePartsRow.holds Try.pinned (OpenSpec.ofChange accruePartsSpec)

/-- ITS FALSE NEIGHBOUR: 'it returns false'. Refute it at one input. -/
def accruePartsWrong : ChangeSpec := { name := "accrueParts", fn := fun _ => fun
  | [d1, d2] => { results := [.lit (.bool false)], args := [d1, d2] }
  | _ => none }
def AccruePartsWrongFalsely : Prop := accruePartsRow.holds Try.pinned (OpenSpec.ofChange accruePartsWrong)

/-- 'passbooklaw14.AccrueModes': WHATEVER THE INPUT: true; the input reads as it did. -/
def accrueModesSpec : ChangeSpec := { name := "accrueModes", fn := fun _ => fun
  | [d1, d2, d3, d4, d5] => { results := [.lit (.bool true)], args := [d1, d2, d3, d4, d5] }
  | _ => none }
def accrueModesRow : OpenClaim := { program := "ytppdgohcgklinaa", sum := "38504a11b5f30ef336b2d652f28f3cb1d627644ed1130b4bed8bb13de5d3121b", func := "passbook/passbooklaw14.AccrueModes", spec := "accrueModes", inPlace := ["math/bits.Add64", "math/bits.Sub64"], apart := false }
def AccrueModesSaid : Prop := accrueModesRow.holds Try.pinned (OpenSpec.ofChange accrueModesSpec)

/-- ITS FALSE NEIGHBOUR: 'it returns false'. Refute it at one input. -/
def accrueModesWrong : ChangeSpec := { name := "accrueModes", fn := fun _ => fun
  | [d1, d2, d3, d4, d5] => { results := [.lit (.bool false)], args := [d1, d2, d3, d4, d5] }
  | _ => none }
def AccrueModesWrongFalsely : Prop := accrueModesRow.holds Try.pinned (OpenSpec.ofChange accrueModesWrong)

/-- 'passbooklaw14.AccrueSpans': WHATEVER THE INPUT: true; the input reads as it did. -/
def accrueSpansSpec : ChangeSpec := { name := "accrueSpans", fn := fun _ => fun
  | [d1, d2, d3, d4, d5, d6, d7] => { results := [.lit (.bool true)], args := [d1, d2, d3, d4, d5, d6, d7] }
  | _ => none }
def accrueSpansRow : OpenClaim := { program := "ytppdgohcgklinaa", sum := "38504a11b5f30ef336b2d652f28f3cb1d627644ed1130b4bed8bb13de5d3121b", func := "passbook/passbooklaw14.AccrueSpans", spec := "accrueSpans", inPlace := ["math/bits.Add64", "math/bits.Sub64"], apart := false }
def AccrueSpansSaid : Prop := accrueSpansRow.holds Try.pinned (OpenSpec.ofChange accrueSpansSpec)

/-- ITS FALSE NEIGHBOUR: 'it returns false'. Refute it at one input. -/
def accrueSpansWrong : ChangeSpec := { name := "accrueSpans", fn := fun _ => fun
  | [d1, d2, d3, d4, d5, d6, d7] => { results := [.lit (.bool false)], args := [d1, d2, d3, d4, d5, d6, d7] }
  | _ => none }
def AccrueSpansWrongFalsely : Prop := accrueSpansRow.holds Try.pinned (OpenSpec.ofChange accrueSpansWrong)

/-- 'passbooklaw14.AccrueNothingLost': WHATEVER THE INPUT: true; the input reads as it did. -/
def accrueNothingLostSpec : ChangeSpec := { name := "accrueNothingLost", fn := fun _ => fun
  | [d1, d2, d3, d4, d5] => { results := [.lit (.bool true)], args := [d1, d2, d3, d4, d5] }
  | _ => none }
def accrueNothingLostRow : OpenClaim := { program := "ytppdgohcgklinaa", sum := "38504a11b5f30ef336b2d652f28f3cb1d627644ed1130b4bed8bb13de5d3121b", func := "passbook/passbooklaw14.AccrueNothingLost", spec := "accrueNothingLost", inPlace := ["math/bits.Add64", "math/bits.Sub64"], apart := false }
def AccrueNothingLostSaid : Prop := accrueNothingLostRow.holds Try.pinned (OpenSpec.ofChange accrueNothingLostSpec)

/-- ITS FALSE NEIGHBOUR: 'it returns false'. Refute it at one input. -/
def accrueNothingLostWrong : ChangeSpec := { name := "accrueNothingLost", fn := fun _ => fun
  | [d1, d2, d3, d4, d5] => { results := [.lit (.bool false)], args := [d1, d2, d3, d4, d5] }
  | _ => none }
def AccrueNothingLostWrongFalsely : Prop := accrueNothingLostRow.holds Try.pinned (OpenSpec.ofChange accrueNothingLostWrong)

/-- 'passbooklaw14.AccruePays': WHATEVER THE INPUT: true; the input reads as it did. -/
def accruePaysSpec : ChangeSpec := { name := "accruePays", fn := fun _ => fun
  | [d1, d2, d3, d4, d5] => { results := [.lit (.bool true)], args := [d1, d2, d3, d4, d5] }
  | _ => none }
def accruePaysRow : OpenClaim := { program := "ytppdgohcgklinaa", sum := "38504a11b5f30ef336b2d652f28f3cb1d627644ed1130b4bed8bb13de5d3121b", func := "passbook/passbooklaw14.AccruePays", spec := "accruePays", inPlace := ["math/bits.Add64", "math/bits.Sub64"], apart := false }
def AccruePaysSaid : Prop := accruePaysRow.holds Try.pinned (OpenSpec.ofChange accruePaysSpec)

/-- ITS FALSE NEIGHBOUR: 'it returns false'. Refute it at one input. -/
def accruePaysWrong : ChangeSpec := { name := "accruePays", fn := fun _ => fun
  | [d1, d2, d3, d4, d5] => { results := [.lit (.bool false)], args := [d1, d2, d3, d4, d5] }
  | _ => none }
def AccruePaysWrongFalsely : Prop := accruePaysRow.holds Try.pinned (OpenSpec.ofChange accruePaysWrong)

/- THE SECOND FORM. 'bulk': how many values and letters a reading holds, each counted each time it is reached (what is shared counts as often as it is met; a slice's spare places count too). A statement '..UptoSaid' is the law's where the arguments, and the package variables that the reading takes, are together of bulk at most 1048576: NARROWER than '..Said'. Prove '..Said' where nothing that the law and all that it calls make is longer than what came in: it says more and counts as full. Else prove '..UptoSaid'. A law counts once. -/
mutual
def uptoBulk {H : Type} : DataW H → Nat
  | .lit (.string bytes) => bytes.length + 1
  | .lit _ => 1
  | .nil => 1
  | .ptr d => uptoBulk d + 1
  | .slice elems spare => uptoBulkAll elems + uptoBulkAll spare + 1
  | .agg parts => uptoBulkAll parts + 1
  | .iface _ d => uptoBulk d + 1
  | .map entries => uptoBulkEntries entries + 1
  | .held _ => 1
def uptoBulkAll {H : Type} : List (DataW H) → Nat
  | [] => 0
  | d :: r => uptoBulk d + uptoBulkAll r
def uptoBulkEntries {H : Type} : List (Lit × DataW H) → Nat
  | [] => 0
  | x :: r => uptoBulkEntry x + uptoBulkEntries r
def uptoBulkEntry {H : Type} : Lit × DataW H → Nat
  | (.string bytes, d) => bytes.length + uptoBulk d + 1
  | (_, d) => uptoBulk d + 1
 end
def uptoSmall : (H : Type) → List (DataW H) → Bool := fun _ ds => decide (uptoBulkAll ds ≤ 1048576)
def OpenSpec.upto (s : _root_.Go.ChangeSpec) : _root_.Go.OpenSpec := { _root_.Go.OpenSpec.ofChange s with cond := some uptoSmall }

/-- 'passbooklaw14.AccrueDays', WHERE WHAT IT READS IS OF BULK AT MOST 1048576: true; the input reads as it did. -/
def accrueDaysUptoRow : OpenClaim := { program := "ytppdgohcgklinaa", sum := "38504a11b5f30ef336b2d652f28f3cb1d627644ed1130b4bed8bb13de5d3121b", func := "passbook/passbooklaw14.AccrueDays", spec := "accrueDays", inPlace := ["math/bits.Add64", "math/bits.Sub64"], apart := false, narrowed := true }
def AccrueDaysUptoSaid : Prop := accrueDaysUptoRow.holds Try.pinned (OpenSpec.upto accrueDaysSpec)

/-- 'passbooklaw14.AccrueGrows', WHERE WHAT IT READS IS OF BULK AT MOST 1048576: true; the input reads as it did. -/
def accrueGrowsUptoRow : OpenClaim := { program := "ytppdgohcgklinaa", sum := "38504a11b5f30ef336b2d652f28f3cb1d627644ed1130b4bed8bb13de5d3121b", func := "passbook/passbooklaw14.AccrueGrows", spec := "accrueGrows", inPlace := ["math/bits.Add64", "math/bits.Sub64"], apart := false, narrowed := true }
def AccrueGrowsUptoSaid : Prop := accrueGrowsUptoRow.holds Try.pinned (OpenSpec.upto accrueGrowsSpec)

/-- 'passbooklaw14.AccrueParts', WHERE WHAT IT READS IS OF BULK AT MOST 1048576: true; the input reads as it did. -/
def accruePartsUptoRow : OpenClaim := { program := "ytppdgohcgklinaa", sum := "38504a11b5f30ef336b2d652f28f3cb1d627644ed1130b4bed8bb13de5d3121b", func := "passbook/passbooklaw14.AccrueParts", spec := "accrueParts", inPlace := ["math/bits.Add64", "math/bits.Sub64"], apart := false, narrowed := true }
def AccruePartsUptoSaid : Prop := accruePartsUptoRow.holds Try.pinned (OpenSpec.upto accruePartsSpec)

/-- 'passbooklaw14.AccrueModes', WHERE WHAT IT READS IS OF BULK AT MOST 1048576: true; the input reads as it did. -/
def accrueModesUptoRow : OpenClaim := { program := "ytppdgohcgklinaa", sum := "38504a11b5f30ef336b2d652f28f3cb1d627644ed1130b4bed8bb13de5d3121b", func := "passbook/passbooklaw14.AccrueModes", spec := "accrueModes", inPlace := ["math/bits.Add64", "math/bits.Sub64"], apart := false, narrowed := true }
def AccrueModesUptoSaid : Prop := accrueModesUptoRow.holds Try.pinned (OpenSpec.upto accrueModesSpec)

/-- 'passbooklaw14.AccrueSpans', WHERE WHAT IT READS IS OF BULK AT MOST 1048576: true; the input reads as it did. -/
def accrueSpansUptoRow : OpenClaim := { program := "ytppdgohcgklinaa", sum := "38504a11b5f30ef336b2d652f28f3cb1d627644ed1130b4bed8bb13de5d3121b", func := "passbook/passbooklaw14.AccrueSpans", spec := "accrueSpans", inPlace := ["math/bits.Add64", "math/bits.Sub64"], apart := false, narrowed := true }
def AccrueSpansUptoSaid : Prop := accrueSpansUptoRow.holds Try.pinned (OpenSpec.upto accrueSpansSpec)

/-- 'passbooklaw14.AccrueNothingLost', WHERE WHAT IT READS IS OF BULK AT MOST 1048576: true; the input reads as it did. -/
def accrueNothingLostUptoRow : OpenClaim := { program := "ytppdgohcgklinaa", sum := "38504a11b5f30ef336b2d652f28f3cb1d627644ed1130b4bed8bb13de5d3121b", func := "passbook/passbooklaw14.AccrueNothingLost", spec := "accrueNothingLost", inPlace := ["math/bits.Add64", "math/bits.Sub64"], apart := false, narrowed := true }
def AccrueNothingLostUptoSaid : Prop := accrueNothingLostUptoRow.holds Try.pinned (OpenSpec.upto accrueNothingLostSpec)

/-- 'passbooklaw14.AccruePays', WHERE WHAT IT READS IS OF BULK AT MOST 1048576: true; the input reads as it did. -/
def accruePaysUptoRow : OpenClaim := { program := "ytppdgohcgklinaa", sum := "38504a11b5f30ef336b2d652f28f3cb1d627644ed1130b4bed8bb13de5d3121b", func := "passbook/passbooklaw14.AccruePays", spec := "accruePays", inPlace := ["math/bits.Add64", "math/bits.Sub64"], apart := false, narrowed := true }
def AccruePaysUptoSaid : Prop := accruePaysUptoRow.holds Try.pinned (OpenSpec.upto accruePaysSpec)

end Rows
end Go.Proofs.Ytppdgohcgklinaa
