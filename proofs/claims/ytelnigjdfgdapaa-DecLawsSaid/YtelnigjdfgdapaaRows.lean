/-
  No cell of these rows narrows 'for every input' (looked for: loops, veiled, ifaces, maps, wideKeys, modest, calm, conditions, laid).
  DERIVED. THE GIVEN ROWS OF THIS SEAT. 12 by the template 'for every input the law returns true; each argument reads behind the call as it read before'; 0 by the template 'total and deterministic' (their statements: YtelnigjdfgdapaaTotals.lean).
  GIVEN WITH THE SEED: the statements are not yours to turn. If you find one false, say at which input.
  Laid BY PROGRAM, IN A SANDBOX (cutbox-rows.mjs): the forced cells as the released guide's own fill.sh prints them over the translation df67b534f18cfacd… (all of the seat's roots in one cut). By AI agents, Wed Nov 11 2026. No macro, syntax, notation, axiom, sorry.
-/
import Derived.Test.YtelnigjdfgdapaaChecked
import GoSem.Claim
import GoSem.ClaimJoined
import GoSem.ClaimMapViews
import Derived.JoinedTies
import Derived.KernelRfl
namespace Go.Proofs.Ytelnigjdfgdapaa
/- THE CELL 'sum', in the pinned program and in every row, IS THE sha256 OF THE DUMP (.gsa) THAT YtelnigjdfgdapaaProg.lean LOADS. Nothing in Lean hashes anything: it is a label: what it is worth is what the hold of that sum in a sandbox is worth. -/
noncomputable def Try.pinned : Pinned := { name := "ytelnigjdfgdapaa", sum := "df67b534f18cfacdf1e2244ab3885da0224c3a355ed4e1c6d3c1ef4139017d55", checked := Try.checked }
namespace Rows
def none {H : Type} : Left H := { results := [], args := [] }

/-- 'passbooklaw01.DecRounds': WHATEVER THE INPUT: true; the input reads as it did. -/
def decRoundsSpec : ChangeSpec := { name := "decRounds", fn := fun _ => fun
  | [d1, d2, d3] => { results := [.lit (.bool true)], args := [d1, d2, d3] }
  | _ => none }
def decRoundsRow : OpenClaim := { program := "ytelnigjdfgdapaa", sum := "df67b534f18cfacdf1e2244ab3885da0224c3a355ed4e1c6d3c1ef4139017d55", func := "passbook/passbooklaw01.DecRounds", spec := "decRounds", inPlace := ["math/bits.Add64", "math/bits.Sub64"], apart := false }
def DecRoundsSaid : Prop := decRoundsRow.holds Try.pinned (OpenSpec.ofChange decRoundsSpec)

/-- ITS FALSE NEIGHBOUR: 'it returns false'. Refute it at one input. -/
def decRoundsWrong : ChangeSpec := { name := "decRounds", fn := fun _ => fun
  | [d1, d2, d3] => { results := [.lit (.bool false)], args := [d1, d2, d3] }
  | _ => none }
def DecRoundsWrongFalsely : Prop := decRoundsRow.holds Try.pinned (OpenSpec.ofChange decRoundsWrong)

/-- 'passbooklaw01.DecQuotients': WHATEVER THE INPUT: true; the input reads as it did. -/
def decQuotientsSpec : ChangeSpec := { name := "decQuotients", fn := fun _ => fun
  | [d1, d2, d3, d4] => { results := [.lit (.bool true)], args := [d1, d2, d3, d4] }
  | _ => none }
def decQuotientsRow : OpenClaim := { program := "ytelnigjdfgdapaa", sum := "df67b534f18cfacdf1e2244ab3885da0224c3a355ed4e1c6d3c1ef4139017d55", func := "passbook/passbooklaw01.DecQuotients", spec := "decQuotients", inPlace := ["math/bits.Add64", "math/bits.Sub64"], apart := false }
def DecQuotientsSaid : Prop := decQuotientsRow.holds Try.pinned (OpenSpec.ofChange decQuotientsSpec)

/-- ITS FALSE NEIGHBOUR: 'it returns false'. Refute it at one input. -/
def decQuotientsWrong : ChangeSpec := { name := "decQuotients", fn := fun _ => fun
  | [d1, d2, d3, d4] => { results := [.lit (.bool false)], args := [d1, d2, d3, d4] }
  | _ => none }
def DecQuotientsWrongFalsely : Prop := decQuotientsRow.holds Try.pinned (OpenSpec.ofChange decQuotientsWrong)

/-- 'passbooklaw01.DecProducts': WHATEVER THE INPUT: true; the input reads as it did. -/
def decProductsSpec : ChangeSpec := { name := "decProducts", fn := fun _ => fun
  | [d1, d2, d3, d4] => { results := [.lit (.bool true)], args := [d1, d2, d3, d4] }
  | _ => none }
def decProductsRow : OpenClaim := { program := "ytelnigjdfgdapaa", sum := "df67b534f18cfacdf1e2244ab3885da0224c3a355ed4e1c6d3c1ef4139017d55", func := "passbook/passbooklaw01.DecProducts", spec := "decProducts", inPlace := ["math/bits.Add64", "math/bits.Sub64"], apart := false }
def DecProductsSaid : Prop := decProductsRow.holds Try.pinned (OpenSpec.ofChange decProductsSpec)

/-- ITS FALSE NEIGHBOUR: 'it returns false'. Refute it at one input. -/
def decProductsWrong : ChangeSpec := { name := "decProducts", fn := fun _ => fun
  | [d1, d2, d3, d4] => { results := [.lit (.bool false)], args := [d1, d2, d3, d4] }
  | _ => none }
def DecProductsWrongFalsely : Prop := decProductsRow.holds Try.pinned (OpenSpec.ofChange decProductsWrong)

/-- 'passbooklaw01.DecBack': WHATEVER THE INPUT: true; the input reads as it did. -/
def decBackSpec : ChangeSpec := { name := "decBack", fn := fun _ => fun
  | [d1, d2, d3] => { results := [.lit (.bool true)], args := [d1, d2, d3] }
  | _ => none }
def decBackRow : OpenClaim := { program := "ytelnigjdfgdapaa", sum := "df67b534f18cfacdf1e2244ab3885da0224c3a355ed4e1c6d3c1ef4139017d55", func := "passbook/passbooklaw01.DecBack", spec := "decBack", inPlace := ["math/bits.Add64", "math/bits.Sub64"], apart := false }
def DecBackSaid : Prop := decBackRow.holds Try.pinned (OpenSpec.ofChange decBackSpec)

/-- ITS FALSE NEIGHBOUR: 'it returns false'. Refute it at one input. -/
def decBackWrong : ChangeSpec := { name := "decBack", fn := fun _ => fun
  | [d1, d2, d3] => { results := [.lit (.bool false)], args := [d1, d2, d3] }
  | _ => none }
def DecBackWrongFalsely : Prop := decBackRow.holds Try.pinned (OpenSpec.ofChange decBackWrong)

/-- 'passbooklaw01.DecScales': WHATEVER THE INPUT: true; the input reads as it did. -/
def decScalesSpec : ChangeSpec := { name := "decScales", fn := fun _ => fun
  | [d1, d2] => { results := [.lit (.bool true)], args := [d1, d2] }
  | _ => none }
def decScalesRow : OpenClaim := { program := "ytelnigjdfgdapaa", sum := "df67b534f18cfacdf1e2244ab3885da0224c3a355ed4e1c6d3c1ef4139017d55", func := "passbook/passbooklaw01.DecScales", spec := "decScales", inPlace := ["math/bits.Add64", "math/bits.Sub64"], apart := false }
def DecScalesSaid : Prop := decScalesRow.holds Try.pinned (OpenSpec.ofChange decScalesSpec)

/-- ITS FALSE NEIGHBOUR: 'it returns false'. Refute it at one input. -/
def decScalesWrong : ChangeSpec := { name := "decScales", fn := fun _ => fun
  | [d1, d2] => { results := [.lit (.bool false)], args := [d1, d2] }
  | _ => none }
def DecScalesWrongFalsely : Prop := decScalesRow.holds Try.pinned (OpenSpec.ofChange decScalesWrong)

/-- 'passbooklaw01.DecSpread': WHATEVER THE INPUT: true; the input reads as it did. -/
def decSpreadSpec : ChangeSpec := { name := "decSpread", fn := fun _ => fun
  | [d1, d2, d3, d4, d5] => { results := [.lit (.bool true)], args := [d1, d2, d3, d4, d5] }
  | _ => none }
def decSpreadRow : OpenClaim := { program := "ytelnigjdfgdapaa", sum := "df67b534f18cfacdf1e2244ab3885da0224c3a355ed4e1c6d3c1ef4139017d55", func := "passbook/passbooklaw01.DecSpread", spec := "decSpread", inPlace := ["math/bits.Add64", "math/bits.Sub64"], apart := false }
def DecSpreadSaid : Prop := decSpreadRow.holds Try.pinned (OpenSpec.ofChange decSpreadSpec)

/-- ITS FALSE NEIGHBOUR: 'it returns false'. Refute it at one input. -/
def decSpreadWrong : ChangeSpec := { name := "decSpread", fn := fun _ => fun
  | [d1, d2, d3, d4, d5] => { results := [.lit (.bool false)], args := [d1, d2, d3, d4, d5] }
  | _ => none }
def DecSpreadWrongFalsely : Prop := decSpreadRow.holds Try.pinned (OpenSpec.ofChange decSpreadWrong)

/-- 'passbooklaw01.DecWholes': WHATEVER THE INPUT: true; the input reads as it did. -/
def decWholesSpec : ChangeSpec := { name := "decWholes", fn := fun _ => fun
  | [d1, d2, d3] => { results := [.lit (.bool true)], args := [d1, d2, d3] }
  | _ => none }
def decWholesRow : OpenClaim := { program := "ytelnigjdfgdapaa", sum := "df67b534f18cfacdf1e2244ab3885da0224c3a355ed4e1c6d3c1ef4139017d55", func := "passbook/passbooklaw01.DecWholes", spec := "decWholes", inPlace := ["math/bits.Add64", "math/bits.Sub64"], apart := false }
def DecWholesSaid : Prop := decWholesRow.holds Try.pinned (OpenSpec.ofChange decWholesSpec)

/-- ITS FALSE NEIGHBOUR: 'it returns false'. Refute it at one input. -/
def decWholesWrong : ChangeSpec := { name := "decWholes", fn := fun _ => fun
  | [d1, d2, d3] => { results := [.lit (.bool false)], args := [d1, d2, d3] }
  | _ => none }
def DecWholesWrongFalsely : Prop := decWholesRow.holds Try.pinned (OpenSpec.ofChange decWholesWrong)

/-- 'passbooklaw01.DecOrder': WHATEVER THE INPUT: true; the input reads as it did. -/
def decOrderSpec : ChangeSpec := { name := "decOrder", fn := fun _ => fun
  | [d1, d2, d3] => { results := [.lit (.bool true)], args := [d1, d2, d3] }
  | _ => none }
def decOrderRow : OpenClaim := { program := "ytelnigjdfgdapaa", sum := "df67b534f18cfacdf1e2244ab3885da0224c3a355ed4e1c6d3c1ef4139017d55", func := "passbook/passbooklaw01.DecOrder", spec := "decOrder", inPlace := ["math/bits.Add64", "math/bits.Sub64"], apart := false }
def DecOrderSaid : Prop := decOrderRow.holds Try.pinned (OpenSpec.ofChange decOrderSpec)

/-- ITS FALSE NEIGHBOUR: 'it returns false'. Refute it at one input. -/
def decOrderWrong : ChangeSpec := { name := "decOrder", fn := fun _ => fun
  | [d1, d2, d3] => { results := [.lit (.bool false)], args := [d1, d2, d3] }
  | _ => none }
def DecOrderWrongFalsely : Prop := decOrderRow.holds Try.pinned (OpenSpec.ofChange decOrderWrong)

/-- 'passbooklaw01.DecNegs': WHATEVER THE INPUT: true; the input reads as it did. -/
def decNegsSpec : ChangeSpec := { name := "decNegs", fn := fun _ => fun
  | [d1, d2] => { results := [.lit (.bool true)], args := [d1, d2] }
  | _ => none }
def decNegsRow : OpenClaim := { program := "ytelnigjdfgdapaa", sum := "df67b534f18cfacdf1e2244ab3885da0224c3a355ed4e1c6d3c1ef4139017d55", func := "passbook/passbooklaw01.DecNegs", spec := "decNegs", inPlace := ["math/bits.Add64", "math/bits.Sub64"], apart := false }
def DecNegsSaid : Prop := decNegsRow.holds Try.pinned (OpenSpec.ofChange decNegsSpec)

/-- ITS FALSE NEIGHBOUR: 'it returns false'. Refute it at one input. -/
def decNegsWrong : ChangeSpec := { name := "decNegs", fn := fun _ => fun
  | [d1, d2] => { results := [.lit (.bool false)], args := [d1, d2] }
  | _ => none }
def DecNegsWrongFalsely : Prop := decNegsRow.holds Try.pinned (OpenSpec.ofChange decNegsWrong)

/-- 'passbooklaw01.DecLaws': WHATEVER THE INPUT: true; the input reads as it did. -/
def decLawsSpec : ChangeSpec := { name := "decLaws", fn := fun _ => fun
  | [d1, d2, d3] => { results := [.lit (.bool true)], args := [d1, d2, d3] }
  | _ => none }
def decLawsRow : OpenClaim := { program := "ytelnigjdfgdapaa", sum := "df67b534f18cfacdf1e2244ab3885da0224c3a355ed4e1c6d3c1ef4139017d55", func := "passbook/passbooklaw01.DecLaws", spec := "decLaws", inPlace := ["math/bits.Add64", "math/bits.Sub64"], apart := false }
def DecLawsSaid : Prop := decLawsRow.holds Try.pinned (OpenSpec.ofChange decLawsSpec)

/-- ITS FALSE NEIGHBOUR: 'it returns false'. Refute it at one input. -/
def decLawsWrong : ChangeSpec := { name := "decLaws", fn := fun _ => fun
  | [d1, d2, d3] => { results := [.lit (.bool false)], args := [d1, d2, d3] }
  | _ => none }
def DecLawsWrongFalsely : Prop := decLawsRow.holds Try.pinned (OpenSpec.ofChange decLawsWrong)

/-- 'passbooklaw01.DecBetween': WHATEVER THE INPUT: true; the input reads as it did. -/
def decBetweenSpec : ChangeSpec := { name := "decBetween", fn := fun _ => fun
  | [d1, d2] => { results := [.lit (.bool true)], args := [d1, d2] }
  | _ => none }
def decBetweenRow : OpenClaim := { program := "ytelnigjdfgdapaa", sum := "df67b534f18cfacdf1e2244ab3885da0224c3a355ed4e1c6d3c1ef4139017d55", func := "passbook/passbooklaw01.DecBetween", spec := "decBetween", inPlace := ["math/bits.Add64", "math/bits.Sub64"], apart := false }
def DecBetweenSaid : Prop := decBetweenRow.holds Try.pinned (OpenSpec.ofChange decBetweenSpec)

/-- ITS FALSE NEIGHBOUR: 'it returns false'. Refute it at one input. -/
def decBetweenWrong : ChangeSpec := { name := "decBetween", fn := fun _ => fun
  | [d1, d2] => { results := [.lit (.bool false)], args := [d1, d2] }
  | _ => none }
def DecBetweenWrongFalsely : Prop := decBetweenRow.holds Try.pinned (OpenSpec.ofChange decBetweenWrong)

/-- 'passbooklaw01.DecSums': WHATEVER THE INPUT: true; the input reads as it did. -/
def decSumsSpec : ChangeSpec := { name := "decSums", fn := fun _ => fun
  | [d1, d2] => { results := [.lit (.bool true)], args := [d1, d2] }
  | _ => none }
def decSumsRow : OpenClaim := { program := "ytelnigjdfgdapaa", sum := "df67b534f18cfacdf1e2244ab3885da0224c3a355ed4e1c6d3c1ef4139017d55", func := "passbook/passbooklaw01.DecSums", spec := "decSums", inPlace := ["math/bits.Add64", "math/bits.Sub64"], apart := false }
def DecSumsSaid : Prop := decSumsRow.holds Try.pinned (OpenSpec.ofChange decSumsSpec)

/-- ITS FALSE NEIGHBOUR: 'it returns false'. Refute it at one input. -/
def decSumsWrong : ChangeSpec := { name := "decSums", fn := fun _ => fun
  | [d1, d2] => { results := [.lit (.bool false)], args := [d1, d2] }
  | _ => none }
def DecSumsWrongFalsely : Prop := decSumsRow.holds Try.pinned (OpenSpec.ofChange decSumsWrong)

/- THE SECOND FORM. 'bulk': how many values and letters a reading holds, each counted each time it is reached (what is shared counts as often as it is met; a slice's spare places count too). A statement '..UptoSaid' is the law's where the arguments, and the package variables that the reading takes, are together of bulk at most 1048576: NARROWER than '..Said'. Prove '..Said' where nothing that the law and all that it calls make is longer than what came in: it says more and counts as full. Else prove '..UptoSaid'. A law counts once. -/
mutual
def uptoBulk {H : Type} : DataW H → Nat
  | .lit (.string bytes) => bytes.length + 1
  | .lit _ => 1
  | .nil => 1
  | .ptr d => uptoBulk d + 1
  | .slice elems spare => uptoBulkAll elems + uptoBulkAll spare + 1
  | .agg parts => uptoBulkAll parts + 1
  | .iface _ d => uptoBulk d + 1
  | .map entries => uptoBulkEntries entries + 1
  | .held _ => 1
def uptoBulkAll {H : Type} : List (DataW H) → Nat
  | [] => 0
  | d :: r => uptoBulk d + uptoBulkAll r
def uptoBulkEntries {H : Type} : List (Lit × DataW H) → Nat
  | [] => 0
  | x :: r => uptoBulkEntry x + uptoBulkEntries r
def uptoBulkEntry {H : Type} : Lit × DataW H → Nat
  | (.string bytes, d) => bytes.length + uptoBulk d + 1
  | (_, d) => uptoBulk d + 1
 end
def uptoSmall : (H : Type) → List (DataW H) → Bool := fun _ ds => decide (uptoBulkAll ds ≤ 1048576)
def OpenSpec.upto (s : _root_.Go.ChangeSpec) : _root_.Go.OpenSpec := { _root_.Go.OpenSpec.ofChange s with cond := some uptoSmall }

/-- 'passbooklaw01.DecRounds', WHERE WHAT IT READS IS OF BULK AT MOST 1048576: true; the input reads as it did. -/
def decRoundsUptoRow : OpenClaim := { program := "ytelnigjdfgdapaa", sum := "df67b534f18cfacdf1e2244ab3885da0224c3a355ed4e1c6d3c1ef4139017d55", func := "passbook/passbooklaw01.DecRounds", spec := "decRounds", inPlace := ["math/bits.Add64", "math/bits.Sub64"], apart := false, narrowed := true }
def DecRoundsUptoSaid : Prop := decRoundsUptoRow.holds Try.pinned (OpenSpec.upto decRoundsSpec)

/-- 'passbooklaw01.DecQuotients', WHERE WHAT IT READS IS OF BULK AT MOST 1048576: true; the input reads as it did. -/
def decQuotientsUptoRow : OpenClaim := { program := "ytelnigjdfgdapaa", sum := "df67b534f18cfacdf1e2244ab3885da0224c3a355ed4e1c6d3c1ef4139017d55", func := "passbook/passbooklaw01.DecQuotients", spec := "decQuotients", inPlace := ["math/bits.Add64", "math/bits.Sub64"], apart := false, narrowed := true }
def DecQuotientsUptoSaid : Prop := decQuotientsUptoRow.holds Try.pinned (OpenSpec.upto decQuotientsSpec)

/-- 'passbooklaw01.DecProducts', WHERE WHAT IT READS IS OF BULK AT MOST 1048576: true; the input reads as it did. -/
def decProductsUptoRow : OpenClaim := { program := "ytelnigjdfgdapaa", sum := "df67b534f18cfacdf1e2244ab3885da0224c3a355ed4e1c6d3c1ef4139017d55", func := "passbook/passbooklaw01.DecProducts", spec := "decProducts", inPlace := ["math/bits.Add64", "math/bits.Sub64"], apart := false, narrowed := true }
def DecProductsUptoSaid : Prop := decProductsUptoRow.holds Try.pinned (OpenSpec.upto decProductsSpec)

/-- 'passbooklaw01.DecBack', WHERE WHAT IT READS IS OF BULK AT MOST 1048576: true; the input reads as it did. -/
def decBackUptoRow : OpenClaim := { program := "ytelnigjdfgdapaa", sum := "df67b534f18cfacdf1e2244ab3885da0224c3a355ed4e1c6d3c1ef4139017d55", func := "passbook/passbooklaw01.DecBack", spec := "decBack", inPlace := ["math/bits.Add64", "math/bits.Sub64"], apart := false, narrowed := true }
def DecBackUptoSaid : Prop := decBackUptoRow.holds Try.pinned (OpenSpec.upto decBackSpec)

/-- 'passbooklaw01.DecScales', WHERE WHAT IT READS IS OF BULK AT MOST 1048576: true; the input reads as it did. -/
def decScalesUptoRow : OpenClaim := { program := "ytelnigjdfgdapaa", sum := "df67b534f18cfacdf1e2244ab3885da0224c3a355ed4e1c6d3c1ef4139017d55", func := "passbook/passbooklaw01.DecScales", spec := "decScales", inPlace := ["math/bits.Add64", "math/bits.Sub64"], apart := false, narrowed := true }
def DecScalesUptoSaid : Prop := decScalesUptoRow.holds Try.pinned (OpenSpec.upto decScalesSpec)

/-- 'passbooklaw01.DecSpread', WHERE WHAT IT READS IS OF BULK AT MOST 1048576: true; the input reads as it did. -/
def decSpreadUptoRow : OpenClaim := { program := "ytelnigjdfgdapaa", sum := "df67b534f18cfacdf1e2244ab3885da0224c3a355ed4e1c6d3c1ef4139017d55", func := "passbook/passbooklaw01.DecSpread", spec := "decSpread", inPlace := ["math/bits.Add64", "math/bits.Sub64"], apart := false, narrowed := true }
def DecSpreadUptoSaid : Prop := decSpreadUptoRow.holds Try.pinned (OpenSpec.upto decSpreadSpec)

/-- 'passbooklaw01.DecWholes', WHERE WHAT IT READS IS OF BULK AT MOST 1048576: true; the input reads as it did. -/
def decWholesUptoRow : OpenClaim := { program := "ytelnigjdfgdapaa", sum := "df67b534f18cfacdf1e2244ab3885da0224c3a355ed4e1c6d3c1ef4139017d55", func := "passbook/passbooklaw01.DecWholes", spec := "decWholes", inPlace := ["math/bits.Add64", "math/bits.Sub64"], apart := false, narrowed := true }
def DecWholesUptoSaid : Prop := decWholesUptoRow.holds Try.pinned (OpenSpec.upto decWholesSpec)

/-- 'passbooklaw01.DecOrder', WHERE WHAT IT READS IS OF BULK AT MOST 1048576: true; the input reads as it did. -/
def decOrderUptoRow : OpenClaim := { program := "ytelnigjdfgdapaa", sum := "df67b534f18cfacdf1e2244ab3885da0224c3a355ed4e1c6d3c1ef4139017d55", func := "passbook/passbooklaw01.DecOrder", spec := "decOrder", inPlace := ["math/bits.Add64", "math/bits.Sub64"], apart := false, narrowed := true }
def DecOrderUptoSaid : Prop := decOrderUptoRow.holds Try.pinned (OpenSpec.upto decOrderSpec)

/-- 'passbooklaw01.DecNegs', WHERE WHAT IT READS IS OF BULK AT MOST 1048576: true; the input reads as it did. -/
def decNegsUptoRow : OpenClaim := { program := "ytelnigjdfgdapaa", sum := "df67b534f18cfacdf1e2244ab3885da0224c3a355ed4e1c6d3c1ef4139017d55", func := "passbook/passbooklaw01.DecNegs", spec := "decNegs", inPlace := ["math/bits.Add64", "math/bits.Sub64"], apart := false, narrowed := true }
def DecNegsUptoSaid : Prop := decNegsUptoRow.holds Try.pinned (OpenSpec.upto decNegsSpec)

/-- 'passbooklaw01.DecLaws', WHERE WHAT IT READS IS OF BULK AT MOST 1048576: true; the input reads as it did. -/
def decLawsUptoRow : OpenClaim := { program := "ytelnigjdfgdapaa", sum := "df67b534f18cfacdf1e2244ab3885da0224c3a355ed4e1c6d3c1ef4139017d55", func := "passbook/passbooklaw01.DecLaws", spec := "decLaws", inPlace := ["math/bits.Add64", "math/bits.Sub64"], apart := false, narrowed := true }
def DecLawsUptoSaid : Prop := decLawsUptoRow.holds Try.pinned (OpenSpec.upto decLawsSpec)

/-- 'passbooklaw01.DecBetween', WHERE WHAT IT READS IS OF BULK AT MOST 1048576: true; the input reads as it did. -/
def decBetweenUptoRow : OpenClaim := { program := "ytelnigjdfgdapaa", sum := "df67b534f18cfacdf1e2244ab3885da0224c3a355ed4e1c6d3c1ef4139017d55", func := "passbook/passbooklaw01.DecBetween", spec := "decBetween", inPlace := ["math/bits.Add64", "math/bits.Sub64"], apart := false, narrowed := true }
def DecBetweenUptoSaid : Prop := decBetweenUptoRow.holds Try.pinned (OpenSpec.upto decBetweenSpec)

/-- 'passbooklaw01.DecSums', WHERE WHAT IT READS IS OF BULK AT MOST 1048576: true; the input reads as it did. -/
def decSumsUptoRow : OpenClaim := { program := "ytelnigjdfgdapaa", sum := "df67b534f18cfacdf1e2244ab3885da0224c3a355ed4e1c6d3c1ef4139017d55", func := "passbook/passbooklaw01.DecSums", spec := "decSums", inPlace := ["math/bits.Add64", "math/bits.Sub64"], apart := false, narrowed := true }
def DecSumsUptoSaid : Prop := decSumsUptoRow.holds Try.pinned (OpenSpec.upto decSumsSpec)

end Rows
end Go.Proofs.Ytelnigjdfgdapaa
