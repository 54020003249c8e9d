/-
  No cell of these rows narrows 'for every input' (looked for: loops, veiled, ifaces, maps, wideKeys, modest, calm, conditions, laid).
  DERIVED. THE GIVEN ROWS OF THIS SEAT. 5 by the template 'for every input the law returns true; each argument reads behind the call as it read before'; 0 by the template 'total and deterministic' (their statements: YtmmaechogibodaaTotals.lean).
  GIVEN WITH THE SEED: the statements are not yours to turn. If you find one false, say at which input.
  Laid BY PROGRAM, IN A SANDBOX (cutbox-rows.mjs): the forced cells as the released guide's own fill.sh prints them over the translation aae9879e7f0a9aba… (all of the seat's roots in one cut). By AI agents, Wed Nov 11 2026. No macro, syntax, notation, axiom, sorry.
-/
import Derived.Test.YtmmaechogibodaaChecked
import GoSem.Claim
import GoSem.ClaimJoined
import GoSem.ClaimMapViews
import Derived.JoinedTies
import Derived.KernelRfl
namespace Go.Proofs.Ytmmaechogibodaa
/- THE CELL 'sum', in the pinned program and in every row, IS THE sha256 OF THE DUMP (.gsa) THAT YtmmaechogibodaaProg.lean LOADS. Nothing in Lean hashes anything: it is a label: what it is worth is what the hold of that sum in a sandbox is worth. -/
noncomputable def Try.pinned : Pinned := { name := "ytmmaechogibodaa", sum := "aae9879e7f0a9aba15e0c907b9daedb05a853cd96202a33fc9adb99b24b963ac", checked := Try.checked }
namespace Rows
def none {H : Type} : Left H := { results := [], args := [] }

/-- 'passbooklaw12.ProdChecks': WHATEVER THE INPUT: true; the input reads as it did. -/
def prodChecksSpec : ChangeSpec := { name := "prodChecks", fn := fun _ => fun
  | [d] => { results := [.lit (.bool true)], args := [d] }
  | _ => none }
def prodChecksRow : OpenClaim := { program := "ytmmaechogibodaa", sum := "aae9879e7f0a9aba15e0c907b9daedb05a853cd96202a33fc9adb99b24b963ac", func := "passbook/passbooklaw12.ProdChecks", spec := "prodChecks", unfollowed := true, recurses := true, plainKeys := false, apart := false }
def ProdChecksSaid : Prop := prodChecksRow.holds Try.pinned (OpenSpec.ofChange prodChecksSpec)

/-- ITS FALSE NEIGHBOUR: 'it returns false'. Refute it at one input. -/
def prodChecksWrong : ChangeSpec := { name := "prodChecks", fn := fun _ => fun
  | [d] => { results := [.lit (.bool false)], args := [d] }
  | _ => none }
def ProdChecksWrongFalsely : Prop := prodChecksRow.holds Try.pinned (OpenSpec.ofChange prodChecksWrong)

/-- 'passbooklaw12.ProdHolds': WHATEVER THE INPUT: true; the input reads as it did. -/
def prodHoldsSpec : ChangeSpec := { name := "prodHolds", fn := fun _ => fun
  | [d1, d2] => { results := [.lit (.bool true)], args := [d1, d2] }
  | _ => none }
def prodHoldsRow : OpenClaim := { program := "ytmmaechogibodaa", sum := "aae9879e7f0a9aba15e0c907b9daedb05a853cd96202a33fc9adb99b24b963ac", func := "passbook/passbooklaw12.ProdHolds", spec := "prodHolds", unfollowed := true, recurses := true, plainKeys := false, apart := false }
def ProdHoldsSaid : Prop := prodHoldsRow.holds Try.pinned (OpenSpec.ofChange prodHoldsSpec)

/-- ITS FALSE NEIGHBOUR: 'it returns false'. Refute it at one input. -/
def prodHoldsWrong : ChangeSpec := { name := "prodHolds", fn := fun _ => fun
  | [d1, d2] => { results := [.lit (.bool false)], args := [d1, d2] }
  | _ => none }
def ProdHoldsWrongFalsely : Prop := prodHoldsRow.holds Try.pinned (OpenSpec.ofChange prodHoldsWrong)

/-- 'passbooklaw12.ProdApart': WHATEVER THE INPUT: true; the input reads as it did. -/
def prodApartSpec : ChangeSpec := { name := "prodApart", fn := fun _ => fun
  | [d1, d2] => { results := [.lit (.bool true)], args := [d1, d2] }
  | _ => none }
def prodApartRow : OpenClaim := { program := "ytmmaechogibodaa", sum := "aae9879e7f0a9aba15e0c907b9daedb05a853cd96202a33fc9adb99b24b963ac", func := "passbook/passbooklaw12.ProdApart", spec := "prodApart", unfollowed := true, recurses := true, plainKeys := false, apart := false }
def ProdApartSaid : Prop := prodApartRow.holds Try.pinned (OpenSpec.ofChange prodApartSpec)

/-- ITS FALSE NEIGHBOUR: 'it returns false'. Refute it at one input. -/
def prodApartWrong : ChangeSpec := { name := "prodApart", fn := fun _ => fun
  | [d1, d2] => { results := [.lit (.bool false)], args := [d1, d2] }
  | _ => none }
def ProdApartWrongFalsely : Prop := prodApartRow.holds Try.pinned (OpenSpec.ofChange prodApartWrong)

/-- 'passbooklaw12.ProdPlays': WHATEVER THE INPUT: true; the input reads as it did. -/
def prodPlaysSpec : ChangeSpec := { name := "prodPlays", fn := fun _ => fun
  | [d1, d2] => { results := [.lit (.bool true)], args := [d1, d2] }
  | _ => none }
def prodPlaysRow : OpenClaim := { program := "ytmmaechogibodaa", sum := "aae9879e7f0a9aba15e0c907b9daedb05a853cd96202a33fc9adb99b24b963ac", func := "passbook/passbooklaw12.ProdPlays", spec := "prodPlays", unfollowed := true, recurses := true, plainKeys := false, apart := false }
def ProdPlaysSaid : Prop := prodPlaysRow.holds Try.pinned (OpenSpec.ofChange prodPlaysSpec)

/-- ITS FALSE NEIGHBOUR: 'it returns false'. Refute it at one input. -/
def prodPlaysWrong : ChangeSpec := { name := "prodPlays", fn := fun _ => fun
  | [d1, d2] => { results := [.lit (.bool false)], args := [d1, d2] }
  | _ => none }
def ProdPlaysWrongFalsely : Prop := prodPlaysRow.holds Try.pinned (OpenSpec.ofChange prodPlaysWrong)

/-- 'passbooklaw12.ProdNil': WHATEVER THE INPUT: true; the input reads as it did. -/
def prodNilSpec : ChangeSpec := { name := "prodNil", fn := fun _ => fun
  | [d1, d2, d3] => { results := [.lit (.bool true)], args := [d1, d2, d3] }
  | _ => none }
def prodNilRow : OpenClaim := { program := "ytmmaechogibodaa", sum := "aae9879e7f0a9aba15e0c907b9daedb05a853cd96202a33fc9adb99b24b963ac", func := "passbook/passbooklaw12.ProdNil", spec := "prodNil", unfollowed := true, recurses := true, plainKeys := false, apart := false }
def ProdNilSaid : Prop := prodNilRow.holds Try.pinned (OpenSpec.ofChange prodNilSpec)

/-- ITS FALSE NEIGHBOUR: 'it returns false'. Refute it at one input. -/
def prodNilWrong : ChangeSpec := { name := "prodNil", fn := fun _ => fun
  | [d1, d2, d3] => { results := [.lit (.bool false)], args := [d1, d2, d3] }
  | _ => none }
def ProdNilWrongFalsely : Prop := prodNilRow.holds Try.pinned (OpenSpec.ofChange prodNilWrong)

/- THE SECOND FORM. 'bulk': how many values and letters a reading holds, each counted each time it is reached (what is shared counts as often as it is met; a slice's spare places count too). A statement '..UptoSaid' is the law's where the arguments, and the package variables that the reading takes, are together of bulk at most 1048576: NARROWER than '..Said'. Prove '..Said' where nothing that the law and all that it calls make is longer than what came in: it says more and counts as full. Else prove '..UptoSaid'. A law counts once. -/
mutual
def uptoBulk {H : Type} : DataW H → Nat
  | .lit (.string bytes) => bytes.length + 1
  | .lit _ => 1
  | .nil => 1
  | .ptr d => uptoBulk d + 1
  | .slice elems spare => uptoBulkAll elems + uptoBulkAll spare + 1
  | .agg parts => uptoBulkAll parts + 1
  | .iface _ d => uptoBulk d + 1
  | .map entries => uptoBulkEntries entries + 1
  | .held _ => 1
def uptoBulkAll {H : Type} : List (DataW H) → Nat
  | [] => 0
  | d :: r => uptoBulk d + uptoBulkAll r
def uptoBulkEntries {H : Type} : List (Lit × DataW H) → Nat
  | [] => 0
  | x :: r => uptoBulkEntry x + uptoBulkEntries r
def uptoBulkEntry {H : Type} : Lit × DataW H → Nat
  | (.string bytes, d) => bytes.length + uptoBulk d + 1
  | (_, d) => uptoBulk d + 1
 end
def uptoSmall : (H : Type) → List (DataW H) → Bool := fun _ ds => decide (uptoBulkAll ds ≤ 1048576)
def OpenSpec.upto (s : _root_.Go.ChangeSpec) : _root_.Go.OpenSpec := { _root_.Go.OpenSpec.ofChange s with cond := some uptoSmall }

/-- 'passbooklaw12.ProdChecks', WHERE WHAT IT READS IS OF BULK AT MOST 1048576: true; the input reads as it did. -/
def prodChecksUptoRow : OpenClaim := { program := "ytmmaechogibodaa", sum := "aae9879e7f0a9aba15e0c907b9daedb05a853cd96202a33fc9adb99b24b963ac", func := "passbook/passbooklaw12.ProdChecks", spec := "prodChecks", unfollowed := true, recurses := true, plainKeys := false, apart := false, narrowed := true }
def ProdChecksUptoSaid : Prop := prodChecksUptoRow.holds Try.pinned (OpenSpec.upto prodChecksSpec)

/-- 'passbooklaw12.ProdHolds', WHERE WHAT IT READS IS OF BULK AT MOST 1048576: true; the input reads as it did. -/
def prodHoldsUptoRow : OpenClaim := { program := "ytmmaechogibodaa", sum := "aae9879e7f0a9aba15e0c907b9daedb05a853cd96202a33fc9adb99b24b963ac", func := "passbook/passbooklaw12.ProdHolds", spec := "prodHolds", unfollowed := true, recurses := true, plainKeys := false, apart := false, narrowed := true }
def ProdHoldsUptoSaid : Prop := prodHoldsUptoRow.holds Try.pinned (OpenSpec.upto prodHoldsSpec)

/-- 'passbooklaw12.ProdApart', WHERE WHAT IT READS IS OF BULK AT MOST 1048576: true; the input reads as it did. -/
def prodApartUptoRow : OpenClaim := { program := "ytmmaechogibodaa", sum := "aae9879e7f0a9aba15e0c907b9daedb05a853cd96202a33fc9adb99b24b963ac", func := "passbook/passbooklaw12.ProdApart", spec := "prodApart", unfollowed := true, recurses := true, plainKeys := false, apart := false, narrowed := true }
def ProdApartUptoSaid : Prop := prodApartUptoRow.holds Try.pinned (OpenSpec.upto prodApartSpec)

/-- 'passbooklaw12.ProdPlays', WHERE WHAT IT READS IS OF BULK AT MOST 1048576: true; the input reads as it did. -/
def prodPlaysUptoRow : OpenClaim := { program := "ytmmaechogibodaa", sum := "aae9879e7f0a9aba15e0c907b9daedb05a853cd96202a33fc9adb99b24b963ac", func := "passbook/passbooklaw12.ProdPlays", spec := "prodPlays", unfollowed := true, recurses := true, plainKeys := false, apart := false, narrowed := true }
def ProdPlaysUptoSaid : Prop := prodPlaysUptoRow.holds Try.pinned (OpenSpec.upto prodPlaysSpec)

/-- 'passbooklaw12.ProdNil', WHERE WHAT IT READS IS OF BULK AT MOST 1048576: true; the input reads as it did. -/
def prodNilUptoRow : OpenClaim := { program := "ytmmaechogibodaa", sum := "aae9879e7f0a9aba15e0c907b9daedb05a853cd96202a33fc9adb99b24b963ac", func := "passbook/passbooklaw12.ProdNil", spec := "prodNil", unfollowed := true, recurses := true, plainKeys := false, apart := false, narrowed := true }
def ProdNilUptoSaid : Prop := prodNilUptoRow.holds Try.pinned (OpenSpec.upto prodNilSpec)

end Rows
end Go.Proofs.Ytmmaechogibodaa
