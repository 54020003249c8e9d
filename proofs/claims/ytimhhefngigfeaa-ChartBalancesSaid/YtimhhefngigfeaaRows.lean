/-
  No cell of these rows narrows 'for every input' (looked for: loops, veiled, ifaces, maps, wideKeys, modest, calm, conditions, laid).
  DERIVED. THE GIVEN ROWS OF THIS SEAT. 6 by the template 'for every input the law returns true; each argument reads behind the call as it read before'; 0 by the template 'total and deterministic' (their statements: YtimhhefngigfeaaTotals.lean).
  GIVEN WITH THE SEED: the statements are not yours to turn. If you find one false, say at which input.
  Laid BY PROGRAM, IN A SANDBOX (cutbox-rows.mjs): the forced cells as the released guide's own fill.sh prints them over the translation a85c117687015d53… (all of the seat's roots in one cut). By AI agents, Wed Nov 11 2026. No macro, syntax, notation, axiom, sorry.
-/
import Derived.Test.YtimhhefngigfeaaChecked
import GoSem.Claim
import GoSem.ClaimJoined
import GoSem.ClaimMapViews
import Derived.JoinedTies
import Derived.KernelRfl
namespace Go.Proofs.Ytimhhefngigfeaa
/- THE CELL 'sum', in the pinned program and in every row, IS THE sha256 OF THE DUMP (.gsa) THAT YtimhhefngigfeaaProg.lean LOADS. Nothing in Lean hashes anything: it is a label: what it is worth is what the hold of that sum in a sandbox is worth. -/
noncomputable def Try.pinned : Pinned := { name := "ytimhhefngigfeaa", sum := "a85c117687015d539c5960cdf6eaaa185cbc9528d7d841e8890f2f301d1a4ceb", checked := Try.checked }
namespace Rows
def none {H : Type} : Left H := { results := [], args := [] }

/-- 'passbooklaw13.ChartPosts': WHATEVER THE INPUT: true; the input reads as it did. -/
def chartPostsSpec : ChangeSpec := { name := "chartPosts", fn := fun _ => fun
  | [d] => { results := [.lit (.bool true)], args := [d] }
  | _ => none }
def chartPostsRow : OpenClaim := { program := "ytimhhefngigfeaa", sum := "a85c117687015d539c5960cdf6eaaa185cbc9528d7d841e8890f2f301d1a4ceb", func := "passbook/passbooklaw13.ChartPosts", spec := "chartPosts", inPlace := ["math/bits.Add64", "math/bits.Sub64", "maps.clone"], plainKeys := false, apart := false }
def ChartPostsSaid : Prop := chartPostsRow.holds Try.pinned (OpenSpec.ofChange chartPostsSpec)

/-- ITS FALSE NEIGHBOUR: 'it returns false'. Refute it at one input. -/
def chartPostsWrong : ChangeSpec := { name := "chartPosts", fn := fun _ => fun
  | [d] => { results := [.lit (.bool false)], args := [d] }
  | _ => none }
def ChartPostsWrongFalsely : Prop := chartPostsRow.holds Try.pinned (OpenSpec.ofChange chartPostsWrong)

/-- 'passbooklaw13.ChartNil': WHATEVER THE INPUT: true; the input reads as it did. -/
def chartNilSpec : ChangeSpec := { name := "chartNil", fn := fun _ => fun
  | [d] => { results := [.lit (.bool true)], args := [d] }
  | _ => none }
def chartNilRow : OpenClaim := { program := "ytimhhefngigfeaa", sum := "a85c117687015d539c5960cdf6eaaa185cbc9528d7d841e8890f2f301d1a4ceb", func := "passbook/passbooklaw13.ChartNil", spec := "chartNil", inPlace := ["math/bits.Add64", "math/bits.Sub64", "maps.clone"], plainKeys := false, apart := false }
def ChartNilSaid : Prop := chartNilRow.holds Try.pinned (OpenSpec.ofChange chartNilSpec)

/-- ITS FALSE NEIGHBOUR: 'it returns false'. Refute it at one input. -/
def chartNilWrong : ChangeSpec := { name := "chartNil", fn := fun _ => fun
  | [d] => { results := [.lit (.bool false)], args := [d] }
  | _ => none }
def ChartNilWrongFalsely : Prop := chartNilRow.holds Try.pinned (OpenSpec.ofChange chartNilWrong)

/-- 'passbooklaw13.ChartOrder': WHATEVER THE INPUT: true; the input reads as it did. -/
def chartOrderSpec : ChangeSpec := { name := "chartOrder", fn := fun _ => fun
  | [d1, d2, d3, d4] => { results := [.lit (.bool true)], args := [d1, d2, d3, d4] }
  | _ => none }
def chartOrderRow : OpenClaim := { program := "ytimhhefngigfeaa", sum := "a85c117687015d539c5960cdf6eaaa185cbc9528d7d841e8890f2f301d1a4ceb", func := "passbook/passbooklaw13.ChartOrder", spec := "chartOrder", inPlace := ["math/bits.Add64", "math/bits.Sub64", "maps.clone"], plainKeys := false, apart := false }
def ChartOrderSaid : Prop := chartOrderRow.holds Try.pinned (OpenSpec.ofChange chartOrderSpec)

/-- ITS FALSE NEIGHBOUR: 'it returns false'. Refute it at one input. -/
def chartOrderWrong : ChangeSpec := { name := "chartOrder", fn := fun _ => fun
  | [d1, d2, d3, d4] => { results := [.lit (.bool false)], args := [d1, d2, d3, d4] }
  | _ => none }
def ChartOrderWrongFalsely : Prop := chartOrderRow.holds Try.pinned (OpenSpec.ofChange chartOrderWrong)

/-- 'passbooklaw13.ChartParts': WHATEVER THE INPUT: true; the input reads as it did. -/
def chartPartsSpec : ChangeSpec := { name := "chartParts", fn := fun _ => fun
  | [d1, d2] => { results := [.lit (.bool true)], args := [d1, d2] }
  | _ => none }
def chartPartsRow : OpenClaim := { program := "ytimhhefngigfeaa", sum := "a85c117687015d539c5960cdf6eaaa185cbc9528d7d841e8890f2f301d1a4ceb", func := "passbook/passbooklaw13.ChartParts", spec := "chartParts", inPlace := ["math/bits.Add64", "math/bits.Sub64", "maps.clone"], plainKeys := false, apart := false }
def ChartPartsSaid : Prop := chartPartsRow.holds Try.pinned (OpenSpec.ofChange chartPartsSpec)

/-- ITS FALSE NEIGHBOUR: 'it returns false'. Refute it at one input. -/
def chartPartsWrong : ChangeSpec := { name := "chartParts", fn := fun _ => fun
  | [d1, d2] => { results := [.lit (.bool false)], args := [d1, d2] }
  | _ => none }
def ChartPartsWrongFalsely : Prop := chartPartsRow.holds Try.pinned (OpenSpec.ofChange chartPartsWrong)

/-- 'passbooklaw13.ChartBalances': WHATEVER THE INPUT: true; the input reads as it did. -/
def chartBalancesSpec : ChangeSpec := { name := "chartBalances", fn := fun _ => fun
  | [d1, d2, d3] => { results := [.lit (.bool true)], args := [d1, d2, d3] }
  | _ => none }
def chartBalancesRow : OpenClaim := { program := "ytimhhefngigfeaa", sum := "a85c117687015d539c5960cdf6eaaa185cbc9528d7d841e8890f2f301d1a4ceb", func := "passbook/passbooklaw13.ChartBalances", spec := "chartBalances", inPlace := ["math/bits.Add64", "math/bits.Sub64", "maps.clone"], plainKeys := false, apart := false }
def ChartBalancesSaid : Prop := chartBalancesRow.holds Try.pinned (OpenSpec.ofChange chartBalancesSpec)

/-- ITS FALSE NEIGHBOUR: 'it returns false'. Refute it at one input. -/
def chartBalancesWrong : ChangeSpec := { name := "chartBalances", fn := fun _ => fun
  | [d1, d2, d3] => { results := [.lit (.bool false)], args := [d1, d2, d3] }
  | _ => none }
def ChartBalancesWrongFalsely : Prop := chartBalancesRow.holds Try.pinned (OpenSpec.ofChange chartBalancesWrong)

/-- 'passbooklaw13.ChartNothingLost': WHATEVER THE INPUT: true; the input reads as it did. -/
def chartNothingLostSpec : ChangeSpec := { name := "chartNothingLost", fn := fun _ => fun
  | [d] => { results := [.lit (.bool true)], args := [d] }
  | _ => none }
def chartNothingLostRow : OpenClaim := { program := "ytimhhefngigfeaa", sum := "a85c117687015d539c5960cdf6eaaa185cbc9528d7d841e8890f2f301d1a4ceb", func := "passbook/passbooklaw13.ChartNothingLost", spec := "chartNothingLost", inPlace := ["math/bits.Add64", "math/bits.Sub64", "maps.clone"], plainKeys := false, apart := false }
def ChartNothingLostSaid : Prop := chartNothingLostRow.holds Try.pinned (OpenSpec.ofChange chartNothingLostSpec)

/-- ITS FALSE NEIGHBOUR: 'it returns false'. Refute it at one input. -/
def chartNothingLostWrong : ChangeSpec := { name := "chartNothingLost", fn := fun _ => fun
  | [d] => { results := [.lit (.bool false)], args := [d] }
  | _ => none }
def ChartNothingLostWrongFalsely : Prop := chartNothingLostRow.holds Try.pinned (OpenSpec.ofChange chartNothingLostWrong)

/- THE SECOND FORM. 'bulk': how many values and letters a reading holds, each counted each time it is reached (what is shared counts as often as it is met; a slice's spare places count too). A statement '..UptoSaid' is the law's where the arguments, and the package variables that the reading takes, are together of bulk at most 1048576: NARROWER than '..Said'. Prove '..Said' where nothing that the law and all that it calls make is longer than what came in: it says more and counts as full. Else prove '..UptoSaid'. A law counts once. -/
mutual
def uptoBulk {H : Type} : DataW H → Nat
  | .lit (.string bytes) => bytes.length + 1
  | .lit _ => 1
  | .nil => 1
  | .ptr d => uptoBulk d + 1
  | .slice elems spare => uptoBulkAll elems + uptoBulkAll spare + 1
  | .agg parts => uptoBulkAll parts + 1
  | .iface _ d => uptoBulk d + 1
  | .map entries => uptoBulkEntries entries + 1
  | .held _ => 1
def uptoBulkAll {H : Type} : List (DataW H) → Nat
  | [] => 0
  | d :: r => uptoBulk d + uptoBulkAll r
def uptoBulkEntries {H : Type} : List (Lit × DataW H) → Nat
  | [] => 0
  | x :: r => uptoBulkEntry x + uptoBulkEntries r
def uptoBulkEntry {H : Type} : Lit × DataW H → Nat
  | (.string bytes, d) => bytes.length + uptoBulk d + 1
  | (_, d) => uptoBulk d + 1
 end
def uptoSmall : (H : Type) → List (DataW H) → Bool := fun _ ds => decide (uptoBulkAll ds ≤ 1048576)
def OpenSpec.upto (s : _root_.Go.ChangeSpec) : _root_.Go.OpenSpec := { _root_.Go.OpenSpec.ofChange s with cond := some uptoSmall }

/-- 'passbooklaw13.ChartPosts', WHERE WHAT IT READS IS OF BULK AT MOST 1048576: true; the input reads as it did. -/
def chartPostsUptoRow : OpenClaim := { program := "ytimhhefngigfeaa", sum := "a85c117687015d539c5960cdf6eaaa185cbc9528d7d841e8890f2f301d1a4ceb", func := "passbook/passbooklaw13.ChartPosts", spec := "chartPosts", inPlace := ["math/bits.Add64", "math/bits.Sub64", "maps.clone"], plainKeys := false, apart := false, narrowed := true }
def ChartPostsUptoSaid : Prop := chartPostsUptoRow.holds Try.pinned (OpenSpec.upto chartPostsSpec)

/-- 'passbooklaw13.ChartNil', WHERE WHAT IT READS IS OF BULK AT MOST 1048576: true; the input reads as it did. -/
def chartNilUptoRow : OpenClaim := { program := "ytimhhefngigfeaa", sum := "a85c117687015d539c5960cdf6eaaa185cbc9528d7d841e8890f2f301d1a4ceb", func := "passbook/passbooklaw13.ChartNil", spec := "chartNil", inPlace := ["math/bits.Add64", "math/bits.Sub64", "maps.clone"], plainKeys := false, apart := false, narrowed := true }
def ChartNilUptoSaid : Prop := chartNilUptoRow.holds Try.pinned (OpenSpec.upto chartNilSpec)

/-- 'passbooklaw13.ChartOrder', WHERE WHAT IT READS IS OF BULK AT MOST 1048576: true; the input reads as it did. -/
def chartOrderUptoRow : OpenClaim := { program := "ytimhhefngigfeaa", sum := "a85c117687015d539c5960cdf6eaaa185cbc9528d7d841e8890f2f301d1a4ceb", func := "passbook/passbooklaw13.ChartOrder", spec := "chartOrder", inPlace := ["math/bits.Add64", "math/bits.Sub64", "maps.clone"], plainKeys := false, apart := false, narrowed := true }
def ChartOrderUptoSaid : Prop := chartOrderUptoRow.holds Try.pinned (OpenSpec.upto chartOrderSpec)

/-- 'passbooklaw13.ChartParts', WHERE WHAT IT READS IS OF BULK AT MOST 1048576: true; the input reads as it did. -/
def chartPartsUptoRow : OpenClaim := { program := "ytimhhefngigfeaa", sum := "a85c117687015d539c5960cdf6eaaa185cbc9528d7d841e8890f2f301d1a4ceb", func := "passbook/passbooklaw13.ChartParts", spec := "chartParts", inPlace := ["math/bits.Add64", "math/bits.Sub64", "maps.clone"], plainKeys := false, apart := false, narrowed := true }
def ChartPartsUptoSaid : Prop := chartPartsUptoRow.holds Try.pinned (OpenSpec.upto chartPartsSpec)

/-- 'passbooklaw13.ChartBalances', WHERE WHAT IT READS IS OF BULK AT MOST 1048576: true; the input reads as it did. -/
def chartBalancesUptoRow : OpenClaim := { program := "ytimhhefngigfeaa", sum := "a85c117687015d539c5960cdf6eaaa185cbc9528d7d841e8890f2f301d1a4ceb", func := "passbook/passbooklaw13.ChartBalances", spec := "chartBalances", inPlace := ["math/bits.Add64", "math/bits.Sub64", "maps.clone"], plainKeys := false, apart := false, narrowed := true }
def ChartBalancesUptoSaid : Prop := chartBalancesUptoRow.holds Try.pinned (OpenSpec.upto chartBalancesSpec)

/-- 'passbooklaw13.ChartNothingLost', WHERE WHAT IT READS IS OF BULK AT MOST 1048576: true; the input reads as it did. -/
def chartNothingLostUptoRow : OpenClaim := { program := "ytimhhefngigfeaa", sum := "a85c117687015d539c5960cdf6eaaa185cbc9528d7d841e8890f2f301d1a4ceb", func := "passbook/passbooklaw13.ChartNothingLost", spec := "chartNothingLost", inPlace := ["math/bits.Add64", "math/bits.Sub64", "maps.clone"], plainKeys := false, apart := false, narrowed := true }
def ChartNothingLostUptoSaid : Prop := chartNothingLostUptoRow.holds Try.pinned (OpenSpec.upto chartNothingLostSpec)

end Rows
end Go.Proofs.Ytimhhefngigfeaa
