/-
  DERIVED. GIVEN WITH THE SEED: THE CARDS: each row of YtfeifhlnidkbbaaGreatDoorRows.lean that lists a variable, with what it lists TIED to the program's text (the seventh form; the later family's looks); each row that meets fmt, with fmt's text TOLD by the authors' own Lean function (tested against real Go, not proved from fmt's source: count such statements apart). THE CARD IS WHAT COUNTS. Prove the row's statement (the work); the ties are given (YtfeifhlnidkbbaaGreatDoorTie.lean); close each card by the builder's one call (the guide's Derived/Test/ToyasCard.lean, 'card_holds'). Laid BY PROGRAM, IN A SANDBOX (cutbox-door.mjs). By AI agents, Wed Nov 11 2026. No macro, syntax, notation, axiom, sorry.
-/
import Derived.Test.YtfeifhlnidkbbaaGreatDoorRows
import GoSem.ClaimSeven
namespace Go.Proofs.YtfeifhlnidkbbaaGreatDoor
namespace Rows

/-- THE TIED CARD OF 'passbooklaw05.MoneyTexts'. -/
def moneyTextsCard : Claim7 := { stood := { row := moneyTextsRow, standIns := [], harness := (true, "8021644d0d621c446d00d32a07c95bf592f7773d2d51f40b23adaa17189e2de3"), looks := true }, kinds := [], alts := [], laidByText := true, laidKinds := [.data, .pinned], laidTests := true, laidLooks := .later }
def MoneyTextsCardSaid : Prop := Claim7.holds Tryz.pinned (.plain (OpenSpec.ofChange moneyTextsSpec)) moneyTextsCard

/-- THE SECOND FORM's CARD OF 'passbooklaw05.MoneyTexts'. -/
def moneyTextsUptoCard : Claim7 := { stood := { row := moneyTextsUptoRow, standIns := [], harness := (true, "8021644d0d621c446d00d32a07c95bf592f7773d2d51f40b23adaa17189e2de3"), looks := true }, kinds := [], alts := [], laidByText := true, laidKinds := [.data, .pinned], laidTests := true, laidLooks := .later }
def MoneyTextsUptoCardSaid : Prop := Claim7.holds Tryz.pinned (.plain (OpenSpec.upto moneyTextsSpec)) moneyTextsUptoCard
end Rows
end Go.Proofs.YtfeifhlnidkbbaaGreatDoor
