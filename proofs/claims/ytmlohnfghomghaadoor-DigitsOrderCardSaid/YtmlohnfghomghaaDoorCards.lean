/-
  DERIVED. GIVEN WITH THE SEED: THE CARDS: each row of YtmlohnfghomghaaDoorRows.lean that lists a variable, with what it lists TIED to the program's text (the seventh form; the later family's looks); each row that meets fmt, with fmt's text TOLD by the authors' own Lean function (tested against real Go, not proved from fmt's source: count such statements apart). THE CARD IS WHAT COUNTS. Prove the row's statement (the work); the ties are given (YtmlohnfghomghaaDoorTie.lean); close each card by the builder's one call (the guide's Derived/Test/ToyasCard.lean, 'card_holds'). Laid BY PROGRAM, IN A SANDBOX (cutbox-door.mjs). By AI agents, Wed Nov 11 2026. No macro, syntax, notation, axiom, sorry.
-/
import Derived.Test.YtmlohnfghomghaaDoorRows
import GoSem.ClaimSeven
namespace Go.Proofs.YtmlohnfghomghaaDoor
namespace Rows

/-- THE TIED CARD OF 'passbooklaw02.DigitsWrites'. -/
def digitsWritesCard : Claim7 := { stood := { row := digitsWritesRow, standIns := [], harness := (true, "7c1e845d9b7700955d55e31760d659571909d253557928f1420a758c78c17b0a"), looks := true }, kinds := [], alts := [], laidByText := true, laidKinds := [.data, .pinned], laidTests := true, laidLooks := .later }
def DigitsWritesCardSaid : Prop := Claim7.holds Tryd.pinned (.plain (OpenSpec.ofChange digitsWritesSpec)) digitsWritesCard

/-- THE TIED CARD OF 'passbooklaw02.DigitsFronts'. -/
def digitsFrontsCard : Claim7 := { stood := { row := digitsFrontsRow, standIns := [], harness := (true, "7c1e845d9b7700955d55e31760d659571909d253557928f1420a758c78c17b0a"), looks := true }, kinds := [], alts := [], laidByText := true, laidKinds := [.data, .pinned], laidTests := true, laidLooks := .later }
def DigitsFrontsCardSaid : Prop := Claim7.holds Tryd.pinned (.plain (OpenSpec.ofChange digitsFrontsSpec)) digitsFrontsCard

/-- THE TIED CARD OF 'passbooklaw02.DigitsLead'. -/
def digitsLeadCard : Claim7 := { stood := { row := digitsLeadRow, standIns := [], harness := (true, "7c1e845d9b7700955d55e31760d659571909d253557928f1420a758c78c17b0a"), looks := true }, kinds := [], alts := [], laidByText := true, laidKinds := [.data, .pinned], laidTests := true, laidLooks := .later }
def DigitsLeadCardSaid : Prop := Claim7.holds Tryd.pinned (.plain (OpenSpec.ofChange digitsLeadSpec)) digitsLeadCard

/-- THE TIED CARD OF 'passbooklaw02.DigitsOrder'. -/
def digitsOrderCard : Claim7 := { stood := { row := digitsOrderRow, standIns := [], harness := (true, "7c1e845d9b7700955d55e31760d659571909d253557928f1420a758c78c17b0a"), looks := true }, kinds := [], alts := [], laidByText := true, laidKinds := [.data, .pinned], laidTests := true, laidLooks := .later }
def DigitsOrderCardSaid : Prop := Claim7.holds Tryd.pinned (.plain (OpenSpec.ofChange digitsOrderSpec)) digitsOrderCard

/-- THE SECOND FORM's CARD OF 'passbooklaw02.DigitsWrites'. -/
def digitsWritesUptoCard : Claim7 := { stood := { row := digitsWritesUptoRow, standIns := [], harness := (true, "7c1e845d9b7700955d55e31760d659571909d253557928f1420a758c78c17b0a"), looks := true }, kinds := [], alts := [], laidByText := true, laidKinds := [.data, .pinned], laidTests := true, laidLooks := .later }
def DigitsWritesUptoCardSaid : Prop := Claim7.holds Tryd.pinned (.plain (OpenSpec.upto digitsWritesSpec)) digitsWritesUptoCard

/-- THE SECOND FORM's CARD OF 'passbooklaw02.DigitsFronts'. -/
def digitsFrontsUptoCard : Claim7 := { stood := { row := digitsFrontsUptoRow, standIns := [], harness := (true, "7c1e845d9b7700955d55e31760d659571909d253557928f1420a758c78c17b0a"), looks := true }, kinds := [], alts := [], laidByText := true, laidKinds := [.data, .pinned], laidTests := true, laidLooks := .later }
def DigitsFrontsUptoCardSaid : Prop := Claim7.holds Tryd.pinned (.plain (OpenSpec.upto digitsFrontsSpec)) digitsFrontsUptoCard

/-- THE SECOND FORM's CARD OF 'passbooklaw02.DigitsLead'. -/
def digitsLeadUptoCard : Claim7 := { stood := { row := digitsLeadUptoRow, standIns := [], harness := (true, "7c1e845d9b7700955d55e31760d659571909d253557928f1420a758c78c17b0a"), looks := true }, kinds := [], alts := [], laidByText := true, laidKinds := [.data, .pinned], laidTests := true, laidLooks := .later }
def DigitsLeadUptoCardSaid : Prop := Claim7.holds Tryd.pinned (.plain (OpenSpec.upto digitsLeadSpec)) digitsLeadUptoCard

/-- THE SECOND FORM's CARD OF 'passbooklaw02.DigitsOrder'. -/
def digitsOrderUptoCard : Claim7 := { stood := { row := digitsOrderUptoRow, standIns := [], harness := (true, "7c1e845d9b7700955d55e31760d659571909d253557928f1420a758c78c17b0a"), looks := true }, kinds := [], alts := [], laidByText := true, laidKinds := [.data, .pinned], laidTests := true, laidLooks := .later }
def DigitsOrderUptoCardSaid : Prop := Claim7.holds Tryd.pinned (.plain (OpenSpec.upto digitsOrderSpec)) digitsOrderUptoCard
end Rows
end Go.Proofs.YtmlohnfghomghaaDoor
