/-
  DERIVED. GIVEN WITH THE SEED: THE CARDS: each row of YtjffpcjbbehooaaDoorRows.lean that lists a variable, with what it lists TIED to the program's text (the seventh form; the later family's looks); each row that meets fmt, with fmt's text TOLD by the authors' own Lean function (tested against real Go, not proved from fmt's source: count such statements apart). THE CARD IS WHAT COUNTS. Prove the row's statement (the work); the ties are given (YtjffpcjbbehooaaDoorTie.lean); close each card by the builder's one call (the guide's Derived/Test/ToyasCard.lean, 'card_holds'). Laid BY PROGRAM, IN A SANDBOX (cutbox-door.mjs). By AI agents, Wed Nov 11 2026. No macro, syntax, notation, axiom, sorry.
-/
import Derived.Test.YtjffpcjbbehooaaDoorRows
import GoSem.ClaimSeven
namespace Go.Proofs.YtjffpcjbbehooaaDoor
namespace Rows

/-- THE TIED CARD OF 'parlancelaw07.TextApplies'. -/
def textAppliesCard : Claim7 := { stood := { row := textAppliesRow, standIns := [], harness := (true, "ae9fd2251c08b55ba0614502df66d1654b0417b64103f99af6d07aca896f52e3"), looks := false }, kinds := [], alts := [], laidByText := true, laidKinds := [.data, .pinned], laidTests := true, laidLooks := .later }
def TextAppliesCardSaid : Prop := Claim7.holds Tryd.pinned (.plain (OpenSpec.ofChange textAppliesSpec)) textAppliesCard

/-- THE TIED CARD OF 'parlancelaw07.TextRows'. -/
def textRowsCard : Claim7 := { stood := { row := textRowsRow, standIns := [], harness := (true, "ae9fd2251c08b55ba0614502df66d1654b0417b64103f99af6d07aca896f52e3"), looks := false }, kinds := [], alts := [], laidByText := true, laidKinds := [.data, .pinned], laidTests := true, laidLooks := .later }
def TextRowsCardSaid : Prop := Claim7.holds Tryd.pinned (.plain (OpenSpec.ofChange textRowsSpec)) textRowsCard

/-- THE TIED CARD OF 'parlancelaw07.TextLines'. -/
def textLinesCard : Claim7 := { stood := { row := textLinesRow, standIns := [], harness := (true, "ae9fd2251c08b55ba0614502df66d1654b0417b64103f99af6d07aca896f52e3"), looks := false }, kinds := [], alts := [], laidByText := true, laidKinds := [.data, .pinned], laidTests := true, laidLooks := .later }
def TextLinesCardSaid : Prop := Claim7.holds Tryd.pinned (.plain (OpenSpec.ofChange textLinesSpec)) textLinesCard

/-- THE TIED CARD OF 'parlancelaw07.TextThere'. -/
def textThereCard : Claim7 := { stood := { row := textThereRow, standIns := [], harness := (true, "ae9fd2251c08b55ba0614502df66d1654b0417b64103f99af6d07aca896f52e3"), looks := false }, kinds := [], alts := [], laidByText := true, laidKinds := [.data, .pinned], laidTests := true, laidLooks := .later }
def TextThereCardSaid : Prop := Claim7.holds Tryd.pinned (.plain (OpenSpec.ofChange textThereSpec)) textThereCard

/-- THE TIED CARD OF 'parlancelaw07.TextPlaces'. -/
def textPlacesCard : Claim7 := { stood := { row := textPlacesRow, standIns := [], harness := (true, "ae9fd2251c08b55ba0614502df66d1654b0417b64103f99af6d07aca896f52e3"), looks := false }, kinds := [], alts := [], laidByText := true, laidKinds := [.data, .pinned], laidTests := true, laidLooks := .later }
def TextPlacesCardSaid : Prop := Claim7.holds Tryd.pinned (.plain (OpenSpec.ofChange textPlacesSpec)) textPlacesCard

/-- THE TIED CARD OF 'parlancelaw07.TextBetweens'. -/
def textBetweensCard : Claim7 := { stood := { row := textBetweensRow, standIns := [], harness := (true, "ae9fd2251c08b55ba0614502df66d1654b0417b64103f99af6d07aca896f52e3"), looks := false }, kinds := [], alts := [], laidByText := true, laidKinds := [.data, .pinned], laidTests := true, laidLooks := .later }
def TextBetweensCardSaid : Prop := Claim7.holds Tryd.pinned (.plain (OpenSpec.ofChange textBetweensSpec)) textBetweensCard

/-- THE TIED CARD OF 'parlancelaw07.TextFront'. -/
def textFrontCard : Claim7 := { stood := { row := textFrontRow, standIns := [], harness := (true, "ae9fd2251c08b55ba0614502df66d1654b0417b64103f99af6d07aca896f52e3"), looks := false }, kinds := [], alts := [], laidByText := true, laidKinds := [.data, .pinned], laidTests := true, laidLooks := .later }
def TextFrontCardSaid : Prop := Claim7.holds Tryd.pinned (.plain (OpenSpec.ofChange textFrontSpec)) textFrontCard

/-- THE TIED CARD OF 'parlancelaw07.TextMade'. -/
def textMadeCard : Claim7 := { stood := { row := textMadeRow, standIns := [], harness := (true, "ae9fd2251c08b55ba0614502df66d1654b0417b64103f99af6d07aca896f52e3"), looks := false }, kinds := [], alts := [], laidByText := true, laidKinds := [.data, .pinned], laidTests := true, laidLooks := .later }
def TextMadeCardSaid : Prop := Claim7.holds Tryd.pinned (.plain (OpenSpec.ofChange textMadeSpec)) textMadeCard

/-- THE SECOND FORM's CARD OF 'parlancelaw07.TextApplies'. -/
def textAppliesUptoCard : Claim7 := { stood := { row := textAppliesUptoRow, standIns := [], harness := (true, "ae9fd2251c08b55ba0614502df66d1654b0417b64103f99af6d07aca896f52e3"), looks := false }, kinds := [], alts := [], laidByText := true, laidKinds := [.data, .pinned], laidTests := true, laidLooks := .later }
def TextAppliesUptoCardSaid : Prop := Claim7.holds Tryd.pinned (.plain (OpenSpec.upto textAppliesSpec)) textAppliesUptoCard

/-- THE SECOND FORM's CARD OF 'parlancelaw07.TextRows'. -/
def textRowsUptoCard : Claim7 := { stood := { row := textRowsUptoRow, standIns := [], harness := (true, "ae9fd2251c08b55ba0614502df66d1654b0417b64103f99af6d07aca896f52e3"), looks := false }, kinds := [], alts := [], laidByText := true, laidKinds := [.data, .pinned], laidTests := true, laidLooks := .later }
def TextRowsUptoCardSaid : Prop := Claim7.holds Tryd.pinned (.plain (OpenSpec.upto textRowsSpec)) textRowsUptoCard

/-- THE SECOND FORM's CARD OF 'parlancelaw07.TextLines'. -/
def textLinesUptoCard : Claim7 := { stood := { row := textLinesUptoRow, standIns := [], harness := (true, "ae9fd2251c08b55ba0614502df66d1654b0417b64103f99af6d07aca896f52e3"), looks := false }, kinds := [], alts := [], laidByText := true, laidKinds := [.data, .pinned], laidTests := true, laidLooks := .later }
def TextLinesUptoCardSaid : Prop := Claim7.holds Tryd.pinned (.plain (OpenSpec.upto textLinesSpec)) textLinesUptoCard

/-- THE SECOND FORM's CARD OF 'parlancelaw07.TextThere'. -/
def textThereUptoCard : Claim7 := { stood := { row := textThereUptoRow, standIns := [], harness := (true, "ae9fd2251c08b55ba0614502df66d1654b0417b64103f99af6d07aca896f52e3"), looks := false }, kinds := [], alts := [], laidByText := true, laidKinds := [.data, .pinned], laidTests := true, laidLooks := .later }
def TextThereUptoCardSaid : Prop := Claim7.holds Tryd.pinned (.plain (OpenSpec.upto textThereSpec)) textThereUptoCard

/-- THE SECOND FORM's CARD OF 'parlancelaw07.TextPlaces'. -/
def textPlacesUptoCard : Claim7 := { stood := { row := textPlacesUptoRow, standIns := [], harness := (true, "ae9fd2251c08b55ba0614502df66d1654b0417b64103f99af6d07aca896f52e3"), looks := false }, kinds := [], alts := [], laidByText := true, laidKinds := [.data, .pinned], laidTests := true, laidLooks := .later }
def TextPlacesUptoCardSaid : Prop := Claim7.holds Tryd.pinned (.plain (OpenSpec.upto textPlacesSpec)) textPlacesUptoCard

/-- THE SECOND FORM's CARD OF 'parlancelaw07.TextBetweens'. -/
def textBetweensUptoCard : Claim7 := { stood := { row := textBetweensUptoRow, standIns := [], harness := (true, "ae9fd2251c08b55ba0614502df66d1654b0417b64103f99af6d07aca896f52e3"), looks := false }, kinds := [], alts := [], laidByText := true, laidKinds := [.data, .pinned], laidTests := true, laidLooks := .later }
def TextBetweensUptoCardSaid : Prop := Claim7.holds Tryd.pinned (.plain (OpenSpec.upto textBetweensSpec)) textBetweensUptoCard

/-- THE SECOND FORM's CARD OF 'parlancelaw07.TextFront'. -/
def textFrontUptoCard : Claim7 := { stood := { row := textFrontUptoRow, standIns := [], harness := (true, "ae9fd2251c08b55ba0614502df66d1654b0417b64103f99af6d07aca896f52e3"), looks := false }, kinds := [], alts := [], laidByText := true, laidKinds := [.data, .pinned], laidTests := true, laidLooks := .later }
def TextFrontUptoCardSaid : Prop := Claim7.holds Tryd.pinned (.plain (OpenSpec.upto textFrontSpec)) textFrontUptoCard

/-- THE SECOND FORM's CARD OF 'parlancelaw07.TextMade'. -/
def textMadeUptoCard : Claim7 := { stood := { row := textMadeUptoRow, standIns := [], harness := (true, "ae9fd2251c08b55ba0614502df66d1654b0417b64103f99af6d07aca896f52e3"), looks := false }, kinds := [], alts := [], laidByText := true, laidKinds := [.data, .pinned], laidTests := true, laidLooks := .later }
def TextMadeUptoCardSaid : Prop := Claim7.holds Tryd.pinned (.plain (OpenSpec.upto textMadeSpec)) textMadeUptoCard
end Rows
end Go.Proofs.YtjffpcjbbehooaaDoor
