/-
  DERIVED. GIVEN WITH THE SEED: THE CARDS: each row of YtflfkbnolehpgaaDoorRows.lean that lists a variable, with what it lists TIED to the program's text (the seventh form; the later family's looks); each row that meets fmt, with fmt's text TOLD by the authors' own Lean function (tested against real Go, not proved from fmt's source: count such statements apart). THE CARD IS WHAT COUNTS. Prove the row's statement (the work); the ties are given (YtflfkbnolehpgaaDoorTie.lean); close each card by the builder's one call (the guide's Derived/Test/ToyasCard.lean, 'card_holds'). Laid BY PROGRAM, IN A SANDBOX (cutbox-door.mjs). By AI agents, Wed Nov 11 2026. No macro, syntax, notation, axiom, sorry.
-/
import Derived.Test.YtflfkbnolehpgaaDoorRows
import GoSem.ClaimSeven
namespace Go.Proofs.YtflfkbnolehpgaaDoor
namespace Rows

/-- THE TIED CARD OF 'parlancelaw04.UtfTexts'. -/
def utfTextsCard : Claim7 := { stood := { row := utfTextsRow, standIns := [], harness := (true, "2c7300ba0b2c0bb4576085bfb70ca7efefe7462810b72600840d798d6dbebb9c"), looks := false }, kinds := [], alts := [], laidByText := true, laidKinds := [.data, .pinned], laidTests := true, laidLooks := .later }
def UtfTextsCardSaid : Prop := Claim7.holds Tryd.pinned (.plain (OpenSpec.ofChange utfTextsSpec)) utfTextsCard

/-- THE TIED CARD OF 'parlancelaw04.UtfJoined'. -/
def utfJoinedCard : Claim7 := { stood := { row := utfJoinedRow, standIns := [], harness := (true, "2c7300ba0b2c0bb4576085bfb70ca7efefe7462810b72600840d798d6dbebb9c"), looks := false }, kinds := [], alts := [], laidByText := true, laidKinds := [.data, .pinned], laidTests := true, laidLooks := .later }
def UtfJoinedCardSaid : Prop := Claim7.holds Tryd.pinned (.plain (OpenSpec.ofChange utfJoinedSpec)) utfJoinedCard

/-- THE TIED CARD OF 'parlancelaw04.UtfFront'. -/
def utfFrontCard : Claim7 := { stood := { row := utfFrontRow, standIns := [], harness := (true, "2c7300ba0b2c0bb4576085bfb70ca7efefe7462810b72600840d798d6dbebb9c"), looks := false }, kinds := [], alts := [], laidByText := true, laidKinds := [.data, .pinned], laidTests := true, laidLooks := .later }
def UtfFrontCardSaid : Prop := Claim7.holds Tryd.pinned (.plain (OpenSpec.ofChange utfFrontSpec)) utfFrontCard

/-- THE TIED CARD OF 'parlancelaw04.UtfCounts'. -/
def utfCountsCard : Claim7 := { stood := { row := utfCountsRow, standIns := [], harness := (true, "2c7300ba0b2c0bb4576085bfb70ca7efefe7462810b72600840d798d6dbebb9c"), looks := false }, kinds := [], alts := [], laidByText := true, laidKinds := [.data, .pinned], laidTests := true, laidLooks := .later }
def UtfCountsCardSaid : Prop := Claim7.holds Tryd.pinned (.plain (OpenSpec.ofChange utfCountsSpec)) utfCountsCard

/-- THE TIED CARD OF 'parlancelaw04.UtfPlaces'. -/
def utfPlacesCard : Claim7 := { stood := { row := utfPlacesRow, standIns := [], harness := (true, "2c7300ba0b2c0bb4576085bfb70ca7efefe7462810b72600840d798d6dbebb9c"), looks := false }, kinds := [], alts := [], laidByText := true, laidKinds := [.data, .pinned], laidTests := true, laidLooks := .later }
def UtfPlacesCardSaid : Prop := Claim7.holds Tryd.pinned (.plain (OpenSpec.ofChange utfPlacesSpec)) utfPlacesCard

/-- THE TIED CARD OF 'parlancelaw04.UtfThere'. -/
def utfThereCard : Claim7 := { stood := { row := utfThereRow, standIns := [], harness := (true, "2c7300ba0b2c0bb4576085bfb70ca7efefe7462810b72600840d798d6dbebb9c"), looks := false }, kinds := [], alts := [], laidByText := true, laidKinds := [.data, .pinned], laidTests := true, laidLooks := .later }
def UtfThereCardSaid : Prop := Claim7.holds Tryd.pinned (.plain (OpenSpec.ofChange utfThereSpec)) utfThereCard

/-- THE TIED CARD OF 'parlancelaw04.UtfJoins'. -/
def utfJoinsCard : Claim7 := { stood := { row := utfJoinsRow, standIns := [], harness := (true, "2c7300ba0b2c0bb4576085bfb70ca7efefe7462810b72600840d798d6dbebb9c"), looks := false }, kinds := [], alts := [], laidByText := true, laidKinds := [.data, .pinned], laidTests := true, laidLooks := .later }
def UtfJoinsCardSaid : Prop := Claim7.holds Tryd.pinned (.plain (OpenSpec.ofChange utfJoinsSpec)) utfJoinsCard

/-- THE TIED CARD OF 'parlancelaw04.UtfRound'. -/
def utfRoundCard : Claim7 := { stood := { row := utfRoundRow, standIns := [], harness := (true, "2c7300ba0b2c0bb4576085bfb70ca7efefe7462810b72600840d798d6dbebb9c"), looks := false }, kinds := [], alts := [], laidByText := true, laidKinds := [.data, .pinned], laidTests := true, laidLooks := .later }
def UtfRoundCardSaid : Prop := Claim7.holds Tryd.pinned (.plain (OpenSpec.ofChange utfRoundSpec)) utfRoundCard

/-- THE SECOND FORM's CARD OF 'parlancelaw04.UtfTexts'. -/
def utfTextsUptoCard : Claim7 := { stood := { row := utfTextsUptoRow, standIns := [], harness := (true, "2c7300ba0b2c0bb4576085bfb70ca7efefe7462810b72600840d798d6dbebb9c"), looks := false }, kinds := [], alts := [], laidByText := true, laidKinds := [.data, .pinned], laidTests := true, laidLooks := .later }
def UtfTextsUptoCardSaid : Prop := Claim7.holds Tryd.pinned (.plain (OpenSpec.upto utfTextsSpec)) utfTextsUptoCard

/-- THE SECOND FORM's CARD OF 'parlancelaw04.UtfJoined'. -/
def utfJoinedUptoCard : Claim7 := { stood := { row := utfJoinedUptoRow, standIns := [], harness := (true, "2c7300ba0b2c0bb4576085bfb70ca7efefe7462810b72600840d798d6dbebb9c"), looks := false }, kinds := [], alts := [], laidByText := true, laidKinds := [.data, .pinned], laidTests := true, laidLooks := .later }
def UtfJoinedUptoCardSaid : Prop := Claim7.holds Tryd.pinned (.plain (OpenSpec.upto utfJoinedSpec)) utfJoinedUptoCard

/-- THE SECOND FORM's CARD OF 'parlancelaw04.UtfFront'. -/
def utfFrontUptoCard : Claim7 := { stood := { row := utfFrontUptoRow, standIns := [], harness := (true, "2c7300ba0b2c0bb4576085bfb70ca7efefe7462810b72600840d798d6dbebb9c"), looks := false }, kinds := [], alts := [], laidByText := true, laidKinds := [.data, .pinned], laidTests := true, laidLooks := .later }
def UtfFrontUptoCardSaid : Prop := Claim7.holds Tryd.pinned (.plain (OpenSpec.upto utfFrontSpec)) utfFrontUptoCard

/-- THE SECOND FORM's CARD OF 'parlancelaw04.UtfCounts'. -/
def utfCountsUptoCard : Claim7 := { stood := { row := utfCountsUptoRow, standIns := [], harness := (true, "2c7300ba0b2c0bb4576085bfb70ca7efefe7462810b72600840d798d6dbebb9c"), looks := false }, kinds := [], alts := [], laidByText := true, laidKinds := [.data, .pinned], laidTests := true, laidLooks := .later }
def UtfCountsUptoCardSaid : Prop := Claim7.holds Tryd.pinned (.plain (OpenSpec.upto utfCountsSpec)) utfCountsUptoCard

/-- THE SECOND FORM's CARD OF 'parlancelaw04.UtfPlaces'. -/
def utfPlacesUptoCard : Claim7 := { stood := { row := utfPlacesUptoRow, standIns := [], harness := (true, "2c7300ba0b2c0bb4576085bfb70ca7efefe7462810b72600840d798d6dbebb9c"), looks := false }, kinds := [], alts := [], laidByText := true, laidKinds := [.data, .pinned], laidTests := true, laidLooks := .later }
def UtfPlacesUptoCardSaid : Prop := Claim7.holds Tryd.pinned (.plain (OpenSpec.upto utfPlacesSpec)) utfPlacesUptoCard

/-- THE SECOND FORM's CARD OF 'parlancelaw04.UtfThere'. -/
def utfThereUptoCard : Claim7 := { stood := { row := utfThereUptoRow, standIns := [], harness := (true, "2c7300ba0b2c0bb4576085bfb70ca7efefe7462810b72600840d798d6dbebb9c"), looks := false }, kinds := [], alts := [], laidByText := true, laidKinds := [.data, .pinned], laidTests := true, laidLooks := .later }
def UtfThereUptoCardSaid : Prop := Claim7.holds Tryd.pinned (.plain (OpenSpec.upto utfThereSpec)) utfThereUptoCard

/-- THE SECOND FORM's CARD OF 'parlancelaw04.UtfJoins'. -/
def utfJoinsUptoCard : Claim7 := { stood := { row := utfJoinsUptoRow, standIns := [], harness := (true, "2c7300ba0b2c0bb4576085bfb70ca7efefe7462810b72600840d798d6dbebb9c"), looks := false }, kinds := [], alts := [], laidByText := true, laidKinds := [.data, .pinned], laidTests := true, laidLooks := .later }
def UtfJoinsUptoCardSaid : Prop := Claim7.holds Tryd.pinned (.plain (OpenSpec.upto utfJoinsSpec)) utfJoinsUptoCard

/-- THE SECOND FORM's CARD OF 'parlancelaw04.UtfRound'. -/
def utfRoundUptoCard : Claim7 := { stood := { row := utfRoundUptoRow, standIns := [], harness := (true, "2c7300ba0b2c0bb4576085bfb70ca7efefe7462810b72600840d798d6dbebb9c"), looks := false }, kinds := [], alts := [], laidByText := true, laidKinds := [.data, .pinned], laidTests := true, laidLooks := .later }
def UtfRoundUptoCardSaid : Prop := Claim7.holds Tryd.pinned (.plain (OpenSpec.upto utfRoundSpec)) utfRoundUptoCard
end Rows
end Go.Proofs.YtflfkbnolehpgaaDoor
