/-
  DERIVED. GIVEN WITH THE SEED: THE CARDS: each row of YtomebmjjgkcjiaaGreatDoorRows.lean that lists a variable, with what it lists TIED to the program's text (the seventh form; the later family's looks); each row that meets fmt, with fmt's text TOLD by the authors' own Lean function (tested against real Go, not proved from fmt's source: count such statements apart). THE CARD IS WHAT COUNTS. Prove the row's statement (the work); the ties are given (YtomebmjjgkcjiaaGreatDoorTie.lean); close each card by the builder's one call (the guide's Derived/Test/ToyasCard.lean, 'card_holds'). Laid BY PROGRAM, IN A SANDBOX (cutbox-door.mjs). By AI agents, Wed Nov 11 2026. No macro, syntax, notation, axiom, sorry.
-/
import Derived.Test.YtomebmjjgkcjiaaGreatDoorRows
import GoSem.ClaimSeven
namespace Go.Proofs.YtomebmjjgkcjiaaGreatDoor
namespace Rows

/-- THE TIED CARD OF 'parlancelaw03.FrameFeeds'. -/
def frameFeedsCard : Claim7 := { stood := { row := frameFeedsRow, standIns := [], harness := (true, "dc1d940bf0318f0cd78a85c7728df0798c8f79a4d1e498974525124efce038c8"), looks := true }, kinds := [], alts := [], laidByText := true, laidKinds := [.data, .data, .data, .data, .sentinel, .sentinel, .pinned], laidTests := true, laidLooks := .later }
def FrameFeedsCardSaid : Prop := Claim7.holds Tryz.pinned (.plain (OpenSpec.ofChange frameFeedsSpec)) frameFeedsCard

/-- THE SECOND FORM's CARD OF 'parlancelaw03.FrameFeeds'. -/
def frameFeedsUptoCard : Claim7 := { stood := { row := frameFeedsUptoRow, standIns := [], harness := (true, "dc1d940bf0318f0cd78a85c7728df0798c8f79a4d1e498974525124efce038c8"), looks := true }, kinds := [], alts := [], laidByText := true, laidKinds := [.data, .data, .data, .data, .sentinel, .sentinel, .pinned], laidTests := true, laidLooks := .later }
def FrameFeedsUptoCardSaid : Prop := Claim7.holds Tryz.pinned (.plain (OpenSpec.upto frameFeedsSpec)) frameFeedsUptoCard
end Rows
end Go.Proofs.YtomebmjjgkcjiaaGreatDoor
