/-
  DERIVED. GIVEN WITH THE SEED: THE CARDS: each row of YtomebmjjgkcjiaaDoorRows.lean that lists a variable, with what it lists TIED to the program's text (the seventh form; the later family's looks); each row that meets fmt, with fmt's text TOLD by the authors' own Lean function (tested against real Go, not proved from fmt's source: count such statements apart). THE CARD IS WHAT COUNTS. Prove the row's statement (the work); the ties are given (YtomebmjjgkcjiaaDoorTie.lean); close each card by the builder's one call (the guide's Derived/Test/ToyasCard.lean, 'card_holds'). Laid BY PROGRAM, IN A SANDBOX (cutbox-door.mjs). By AI agents, Wed Nov 11 2026. No macro, syntax, notation, axiom, sorry.
-/
import Derived.Test.YtomebmjjgkcjiaaDoorRows
import GoSem.ClaimSeven
namespace Go.Proofs.YtomebmjjgkcjiaaDoor
namespace Rows

/-- THE TIED CARD OF 'parlancelaw03.FrameEncodes'. -/
def frameEncodesCard : Claim7 := { stood := { row := frameEncodesRow, standIns := [], harness := (true, "6c129b506bfad6486cd12841fe670d8a495548bea168e5da5ce9850be301f6f3"), looks := true }, kinds := [], alts := [], laidByText := true, laidKinds := [.data, .data, .data, .data, .sentinel, .sentinel, .pinned], laidTests := true, laidLooks := .later }
def FrameEncodesCardSaid : Prop := Claim7.holds Tryd.pinned (.plain (OpenSpec.ofChange frameEncodesSpec)) frameEncodesCard

/-- THE TIED CARD OF 'parlancelaw03.FrameMemory'. -/
def frameMemoryCard : Claim7 := { stood := { row := frameMemoryRow, standIns := [], harness := (true, "6c129b506bfad6486cd12841fe670d8a495548bea168e5da5ce9850be301f6f3"), looks := true }, kinds := [], alts := [], laidByText := true, laidKinds := [.data, .data, .data, .data, .sentinel, .sentinel, .pinned], laidTests := true, laidLooks := .later }
def FrameMemoryCardSaid : Prop := Claim7.holds Tryd.pinned (.plain (OpenSpec.ofChange frameMemorySpec)) frameMemoryCard

/-- THE TIED CARD OF 'parlancelaw03.FramePieces'. -/
def framePiecesCard : Claim7 := { stood := { row := framePiecesRow, standIns := [], harness := (true, "6c129b506bfad6486cd12841fe670d8a495548bea168e5da5ce9850be301f6f3"), looks := true }, kinds := [], alts := [], laidByText := true, laidKinds := [.data, .data, .data, .data, .sentinel, .sentinel, .pinned], laidTests := true, laidLooks := .later }
def FramePiecesCardSaid : Prop := Claim7.holds Tryd.pinned (.plain (OpenSpec.ofChange framePiecesSpec)) framePiecesCard

/-- THE TIED CARD OF 'parlancelaw03.FrameRound'. -/
def frameRoundCard : Claim7 := { stood := { row := frameRoundRow, standIns := [], harness := (true, "6c129b506bfad6486cd12841fe670d8a495548bea168e5da5ce9850be301f6f3"), looks := true }, kinds := [], alts := [], laidByText := true, laidKinds := [.data, .data, .data, .data, .sentinel, .sentinel, .pinned], laidTests := true, laidLooks := .later }
def FrameRoundCardSaid : Prop := Claim7.holds Tryd.pinned (.plain (OpenSpec.ofChange frameRoundSpec)) frameRoundCard

/-- THE TIED CARD OF 'parlancelaw03.FrameOthers'. -/
def frameOthersCard : Claim7 := { stood := { row := frameOthersRow, standIns := [], harness := (true, "6c129b506bfad6486cd12841fe670d8a495548bea168e5da5ce9850be301f6f3"), looks := true }, kinds := [], alts := [], laidByText := true, laidKinds := [.data, .data, .data, .data, .sentinel, .sentinel, .pinned], laidTests := true, laidLooks := .later }
def FrameOthersCardSaid : Prop := Claim7.holds Tryd.pinned (.plain (OpenSpec.ofChange frameOthersSpec)) frameOthersCard

/-- THE TIED CARD OF 'parlancelaw03.FrameDead'. -/
def frameDeadCard : Claim7 := { stood := { row := frameDeadRow, standIns := [], harness := (true, "6c129b506bfad6486cd12841fe670d8a495548bea168e5da5ce9850be301f6f3"), looks := true }, kinds := [], alts := [], laidByText := true, laidKinds := [.data, .data, .data, .data, .sentinel, .sentinel, .pinned], laidTests := true, laidLooks := .later }
def FrameDeadCardSaid : Prop := Claim7.holds Tryd.pinned (.plain (OpenSpec.ofChange frameDeadSpec)) frameDeadCard

/-- THE SECOND FORM's CARD OF 'parlancelaw03.FrameEncodes'. -/
def frameEncodesUptoCard : Claim7 := { stood := { row := frameEncodesUptoRow, standIns := [], harness := (true, "6c129b506bfad6486cd12841fe670d8a495548bea168e5da5ce9850be301f6f3"), looks := true }, kinds := [], alts := [], laidByText := true, laidKinds := [.data, .data, .data, .data, .sentinel, .sentinel, .pinned], laidTests := true, laidLooks := .later }
def FrameEncodesUptoCardSaid : Prop := Claim7.holds Tryd.pinned (.plain (OpenSpec.upto frameEncodesSpec)) frameEncodesUptoCard

/-- THE SECOND FORM's CARD OF 'parlancelaw03.FrameMemory'. -/
def frameMemoryUptoCard : Claim7 := { stood := { row := frameMemoryUptoRow, standIns := [], harness := (true, "6c129b506bfad6486cd12841fe670d8a495548bea168e5da5ce9850be301f6f3"), looks := true }, kinds := [], alts := [], laidByText := true, laidKinds := [.data, .data, .data, .data, .sentinel, .sentinel, .pinned], laidTests := true, laidLooks := .later }
def FrameMemoryUptoCardSaid : Prop := Claim7.holds Tryd.pinned (.plain (OpenSpec.upto frameMemorySpec)) frameMemoryUptoCard

/-- THE SECOND FORM's CARD OF 'parlancelaw03.FramePieces'. -/
def framePiecesUptoCard : Claim7 := { stood := { row := framePiecesUptoRow, standIns := [], harness := (true, "6c129b506bfad6486cd12841fe670d8a495548bea168e5da5ce9850be301f6f3"), looks := true }, kinds := [], alts := [], laidByText := true, laidKinds := [.data, .data, .data, .data, .sentinel, .sentinel, .pinned], laidTests := true, laidLooks := .later }
def FramePiecesUptoCardSaid : Prop := Claim7.holds Tryd.pinned (.plain (OpenSpec.upto framePiecesSpec)) framePiecesUptoCard

/-- THE SECOND FORM's CARD OF 'parlancelaw03.FrameRound'. -/
def frameRoundUptoCard : Claim7 := { stood := { row := frameRoundUptoRow, standIns := [], harness := (true, "6c129b506bfad6486cd12841fe670d8a495548bea168e5da5ce9850be301f6f3"), looks := true }, kinds := [], alts := [], laidByText := true, laidKinds := [.data, .data, .data, .data, .sentinel, .sentinel, .pinned], laidTests := true, laidLooks := .later }
def FrameRoundUptoCardSaid : Prop := Claim7.holds Tryd.pinned (.plain (OpenSpec.upto frameRoundSpec)) frameRoundUptoCard

/-- THE SECOND FORM's CARD OF 'parlancelaw03.FrameOthers'. -/
def frameOthersUptoCard : Claim7 := { stood := { row := frameOthersUptoRow, standIns := [], harness := (true, "6c129b506bfad6486cd12841fe670d8a495548bea168e5da5ce9850be301f6f3"), looks := true }, kinds := [], alts := [], laidByText := true, laidKinds := [.data, .data, .data, .data, .sentinel, .sentinel, .pinned], laidTests := true, laidLooks := .later }
def FrameOthersUptoCardSaid : Prop := Claim7.holds Tryd.pinned (.plain (OpenSpec.upto frameOthersSpec)) frameOthersUptoCard

/-- THE SECOND FORM's CARD OF 'parlancelaw03.FrameDead'. -/
def frameDeadUptoCard : Claim7 := { stood := { row := frameDeadUptoRow, standIns := [], harness := (true, "6c129b506bfad6486cd12841fe670d8a495548bea168e5da5ce9850be301f6f3"), looks := true }, kinds := [], alts := [], laidByText := true, laidKinds := [.data, .data, .data, .data, .sentinel, .sentinel, .pinned], laidTests := true, laidLooks := .later }
def FrameDeadUptoCardSaid : Prop := Claim7.holds Tryd.pinned (.plain (OpenSpec.upto frameDeadSpec)) frameDeadUptoCard
end Rows
end Go.Proofs.YtomebmjjgkcjiaaDoor
