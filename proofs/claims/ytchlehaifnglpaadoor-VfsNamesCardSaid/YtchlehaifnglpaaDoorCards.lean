/-
  DERIVED. GIVEN WITH THE SEED: THE CARDS: each row of YtchlehaifnglpaaDoorRows.lean that lists a variable, with what it lists TIED to the program's text (the seventh form; the later family's looks); each row that meets fmt, with fmt's text TOLD by the authors' own Lean function (tested against real Go, not proved from fmt's source: count such statements apart). THE CARD IS WHAT COUNTS. Prove the row's statement (the work); the ties are given (YtchlehaifnglpaaDoorTie.lean); close each card by the builder's one call (the guide's Derived/Test/ToyasCard.lean, 'card_holds'). Laid BY PROGRAM, IN A SANDBOX (cutbox-door.mjs). By AI agents, Wed Nov 11 2026. No macro, syntax, notation, axiom, sorry.
-/
import Derived.Test.YtchlehaifnglpaaDoorRows
import GoSem.ClaimSeven
namespace Go.Proofs.YtchlehaifnglpaaDoor
namespace Rows

/-- THE TIED CARD OF 'parlancelaw01.VfsNames'. -/
def vfsNamesCard : Claim7 := { stood := { row := vfsNamesRow, standIns := [], harness := (true, "57def31b3a1b75d7a1b47d3ca92f1452b79be6fac82905fac1b9b8e43fada9ef"), looks := false }, kinds := [], alts := [], laidByText := true, laidKinds := [.data, .pinned], laidTests := true, laidLooks := .later }
def VfsNamesCardSaid : Prop := Claim7.holds Tryd.pinned (.plain (OpenSpec.ofChange vfsNamesSpec)) vfsNamesCard

/-- THE TIED CARD OF 'parlancelaw01.VfsMemory'. -/
def vfsMemoryCard : Claim7 := { stood := { row := vfsMemoryRow, standIns := [], harness := (true, "57def31b3a1b75d7a1b47d3ca92f1452b79be6fac82905fac1b9b8e43fada9ef"), looks := false }, kinds := [], alts := [], laidByText := true, laidKinds := [.data, .pinned], laidTests := true, laidLooks := .later }
def VfsMemoryCardSaid : Prop := Claim7.holds Tryd.pinned (.plain (OpenSpec.ofChange vfsMemorySpec)) vfsMemoryCard

/-- THE TIED CARD OF 'parlancelaw01.VfsCrash'. -/
def vfsCrashCard : Claim7 := { stood := { row := vfsCrashRow, standIns := [], harness := (true, "57def31b3a1b75d7a1b47d3ca92f1452b79be6fac82905fac1b9b8e43fada9ef"), looks := false }, kinds := [], alts := [], laidByText := true, laidKinds := [.data, .pinned], laidTests := true, laidLooks := .later }
def VfsCrashCardSaid : Prop := Claim7.holds Tryd.pinned (.plain (OpenSpec.ofChange vfsCrashSpec)) vfsCrashCard

/-- THE TIED CARD OF 'parlancelaw01.VfsSafe'. -/
def vfsSafeCard : Claim7 := { stood := { row := vfsSafeRow, standIns := [], harness := (true, "57def31b3a1b75d7a1b47d3ca92f1452b79be6fac82905fac1b9b8e43fada9ef"), looks := false }, kinds := [], alts := [], laidByText := true, laidKinds := [.data, .pinned], laidTests := true, laidLooks := .later }
def VfsSafeCardSaid : Prop := Claim7.holds Tryd.pinned (.plain (OpenSpec.ofChange vfsSafeSpec)) vfsSafeCard

/-- THE TIED CARD OF 'parlancelaw01.VfsPower'. -/
def vfsPowerCard : Claim7 := { stood := { row := vfsPowerRow, standIns := [], harness := (true, "57def31b3a1b75d7a1b47d3ca92f1452b79be6fac82905fac1b9b8e43fada9ef"), looks := false }, kinds := [], alts := [], laidByText := true, laidKinds := [.data, .pinned], laidTests := true, laidLooks := .later }
def VfsPowerCardSaid : Prop := Claim7.holds Tryd.pinned (.plain (OpenSpec.ofChange vfsPowerSpec)) vfsPowerCard

/-- THE SECOND FORM's CARD OF 'parlancelaw01.VfsNames'. -/
def vfsNamesUptoCard : Claim7 := { stood := { row := vfsNamesUptoRow, standIns := [], harness := (true, "57def31b3a1b75d7a1b47d3ca92f1452b79be6fac82905fac1b9b8e43fada9ef"), looks := false }, kinds := [], alts := [], laidByText := true, laidKinds := [.data, .pinned], laidTests := true, laidLooks := .later }
def VfsNamesUptoCardSaid : Prop := Claim7.holds Tryd.pinned (.plain (OpenSpec.upto vfsNamesSpec)) vfsNamesUptoCard

/-- THE SECOND FORM's CARD OF 'parlancelaw01.VfsMemory'. -/
def vfsMemoryUptoCard : Claim7 := { stood := { row := vfsMemoryUptoRow, standIns := [], harness := (true, "57def31b3a1b75d7a1b47d3ca92f1452b79be6fac82905fac1b9b8e43fada9ef"), looks := false }, kinds := [], alts := [], laidByText := true, laidKinds := [.data, .pinned], laidTests := true, laidLooks := .later }
def VfsMemoryUptoCardSaid : Prop := Claim7.holds Tryd.pinned (.plain (OpenSpec.upto vfsMemorySpec)) vfsMemoryUptoCard

/-- THE SECOND FORM's CARD OF 'parlancelaw01.VfsCrash'. -/
def vfsCrashUptoCard : Claim7 := { stood := { row := vfsCrashUptoRow, standIns := [], harness := (true, "57def31b3a1b75d7a1b47d3ca92f1452b79be6fac82905fac1b9b8e43fada9ef"), looks := false }, kinds := [], alts := [], laidByText := true, laidKinds := [.data, .pinned], laidTests := true, laidLooks := .later }
def VfsCrashUptoCardSaid : Prop := Claim7.holds Tryd.pinned (.plain (OpenSpec.upto vfsCrashSpec)) vfsCrashUptoCard

/-- THE SECOND FORM's CARD OF 'parlancelaw01.VfsSafe'. -/
def vfsSafeUptoCard : Claim7 := { stood := { row := vfsSafeUptoRow, standIns := [], harness := (true, "57def31b3a1b75d7a1b47d3ca92f1452b79be6fac82905fac1b9b8e43fada9ef"), looks := false }, kinds := [], alts := [], laidByText := true, laidKinds := [.data, .pinned], laidTests := true, laidLooks := .later }
def VfsSafeUptoCardSaid : Prop := Claim7.holds Tryd.pinned (.plain (OpenSpec.upto vfsSafeSpec)) vfsSafeUptoCard

/-- THE SECOND FORM's CARD OF 'parlancelaw01.VfsPower'. -/
def vfsPowerUptoCard : Claim7 := { stood := { row := vfsPowerUptoRow, standIns := [], harness := (true, "57def31b3a1b75d7a1b47d3ca92f1452b79be6fac82905fac1b9b8e43fada9ef"), looks := false }, kinds := [], alts := [], laidByText := true, laidKinds := [.data, .pinned], laidTests := true, laidLooks := .later }
def VfsPowerUptoCardSaid : Prop := Claim7.holds Tryd.pinned (.plain (OpenSpec.upto vfsPowerSpec)) vfsPowerUptoCard
end Rows
end Go.Proofs.YtchlehaifnglpaaDoor
