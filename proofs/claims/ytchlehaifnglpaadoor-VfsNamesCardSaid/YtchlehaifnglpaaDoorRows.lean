/-
  NARROWER THAN 'FOR EVERY INPUT', by the rows' own cells (each row's printed sentence says how): VfsNames: laid · VfsMemory: laid · VfsCrash: laid · VfsSafe: laid · VfsPower: laid.
  DERIVED. THE GIVEN ROWS OF THIS SEAT. 5 by the template 'for every input the law returns true; each argument reads behind the call as it read before'; 0 by the template 'total and deterministic' (their statements: YtchlehaifnglpaaDoorTotals.lean).
  GIVEN WITH THE SEED: the statements are not yours to turn. If you find one false, say at which input.
  Laid BY PROGRAM, IN A SANDBOX (cutbox-rows.mjs): the forced cells as the released guide's own fill.sh prints them over the translation f7fe316a985b43cd… (all of the seat's roots in one cut). By AI agents, Wed Nov 11 2026. No macro, syntax, notation, axiom, sorry.
-/
import Derived.Test.YtchlehaifnglpaaDoorChecked
import GoSem.PinnedTables
import GoSem.Claim
import GoSem.ClaimJoined
import GoSem.ClaimMapViews
import Derived.JoinedTies
import Derived.KernelRfl
namespace Go.Proofs.YtchlehaifnglpaaDoor
/- THE CELL 'sum', in the pinned program and in every row, IS THE sha256 OF THE DUMP (.gsa) THAT YtchlehaifnglpaaDoorProg.lean LOADS. Nothing in Lean hashes anything: it is a label: what it is worth is what the hold of that sum in a sandbox is worth. -/
noncomputable def Tryd.pinned : Pinned := { name := "ytchlehaifnglpaadoor", sum := "f7fe316a985b43cd200ecfca885ece190bf10f64c1f27580c6fe3ccd45badf46", checked := Tryd.checked }
namespace Rows
def none {H : Type} : Left H := { results := [], args := [] }

/- WHAT THE LISTED PACKAGE-LEVEL VARIABLES READ AS WHEN THE CALL BEGINS. Each datum BY PROGRAM (the guide's laid-datum.mjs) off the statement by which the dump's own 'gosem.cut.vars' lays the variable. In a bare row this is a premise. The card (YtchlehaifnglpaaDoorCards.lean) ties it to the program's text. -/
def laid_unicode_utf8_acceptRanges {H : Type} : DataW H := .agg [.agg [.lit (.int .u8 128), .lit (.int .u8 191)], .agg [.lit (.int .u8 160), .lit (.int .u8 191)], .agg [.lit (.int .u8 128), .lit (.int .u8 159)], .agg [.lit (.int .u8 144), .lit (.int .u8 191)], .agg [.lit (.int .u8 128), .lit (.int .u8 143)], .agg [.lit (.int .u8 0), .lit (.int .u8 0)], .agg [.lit (.int .u8 0), .lit (.int .u8 0)], .agg [.lit (.int .u8 0), .lit (.int .u8 0)], .agg [.lit (.int .u8 0), .lit (.int .u8 0)], .agg [.lit (.int .u8 0), .lit (.int .u8 0)], .agg [.lit (.int .u8 0), .lit (.int .u8 0)], .agg [.lit (.int .u8 0), .lit (.int .u8 0)], .agg [.lit (.int .u8 0), .lit (.int .u8 0)], .agg [.lit (.int .u8 0), .lit (.int .u8 0)], .agg [.lit (.int .u8 0), .lit (.int .u8 0)], .agg [.lit (.int .u8 0), .lit (.int .u8 0)]]
/-- One of Go's own tables, pinned by name: the form's constant. -/
def laid_unicode_utf8_first : DataW Unit := Go.Pinned.utf8First

/-- 'parlancelaw01.VfsNames': WHATEVER THE INPUT: true; the input reads as it did. -/
def vfsNamesSpec : ChangeSpec := { name := "vfsNames", fn := fun _ => fun
  | [] => { results := [.lit (.bool true)], args := [] }
  | _ => none }
def vfsNamesRow : OpenClaim := { program := "ytchlehaifnglpaadoor", sum := "f7fe316a985b43cd200ecfca885ece190bf10f64c1f27580c6fe3ccd45badf46", func := "parlance/parlancelaw01.VfsNames", spec := "vfsNames", inPlace := ["internal/bytealg.IndexByteString", "internal/bytealg.IndexString"], unfollowed := true, recurses := true, named := ["unicode/utf8.first", "unicode/utf8.acceptRanges", "internal/bytealg.MaxLen"], apart := false, laid := [("unicode/utf8.acceptRanges", laid_unicode_utf8_acceptRanges), ("unicode/utf8.first", laid_unicode_utf8_first)] }
def VfsNamesSaid : Prop := vfsNamesRow.holds Tryd.pinned (OpenSpec.ofChange vfsNamesSpec)

/-- ITS FALSE NEIGHBOUR: 'it returns false'. Refute it at one input. -/
def vfsNamesWrong : ChangeSpec := { name := "vfsNames", fn := fun _ => fun
  | [] => { results := [.lit (.bool false)], args := [] }
  | _ => none }
def VfsNamesWrongFalsely : Prop := vfsNamesRow.holds Tryd.pinned (OpenSpec.ofChange vfsNamesWrong)

/-- 'parlancelaw01.VfsMemory': WHATEVER THE INPUT: true; the input reads as it did. -/
def vfsMemorySpec : ChangeSpec := { name := "vfsMemory", fn := fun _ => fun
  | [d1, d2] => { results := [.lit (.bool true)], args := [d1, d2] }
  | _ => none }
def vfsMemoryRow : OpenClaim := { program := "ytchlehaifnglpaadoor", sum := "f7fe316a985b43cd200ecfca885ece190bf10f64c1f27580c6fe3ccd45badf46", func := "parlance/parlancelaw01.VfsMemory", spec := "vfsMemory", inPlace := ["internal/bytealg.IndexByteString", "internal/bytealg.IndexString"], unfollowed := true, recurses := true, named := ["unicode/utf8.first", "unicode/utf8.acceptRanges", "internal/bytealg.MaxLen"], apart := false, laid := [("unicode/utf8.acceptRanges", laid_unicode_utf8_acceptRanges), ("unicode/utf8.first", laid_unicode_utf8_first)] }
def VfsMemorySaid : Prop := vfsMemoryRow.holds Tryd.pinned (OpenSpec.ofChange vfsMemorySpec)

/-- ITS FALSE NEIGHBOUR: 'it returns false'. Refute it at one input. -/
def vfsMemoryWrong : ChangeSpec := { name := "vfsMemory", fn := fun _ => fun
  | [d1, d2] => { results := [.lit (.bool false)], args := [d1, d2] }
  | _ => none }
def VfsMemoryWrongFalsely : Prop := vfsMemoryRow.holds Tryd.pinned (OpenSpec.ofChange vfsMemoryWrong)

/-- 'parlancelaw01.VfsCrash': WHATEVER THE INPUT: true; the input reads as it did. -/
def vfsCrashSpec : ChangeSpec := { name := "vfsCrash", fn := fun _ => fun
  | [d1, d2] => { results := [.lit (.bool true)], args := [d1, d2] }
  | _ => none }
def vfsCrashRow : OpenClaim := { program := "ytchlehaifnglpaadoor", sum := "f7fe316a985b43cd200ecfca885ece190bf10f64c1f27580c6fe3ccd45badf46", func := "parlance/parlancelaw01.VfsCrash", spec := "vfsCrash", inPlace := ["internal/bytealg.IndexByteString", "internal/bytealg.IndexString"], unfollowed := true, recurses := true, named := ["unicode/utf8.first", "unicode/utf8.acceptRanges", "internal/bytealg.MaxLen"], apart := false, laid := [("unicode/utf8.acceptRanges", laid_unicode_utf8_acceptRanges), ("unicode/utf8.first", laid_unicode_utf8_first)] }
def VfsCrashSaid : Prop := vfsCrashRow.holds Tryd.pinned (OpenSpec.ofChange vfsCrashSpec)

/-- ITS FALSE NEIGHBOUR: 'it returns false'. Refute it at one input. -/
def vfsCrashWrong : ChangeSpec := { name := "vfsCrash", fn := fun _ => fun
  | [d1, d2] => { results := [.lit (.bool false)], args := [d1, d2] }
  | _ => none }
def VfsCrashWrongFalsely : Prop := vfsCrashRow.holds Tryd.pinned (OpenSpec.ofChange vfsCrashWrong)

/-- 'parlancelaw01.VfsSafe': WHATEVER THE INPUT: true; the input reads as it did. -/
def vfsSafeSpec : ChangeSpec := { name := "vfsSafe", fn := fun _ => fun
  | [d1, d2, d3, d4] => { results := [.lit (.bool true)], args := [d1, d2, d3, d4] }
  | _ => none }
def vfsSafeRow : OpenClaim := { program := "ytchlehaifnglpaadoor", sum := "f7fe316a985b43cd200ecfca885ece190bf10f64c1f27580c6fe3ccd45badf46", func := "parlance/parlancelaw01.VfsSafe", spec := "vfsSafe", inPlace := ["internal/bytealg.IndexByteString", "internal/bytealg.IndexString"], unfollowed := true, recurses := true, named := ["unicode/utf8.first", "unicode/utf8.acceptRanges", "internal/bytealg.MaxLen"], apart := false, laid := [("unicode/utf8.acceptRanges", laid_unicode_utf8_acceptRanges), ("unicode/utf8.first", laid_unicode_utf8_first)] }
def VfsSafeSaid : Prop := vfsSafeRow.holds Tryd.pinned (OpenSpec.ofChange vfsSafeSpec)

/-- ITS FALSE NEIGHBOUR: 'it returns false'. Refute it at one input. -/
def vfsSafeWrong : ChangeSpec := { name := "vfsSafe", fn := fun _ => fun
  | [d1, d2, d3, d4] => { results := [.lit (.bool false)], args := [d1, d2, d3, d4] }
  | _ => none }
def VfsSafeWrongFalsely : Prop := vfsSafeRow.holds Tryd.pinned (OpenSpec.ofChange vfsSafeWrong)

/-- 'parlancelaw01.VfsPower': WHATEVER THE INPUT: true; the input reads as it did. -/
def vfsPowerSpec : ChangeSpec := { name := "vfsPower", fn := fun _ => fun
  | [d1, d2] => { results := [.lit (.bool true)], args := [d1, d2] }
  | _ => none }
def vfsPowerRow : OpenClaim := { program := "ytchlehaifnglpaadoor", sum := "f7fe316a985b43cd200ecfca885ece190bf10f64c1f27580c6fe3ccd45badf46", func := "parlance/parlancelaw01.VfsPower", spec := "vfsPower", inPlace := ["internal/bytealg.IndexByteString", "internal/bytealg.IndexString"], unfollowed := true, recurses := true, named := ["unicode/utf8.first", "unicode/utf8.acceptRanges", "internal/bytealg.MaxLen"], apart := false, laid := [("unicode/utf8.acceptRanges", laid_unicode_utf8_acceptRanges), ("unicode/utf8.first", laid_unicode_utf8_first)] }
def VfsPowerSaid : Prop := vfsPowerRow.holds Tryd.pinned (OpenSpec.ofChange vfsPowerSpec)

/-- ITS FALSE NEIGHBOUR: 'it returns false'. Refute it at one input. -/
def vfsPowerWrong : ChangeSpec := { name := "vfsPower", fn := fun _ => fun
  | [d1, d2] => { results := [.lit (.bool false)], args := [d1, d2] }
  | _ => none }
def VfsPowerWrongFalsely : Prop := vfsPowerRow.holds Tryd.pinned (OpenSpec.ofChange vfsPowerWrong)

/- THE SECOND FORM. 'bulk': how many values and letters a reading holds, each counted each time it is reached (what is shared counts as often as it is met; a slice's spare places count too). A statement '..UptoSaid' is the law's where the arguments, and the package variables that the reading takes, are together of bulk at most 1048576: NARROWER than '..Said'. Prove '..Said' where nothing that the law and all that it calls make is longer than what came in: it says more and counts as full. Else prove '..UptoSaid'. A law counts once. -/
mutual
def uptoBulk {H : Type} : DataW H → Nat
  | .lit (.string bytes) => bytes.length + 1
  | .lit _ => 1
  | .nil => 1
  | .ptr d => uptoBulk d + 1
  | .slice elems spare => uptoBulkAll elems + uptoBulkAll spare + 1
  | .agg parts => uptoBulkAll parts + 1
  | .iface _ d => uptoBulk d + 1
  | .map entries => uptoBulkEntries entries + 1
  | .held _ => 1
def uptoBulkAll {H : Type} : List (DataW H) → Nat
  | [] => 0
  | d :: r => uptoBulk d + uptoBulkAll r
def uptoBulkEntries {H : Type} : List (Lit × DataW H) → Nat
  | [] => 0
  | x :: r => uptoBulkEntry x + uptoBulkEntries r
def uptoBulkEntry {H : Type} : Lit × DataW H → Nat
  | (.string bytes, d) => bytes.length + uptoBulk d + 1
  | (_, d) => uptoBulk d + 1
 end
def uptoSmall : (H : Type) → List (DataW H) → Bool := fun _ ds => decide (uptoBulkAll ds ≤ 1048576)
def OpenSpec.upto (s : _root_.Go.ChangeSpec) : _root_.Go.OpenSpec := { _root_.Go.OpenSpec.ofChange s with cond := some uptoSmall }

/-- 'parlancelaw01.VfsNames', WHERE WHAT IT READS IS OF BULK AT MOST 1048576: true; the input reads as it did. -/
def vfsNamesUptoRow : OpenClaim := { program := "ytchlehaifnglpaadoor", sum := "f7fe316a985b43cd200ecfca885ece190bf10f64c1f27580c6fe3ccd45badf46", func := "parlance/parlancelaw01.VfsNames", spec := "vfsNames", inPlace := ["internal/bytealg.IndexByteString", "internal/bytealg.IndexString"], unfollowed := true, recurses := true, named := ["unicode/utf8.first", "unicode/utf8.acceptRanges", "internal/bytealg.MaxLen"], apart := false, laid := [("unicode/utf8.acceptRanges", laid_unicode_utf8_acceptRanges), ("unicode/utf8.first", laid_unicode_utf8_first)], narrowed := true }
def VfsNamesUptoSaid : Prop := vfsNamesUptoRow.holds Tryd.pinned (OpenSpec.upto vfsNamesSpec)

/-- 'parlancelaw01.VfsMemory', WHERE WHAT IT READS IS OF BULK AT MOST 1048576: true; the input reads as it did. -/
def vfsMemoryUptoRow : OpenClaim := { program := "ytchlehaifnglpaadoor", sum := "f7fe316a985b43cd200ecfca885ece190bf10f64c1f27580c6fe3ccd45badf46", func := "parlance/parlancelaw01.VfsMemory", spec := "vfsMemory", inPlace := ["internal/bytealg.IndexByteString", "internal/bytealg.IndexString"], unfollowed := true, recurses := true, named := ["unicode/utf8.first", "unicode/utf8.acceptRanges", "internal/bytealg.MaxLen"], apart := false, laid := [("unicode/utf8.acceptRanges", laid_unicode_utf8_acceptRanges), ("unicode/utf8.first", laid_unicode_utf8_first)], narrowed := true }
def VfsMemoryUptoSaid : Prop := vfsMemoryUptoRow.holds Tryd.pinned (OpenSpec.upto vfsMemorySpec)

/-- 'parlancelaw01.VfsCrash', WHERE WHAT IT READS IS OF BULK AT MOST 1048576: true; the input reads as it did. -/
def vfsCrashUptoRow : OpenClaim := { program := "ytchlehaifnglpaadoor", sum := "f7fe316a985b43cd200ecfca885ece190bf10f64c1f27580c6fe3ccd45badf46", func := "parlance/parlancelaw01.VfsCrash", spec := "vfsCrash", inPlace := ["internal/bytealg.IndexByteString", "internal/bytealg.IndexString"], unfollowed := true, recurses := true, named := ["unicode/utf8.first", "unicode/utf8.acceptRanges", "internal/bytealg.MaxLen"], apart := false, laid := [("unicode/utf8.acceptRanges", laid_unicode_utf8_acceptRanges), ("unicode/utf8.first", laid_unicode_utf8_first)], narrowed := true }
def VfsCrashUptoSaid : Prop := vfsCrashUptoRow.holds Tryd.pinned (OpenSpec.upto vfsCrashSpec)

/-- 'parlancelaw01.VfsSafe', WHERE WHAT IT READS IS OF BULK AT MOST 1048576: true; the input reads as it did. -/
def vfsSafeUptoRow : OpenClaim := { program := "ytchlehaifnglpaadoor", sum := "f7fe316a985b43cd200ecfca885ece190bf10f64c1f27580c6fe3ccd45badf46", func := "parlance/parlancelaw01.VfsSafe", spec := "vfsSafe", inPlace := ["internal/bytealg.IndexByteString", "internal/bytealg.IndexString"], unfollowed := true, recurses := true, named := ["unicode/utf8.first", "unicode/utf8.acceptRanges", "internal/bytealg.MaxLen"], apart := false, laid := [("unicode/utf8.acceptRanges", laid_unicode_utf8_acceptRanges), ("unicode/utf8.first", laid_unicode_utf8_first)], narrowed := true }
def VfsSafeUptoSaid : Prop := vfsSafeUptoRow.holds Tryd.pinned (OpenSpec.upto vfsSafeSpec)

/-- 'parlancelaw01.VfsPower', WHERE WHAT IT READS IS OF BULK AT MOST 1048576: true; the input reads as it did. -/
def vfsPowerUptoRow : OpenClaim := { program := "ytchlehaifnglpaadoor", sum := "f7fe316a985b43cd200ecfca885ece190bf10f64c1f27580c6fe3ccd45badf46", func := "parlance/parlancelaw01.VfsPower", spec := "vfsPower", inPlace := ["internal/bytealg.IndexByteString", "internal/bytealg.IndexString"], unfollowed := true, recurses := true, named := ["unicode/utf8.first", "unicode/utf8.acceptRanges", "internal/bytealg.MaxLen"], apart := false, laid := [("unicode/utf8.acceptRanges", laid_unicode_utf8_acceptRanges), ("unicode/utf8.first", laid_unicode_utf8_first)], narrowed := true }
def VfsPowerUptoSaid : Prop := vfsPowerUptoRow.holds Tryd.pinned (OpenSpec.upto vfsPowerSpec)

end Rows
end Go.Proofs.YtchlehaifnglpaaDoor
