/-
  NARROWER THAN 'FOR EVERY INPUT', by the rows' own cells (each row's printed sentence says how): UtfTexts: laid · UtfJoined: laid · UtfFront: laid · UtfCounts: laid · UtfPlaces: laid · UtfThere: laid · UtfJoins: laid · UtfRound: laid.
  DERIVED. THE GIVEN ROWS OF THIS SEAT. 8 by the template 'for every input the law returns true; each argument reads behind the call as it read before'; 0 by the template 'total and deterministic' (their statements: YtflfkbnolehpgaaDoorTotals.lean).
  GIVEN WITH THE SEED: the statements are not yours to turn. If you find one false, say at which input.
  Laid BY PROGRAM, IN A SANDBOX (cutbox-rows.mjs): the forced cells as the released guide's own fill.sh prints them over the translation 443f447e64f7254b… (all of the seat's roots in one cut). By AI agents, Wed Nov 11 2026. No macro, syntax, notation, axiom, sorry.
-/
import Derived.Test.YtflfkbnolehpgaaDoorChecked
import GoSem.PinnedTables
import GoSem.Claim
import GoSem.ClaimJoined
import GoSem.ClaimMapViews
import Derived.JoinedTies
import Derived.KernelRfl
namespace Go.Proofs.YtflfkbnolehpgaaDoor
/- THE CELL 'sum', in the pinned program and in every row, IS THE sha256 OF THE DUMP (.gsa) THAT YtflfkbnolehpgaaDoorProg.lean LOADS. Nothing in Lean hashes anything: it is a label: what it is worth is what the hold of that sum in a sandbox is worth. -/
noncomputable def Tryd.pinned : Pinned := { name := "ytflfkbnolehpgaadoor", sum := "443f447e64f7254b185ef5eed21d45fb6b81ae224a4ea3cd7228409f375f3f65", checked := Tryd.checked }
namespace Rows
def none {H : Type} : Left H := { results := [], args := [] }

/- WHAT THE LISTED PACKAGE-LEVEL VARIABLES READ AS WHEN THE CALL BEGINS. Each datum BY PROGRAM (the guide's laid-datum.mjs) off the statement by which the dump's own 'gosem.cut.vars' lays the variable. In a bare row this is a premise. The card (YtflfkbnolehpgaaDoorCards.lean) ties it to the program's text. -/
def laid_unicode_utf8_acceptRanges {H : Type} : DataW H := .agg [.agg [.lit (.int .u8 128), .lit (.int .u8 191)], .agg [.lit (.int .u8 160), .lit (.int .u8 191)], .agg [.lit (.int .u8 128), .lit (.int .u8 159)], .agg [.lit (.int .u8 144), .lit (.int .u8 191)], .agg [.lit (.int .u8 128), .lit (.int .u8 143)], .agg [.lit (.int .u8 0), .lit (.int .u8 0)], .agg [.lit (.int .u8 0), .lit (.int .u8 0)], .agg [.lit (.int .u8 0), .lit (.int .u8 0)], .agg [.lit (.int .u8 0), .lit (.int .u8 0)], .agg [.lit (.int .u8 0), .lit (.int .u8 0)], .agg [.lit (.int .u8 0), .lit (.int .u8 0)], .agg [.lit (.int .u8 0), .lit (.int .u8 0)], .agg [.lit (.int .u8 0), .lit (.int .u8 0)], .agg [.lit (.int .u8 0), .lit (.int .u8 0)], .agg [.lit (.int .u8 0), .lit (.int .u8 0)], .agg [.lit (.int .u8 0), .lit (.int .u8 0)]]
/-- One of Go's own tables, pinned by name: the form's constant. -/
def laid_unicode_utf8_first : DataW Unit := Go.Pinned.utf8First

/-- 'parlancelaw04.UtfTexts': WHATEVER THE INPUT: true; the input reads as it did. -/
def utfTextsSpec : ChangeSpec := { name := "utfTexts", fn := fun _ => fun
  | [d] => { results := [.lit (.bool true)], args := [d] }
  | _ => none }
def utfTextsRow : OpenClaim := { program := "ytflfkbnolehpgaadoor", sum := "443f447e64f7254b185ef5eed21d45fb6b81ae224a4ea3cd7228409f375f3f65", func := "parlance/parlancelaw04.UtfTexts", spec := "utfTexts", unfollowed := true, recurses := true, named := ["unicode/utf8.first", "unicode/utf8.acceptRanges"], apart := false, laid := [("unicode/utf8.acceptRanges", laid_unicode_utf8_acceptRanges), ("unicode/utf8.first", laid_unicode_utf8_first)] }
def UtfTextsSaid : Prop := utfTextsRow.holds Tryd.pinned (OpenSpec.ofChange utfTextsSpec)

/-- ITS FALSE NEIGHBOUR: 'it returns false'. Refute it at one input. -/
def utfTextsWrong : ChangeSpec := { name := "utfTexts", fn := fun _ => fun
  | [d] => { results := [.lit (.bool false)], args := [d] }
  | _ => none }
def UtfTextsWrongFalsely : Prop := utfTextsRow.holds Tryd.pinned (OpenSpec.ofChange utfTextsWrong)

/-- 'parlancelaw04.UtfJoined': WHATEVER THE INPUT: true; the input reads as it did. -/
def utfJoinedSpec : ChangeSpec := { name := "utfJoined", fn := fun _ => fun
  | [d1, d2] => { results := [.lit (.bool true)], args := [d1, d2] }
  | _ => none }
def utfJoinedRow : OpenClaim := { program := "ytflfkbnolehpgaadoor", sum := "443f447e64f7254b185ef5eed21d45fb6b81ae224a4ea3cd7228409f375f3f65", func := "parlance/parlancelaw04.UtfJoined", spec := "utfJoined", unfollowed := true, recurses := true, named := ["unicode/utf8.first", "unicode/utf8.acceptRanges"], apart := false, laid := [("unicode/utf8.acceptRanges", laid_unicode_utf8_acceptRanges), ("unicode/utf8.first", laid_unicode_utf8_first)] }
def UtfJoinedSaid : Prop := utfJoinedRow.holds Tryd.pinned (OpenSpec.ofChange utfJoinedSpec)

/-- ITS FALSE NEIGHBOUR: 'it returns false'. Refute it at one input. -/
def utfJoinedWrong : ChangeSpec := { name := "utfJoined", fn := fun _ => fun
  | [d1, d2] => { results := [.lit (.bool false)], args := [d1, d2] }
  | _ => none }
def UtfJoinedWrongFalsely : Prop := utfJoinedRow.holds Tryd.pinned (OpenSpec.ofChange utfJoinedWrong)

/-- 'parlancelaw04.UtfFront': WHATEVER THE INPUT: true; the input reads as it did. -/
def utfFrontSpec : ChangeSpec := { name := "utfFront", fn := fun _ => fun
  | [d] => { results := [.lit (.bool true)], args := [d] }
  | _ => none }
def utfFrontRow : OpenClaim := { program := "ytflfkbnolehpgaadoor", sum := "443f447e64f7254b185ef5eed21d45fb6b81ae224a4ea3cd7228409f375f3f65", func := "parlance/parlancelaw04.UtfFront", spec := "utfFront", unfollowed := true, recurses := true, named := ["unicode/utf8.first", "unicode/utf8.acceptRanges"], apart := false, laid := [("unicode/utf8.acceptRanges", laid_unicode_utf8_acceptRanges), ("unicode/utf8.first", laid_unicode_utf8_first)] }
def UtfFrontSaid : Prop := utfFrontRow.holds Tryd.pinned (OpenSpec.ofChange utfFrontSpec)

/-- ITS FALSE NEIGHBOUR: 'it returns false'. Refute it at one input. -/
def utfFrontWrong : ChangeSpec := { name := "utfFront", fn := fun _ => fun
  | [d] => { results := [.lit (.bool false)], args := [d] }
  | _ => none }
def UtfFrontWrongFalsely : Prop := utfFrontRow.holds Tryd.pinned (OpenSpec.ofChange utfFrontWrong)

/-- 'parlancelaw04.UtfCounts': WHATEVER THE INPUT: true; the input reads as it did. -/
def utfCountsSpec : ChangeSpec := { name := "utfCounts", fn := fun _ => fun
  | [d] => { results := [.lit (.bool true)], args := [d] }
  | _ => none }
def utfCountsRow : OpenClaim := { program := "ytflfkbnolehpgaadoor", sum := "443f447e64f7254b185ef5eed21d45fb6b81ae224a4ea3cd7228409f375f3f65", func := "parlance/parlancelaw04.UtfCounts", spec := "utfCounts", unfollowed := true, recurses := true, named := ["unicode/utf8.first", "unicode/utf8.acceptRanges"], apart := false, laid := [("unicode/utf8.acceptRanges", laid_unicode_utf8_acceptRanges), ("unicode/utf8.first", laid_unicode_utf8_first)] }
def UtfCountsSaid : Prop := utfCountsRow.holds Tryd.pinned (OpenSpec.ofChange utfCountsSpec)

/-- ITS FALSE NEIGHBOUR: 'it returns false'. Refute it at one input. -/
def utfCountsWrong : ChangeSpec := { name := "utfCounts", fn := fun _ => fun
  | [d] => { results := [.lit (.bool false)], args := [d] }
  | _ => none }
def UtfCountsWrongFalsely : Prop := utfCountsRow.holds Tryd.pinned (OpenSpec.ofChange utfCountsWrong)

/-- 'parlancelaw04.UtfPlaces': WHATEVER THE INPUT: true; the input reads as it did. -/
def utfPlacesSpec : ChangeSpec := { name := "utfPlaces", fn := fun _ => fun
  | [d1, d2] => { results := [.lit (.bool true)], args := [d1, d2] }
  | _ => none }
def utfPlacesRow : OpenClaim := { program := "ytflfkbnolehpgaadoor", sum := "443f447e64f7254b185ef5eed21d45fb6b81ae224a4ea3cd7228409f375f3f65", func := "parlance/parlancelaw04.UtfPlaces", spec := "utfPlaces", unfollowed := true, recurses := true, named := ["unicode/utf8.first", "unicode/utf8.acceptRanges"], apart := false, laid := [("unicode/utf8.acceptRanges", laid_unicode_utf8_acceptRanges), ("unicode/utf8.first", laid_unicode_utf8_first)] }
def UtfPlacesSaid : Prop := utfPlacesRow.holds Tryd.pinned (OpenSpec.ofChange utfPlacesSpec)

/-- ITS FALSE NEIGHBOUR: 'it returns false'. Refute it at one input. -/
def utfPlacesWrong : ChangeSpec := { name := "utfPlaces", fn := fun _ => fun
  | [d1, d2] => { results := [.lit (.bool false)], args := [d1, d2] }
  | _ => none }
def UtfPlacesWrongFalsely : Prop := utfPlacesRow.holds Tryd.pinned (OpenSpec.ofChange utfPlacesWrong)

/-- 'parlancelaw04.UtfThere': WHATEVER THE INPUT: true; the input reads as it did. -/
def utfThereSpec : ChangeSpec := { name := "utfThere", fn := fun _ => fun
  | [d1, d2, d3] => { results := [.lit (.bool true)], args := [d1, d2, d3] }
  | _ => none }
def utfThereRow : OpenClaim := { program := "ytflfkbnolehpgaadoor", sum := "443f447e64f7254b185ef5eed21d45fb6b81ae224a4ea3cd7228409f375f3f65", func := "parlance/parlancelaw04.UtfThere", spec := "utfThere", unfollowed := true, recurses := true, named := ["unicode/utf8.first", "unicode/utf8.acceptRanges"], apart := false, laid := [("unicode/utf8.acceptRanges", laid_unicode_utf8_acceptRanges), ("unicode/utf8.first", laid_unicode_utf8_first)] }
def UtfThereSaid : Prop := utfThereRow.holds Tryd.pinned (OpenSpec.ofChange utfThereSpec)

/-- ITS FALSE NEIGHBOUR: 'it returns false'. Refute it at one input. -/
def utfThereWrong : ChangeSpec := { name := "utfThere", fn := fun _ => fun
  | [d1, d2, d3] => { results := [.lit (.bool false)], args := [d1, d2, d3] }
  | _ => none }
def UtfThereWrongFalsely : Prop := utfThereRow.holds Tryd.pinned (OpenSpec.ofChange utfThereWrong)

/-- 'parlancelaw04.UtfJoins': WHATEVER THE INPUT: true; the input reads as it did. -/
def utfJoinsSpec : ChangeSpec := { name := "utfJoins", fn := fun _ => fun
  | [d] => { results := [.lit (.bool true)], args := [d] }
  | _ => none }
def utfJoinsRow : OpenClaim := { program := "ytflfkbnolehpgaadoor", sum := "443f447e64f7254b185ef5eed21d45fb6b81ae224a4ea3cd7228409f375f3f65", func := "parlance/parlancelaw04.UtfJoins", spec := "utfJoins", unfollowed := true, recurses := true, named := ["unicode/utf8.first", "unicode/utf8.acceptRanges"], apart := false, laid := [("unicode/utf8.acceptRanges", laid_unicode_utf8_acceptRanges), ("unicode/utf8.first", laid_unicode_utf8_first)] }
def UtfJoinsSaid : Prop := utfJoinsRow.holds Tryd.pinned (OpenSpec.ofChange utfJoinsSpec)

/-- ITS FALSE NEIGHBOUR: 'it returns false'. Refute it at one input. -/
def utfJoinsWrong : ChangeSpec := { name := "utfJoins", fn := fun _ => fun
  | [d] => { results := [.lit (.bool false)], args := [d] }
  | _ => none }
def UtfJoinsWrongFalsely : Prop := utfJoinsRow.holds Tryd.pinned (OpenSpec.ofChange utfJoinsWrong)

/-- 'parlancelaw04.UtfRound': WHATEVER THE INPUT: true; the input reads as it did. -/
def utfRoundSpec : ChangeSpec := { name := "utfRound", fn := fun _ => fun
  | [d1, d2] => { results := [.lit (.bool true)], args := [d1, d2] }
  | _ => none }
def utfRoundRow : OpenClaim := { program := "ytflfkbnolehpgaadoor", sum := "443f447e64f7254b185ef5eed21d45fb6b81ae224a4ea3cd7228409f375f3f65", func := "parlance/parlancelaw04.UtfRound", spec := "utfRound", unfollowed := true, recurses := true, named := ["unicode/utf8.first", "unicode/utf8.acceptRanges"], apart := false, laid := [("unicode/utf8.acceptRanges", laid_unicode_utf8_acceptRanges), ("unicode/utf8.first", laid_unicode_utf8_first)] }
def UtfRoundSaid : Prop := utfRoundRow.holds Tryd.pinned (OpenSpec.ofChange utfRoundSpec)

/-- ITS FALSE NEIGHBOUR: 'it returns false'. Refute it at one input. -/
def utfRoundWrong : ChangeSpec := { name := "utfRound", fn := fun _ => fun
  | [d1, d2] => { results := [.lit (.bool false)], args := [d1, d2] }
  | _ => none }
def UtfRoundWrongFalsely : Prop := utfRoundRow.holds Tryd.pinned (OpenSpec.ofChange utfRoundWrong)

/- THE SECOND FORM. 'bulk': how many values and letters a reading holds, each counted each time it is reached (what is shared counts as often as it is met; a slice's spare places count too). A statement '..UptoSaid' is the law's where the arguments, and the package variables that the reading takes, are together of bulk at most 1048576: NARROWER than '..Said'. Prove '..Said' where nothing that the law and all that it calls make is longer than what came in: it says more and counts as full. Else prove '..UptoSaid'. A law counts once. -/
mutual
def uptoBulk {H : Type} : DataW H → Nat
  | .lit (.string bytes) => bytes.length + 1
  | .lit _ => 1
  | .nil => 1
  | .ptr d => uptoBulk d + 1
  | .slice elems spare => uptoBulkAll elems + uptoBulkAll spare + 1
  | .agg parts => uptoBulkAll parts + 1
  | .iface _ d => uptoBulk d + 1
  | .map entries => uptoBulkEntries entries + 1
  | .held _ => 1
def uptoBulkAll {H : Type} : List (DataW H) → Nat
  | [] => 0
  | d :: r => uptoBulk d + uptoBulkAll r
def uptoBulkEntries {H : Type} : List (Lit × DataW H) → Nat
  | [] => 0
  | x :: r => uptoBulkEntry x + uptoBulkEntries r
def uptoBulkEntry {H : Type} : Lit × DataW H → Nat
  | (.string bytes, d) => bytes.length + uptoBulk d + 1
  | (_, d) => uptoBulk d + 1
 end
def uptoSmall : (H : Type) → List (DataW H) → Bool := fun _ ds => decide (uptoBulkAll ds ≤ 1048576)
def OpenSpec.upto (s : _root_.Go.ChangeSpec) : _root_.Go.OpenSpec := { _root_.Go.OpenSpec.ofChange s with cond := some uptoSmall }

/-- 'parlancelaw04.UtfTexts', WHERE WHAT IT READS IS OF BULK AT MOST 1048576: true; the input reads as it did. -/
def utfTextsUptoRow : OpenClaim := { program := "ytflfkbnolehpgaadoor", sum := "443f447e64f7254b185ef5eed21d45fb6b81ae224a4ea3cd7228409f375f3f65", func := "parlance/parlancelaw04.UtfTexts", spec := "utfTexts", unfollowed := true, recurses := true, named := ["unicode/utf8.first", "unicode/utf8.acceptRanges"], apart := false, laid := [("unicode/utf8.acceptRanges", laid_unicode_utf8_acceptRanges), ("unicode/utf8.first", laid_unicode_utf8_first)], narrowed := true }
def UtfTextsUptoSaid : Prop := utfTextsUptoRow.holds Tryd.pinned (OpenSpec.upto utfTextsSpec)

/-- 'parlancelaw04.UtfJoined', WHERE WHAT IT READS IS OF BULK AT MOST 1048576: true; the input reads as it did. -/
def utfJoinedUptoRow : OpenClaim := { program := "ytflfkbnolehpgaadoor", sum := "443f447e64f7254b185ef5eed21d45fb6b81ae224a4ea3cd7228409f375f3f65", func := "parlance/parlancelaw04.UtfJoined", spec := "utfJoined", unfollowed := true, recurses := true, named := ["unicode/utf8.first", "unicode/utf8.acceptRanges"], apart := false, laid := [("unicode/utf8.acceptRanges", laid_unicode_utf8_acceptRanges), ("unicode/utf8.first", laid_unicode_utf8_first)], narrowed := true }
def UtfJoinedUptoSaid : Prop := utfJoinedUptoRow.holds Tryd.pinned (OpenSpec.upto utfJoinedSpec)

/-- 'parlancelaw04.UtfFront', WHERE WHAT IT READS IS OF BULK AT MOST 1048576: true; the input reads as it did. -/
def utfFrontUptoRow : OpenClaim := { program := "ytflfkbnolehpgaadoor", sum := "443f447e64f7254b185ef5eed21d45fb6b81ae224a4ea3cd7228409f375f3f65", func := "parlance/parlancelaw04.UtfFront", spec := "utfFront", unfollowed := true, recurses := true, named := ["unicode/utf8.first", "unicode/utf8.acceptRanges"], apart := false, laid := [("unicode/utf8.acceptRanges", laid_unicode_utf8_acceptRanges), ("unicode/utf8.first", laid_unicode_utf8_first)], narrowed := true }
def UtfFrontUptoSaid : Prop := utfFrontUptoRow.holds Tryd.pinned (OpenSpec.upto utfFrontSpec)

/-- 'parlancelaw04.UtfCounts', WHERE WHAT IT READS IS OF BULK AT MOST 1048576: true; the input reads as it did. -/
def utfCountsUptoRow : OpenClaim := { program := "ytflfkbnolehpgaadoor", sum := "443f447e64f7254b185ef5eed21d45fb6b81ae224a4ea3cd7228409f375f3f65", func := "parlance/parlancelaw04.UtfCounts", spec := "utfCounts", unfollowed := true, recurses := true, named := ["unicode/utf8.first", "unicode/utf8.acceptRanges"], apart := false, laid := [("unicode/utf8.acceptRanges", laid_unicode_utf8_acceptRanges), ("unicode/utf8.first", laid_unicode_utf8_first)], narrowed := true }
def UtfCountsUptoSaid : Prop := utfCountsUptoRow.holds Tryd.pinned (OpenSpec.upto utfCountsSpec)

/-- 'parlancelaw04.UtfPlaces', WHERE WHAT IT READS IS OF BULK AT MOST 1048576: true; the input reads as it did. -/
def utfPlacesUptoRow : OpenClaim := { program := "ytflfkbnolehpgaadoor", sum := "443f447e64f7254b185ef5eed21d45fb6b81ae224a4ea3cd7228409f375f3f65", func := "parlance/parlancelaw04.UtfPlaces", spec := "utfPlaces", unfollowed := true, recurses := true, named := ["unicode/utf8.first", "unicode/utf8.acceptRanges"], apart := false, laid := [("unicode/utf8.acceptRanges", laid_unicode_utf8_acceptRanges), ("unicode/utf8.first", laid_unicode_utf8_first)], narrowed := true }
def UtfPlacesUptoSaid : Prop := utfPlacesUptoRow.holds Tryd.pinned (OpenSpec.upto utfPlacesSpec)

/-- 'parlancelaw04.UtfThere', WHERE WHAT IT READS IS OF BULK AT MOST 1048576: true; the input reads as it did. -/
def utfThereUptoRow : OpenClaim := { program := "ytflfkbnolehpgaadoor", sum := "443f447e64f7254b185ef5eed21d45fb6b81ae224a4ea3cd7228409f375f3f65", func := "parlance/parlancelaw04.UtfThere", spec := "utfThere", unfollowed := true, recurses := true, named := ["unicode/utf8.first", "unicode/utf8.acceptRanges"], apart := false, laid := [("unicode/utf8.acceptRanges", laid_unicode_utf8_acceptRanges), ("unicode/utf8.first", laid_unicode_utf8_first)], narrowed := true }
def UtfThereUptoSaid : Prop := utfThereUptoRow.holds Tryd.pinned (OpenSpec.upto utfThereSpec)

/-- 'parlancelaw04.UtfJoins', WHERE WHAT IT READS IS OF BULK AT MOST 1048576: true; the input reads as it did. -/
def utfJoinsUptoRow : OpenClaim := { program := "ytflfkbnolehpgaadoor", sum := "443f447e64f7254b185ef5eed21d45fb6b81ae224a4ea3cd7228409f375f3f65", func := "parlance/parlancelaw04.UtfJoins", spec := "utfJoins", unfollowed := true, recurses := true, named := ["unicode/utf8.first", "unicode/utf8.acceptRanges"], apart := false, laid := [("unicode/utf8.acceptRanges", laid_unicode_utf8_acceptRanges), ("unicode/utf8.first", laid_unicode_utf8_first)], narrowed := true }
def UtfJoinsUptoSaid : Prop := utfJoinsUptoRow.holds Tryd.pinned (OpenSpec.upto utfJoinsSpec)

/-- 'parlancelaw04.UtfRound', WHERE WHAT IT READS IS OF BULK AT MOST 1048576: true; the input reads as it did. -/
def utfRoundUptoRow : OpenClaim := { program := "ytflfkbnolehpgaadoor", sum := "443f447e64f7254b185ef5eed21d45fb6b81ae224a4ea3cd7228409f375f3f65", func := "parlance/parlancelaw04.UtfRound", spec := "utfRound", unfollowed := true, recurses := true, named := ["unicode/utf8.first", "unicode/utf8.acceptRanges"], apart := false, laid := [("unicode/utf8.acceptRanges", laid_unicode_utf8_acceptRanges), ("unicode/utf8.first", laid_unicode_utf8_first)], narrowed := true }
def UtfRoundUptoSaid : Prop := utfRoundUptoRow.holds Tryd.pinned (OpenSpec.upto utfRoundSpec)

end Rows
end Go.Proofs.YtflfkbnolehpgaaDoor
