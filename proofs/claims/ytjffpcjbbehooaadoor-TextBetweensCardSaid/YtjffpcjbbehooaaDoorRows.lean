/-
  NARROWER THAN 'FOR EVERY INPUT', by the rows' own cells (each row's printed sentence says how): TextApplies: laid · TextRows: laid · TextLines: laid · TextThere: laid · TextPlaces: laid · TextBetweens: laid · TextFront: laid · TextMade: laid.
  DERIVED. THE GIVEN ROWS OF THIS SEAT. 8 by the template 'for every input the law returns true; each argument reads behind the call as it read before'; 0 by the template 'total and deterministic' (their statements: YtjffpcjbbehooaaDoorTotals.lean).
  GIVEN WITH THE SEED: the statements are not yours to turn. If you find one false, say at which input.
  Laid BY PROGRAM, IN A SANDBOX (cutbox-rows.mjs): the forced cells as the released guide's own fill.sh prints them over the translation 513c1d90d2f2d5e0… (all of the seat's roots in one cut). By AI agents, Wed Nov 11 2026. No macro, syntax, notation, axiom, sorry.
-/
import Derived.Test.YtjffpcjbbehooaaDoorChecked
import GoSem.PinnedTables
import GoSem.Claim
import GoSem.ClaimJoined
import GoSem.ClaimMapViews
import Derived.JoinedTies
import Derived.KernelRfl
namespace Go.Proofs.YtjffpcjbbehooaaDoor
/- THE CELL 'sum', in the pinned program and in every row, IS THE sha256 OF THE DUMP (.gsa) THAT YtjffpcjbbehooaaDoorProg.lean LOADS. Nothing in Lean hashes anything: it is a label: what it is worth is what the hold of that sum in a sandbox is worth. -/
noncomputable def Tryd.pinned : Pinned := { name := "ytjffpcjbbehooaadoor", sum := "513c1d90d2f2d5e002843991a3a6f148660a363a264b8ef2a0f4147a542504f7", checked := Tryd.checked }
namespace Rows
def none {H : Type} : Left H := { results := [], args := [] }

/- WHAT THE LISTED PACKAGE-LEVEL VARIABLES READ AS WHEN THE CALL BEGINS. Each datum BY PROGRAM (the guide's laid-datum.mjs) off the statement by which the dump's own 'gosem.cut.vars' lays the variable. In a bare row this is a premise. The card (YtjffpcjbbehooaaDoorCards.lean) ties it to the program's text. -/
def laid_unicode_utf8_acceptRanges {H : Type} : DataW H := .agg [.agg [.lit (.int .u8 128), .lit (.int .u8 191)], .agg [.lit (.int .u8 160), .lit (.int .u8 191)], .agg [.lit (.int .u8 128), .lit (.int .u8 159)], .agg [.lit (.int .u8 144), .lit (.int .u8 191)], .agg [.lit (.int .u8 128), .lit (.int .u8 143)], .agg [.lit (.int .u8 0), .lit (.int .u8 0)], .agg [.lit (.int .u8 0), .lit (.int .u8 0)], .agg [.lit (.int .u8 0), .lit (.int .u8 0)], .agg [.lit (.int .u8 0), .lit (.int .u8 0)], .agg [.lit (.int .u8 0), .lit (.int .u8 0)], .agg [.lit (.int .u8 0), .lit (.int .u8 0)], .agg [.lit (.int .u8 0), .lit (.int .u8 0)], .agg [.lit (.int .u8 0), .lit (.int .u8 0)], .agg [.lit (.int .u8 0), .lit (.int .u8 0)], .agg [.lit (.int .u8 0), .lit (.int .u8 0)], .agg [.lit (.int .u8 0), .lit (.int .u8 0)]]
/-- One of Go's own tables, pinned by name: the form's constant. -/
def laid_unicode_utf8_first : DataW Unit := Go.Pinned.utf8First

/-- 'parlancelaw07.TextApplies': WHATEVER THE INPUT: true; the input reads as it did. -/
def textAppliesSpec : ChangeSpec := { name := "textApplies", fn := fun _ => fun
  | [d1, d2] => { results := [.lit (.bool true)], args := [d1, d2] }
  | _ => none }
def textAppliesRow : OpenClaim := { program := "ytjffpcjbbehooaadoor", sum := "513c1d90d2f2d5e002843991a3a6f148660a363a264b8ef2a0f4147a542504f7", func := "parlance/parlancelaw07.TextApplies", spec := "textApplies", inPlace := ["internal/bytealg.IndexByteString", "internal/bytealg.IndexString"], unfollowed := true, recurses := true, named := ["unicode/utf8.first", "unicode/utf8.acceptRanges", "internal/bytealg.MaxLen"], apart := false, laid := [("unicode/utf8.acceptRanges", laid_unicode_utf8_acceptRanges), ("unicode/utf8.first", laid_unicode_utf8_first)] }
def TextAppliesSaid : Prop := textAppliesRow.holds Tryd.pinned (OpenSpec.ofChange textAppliesSpec)

/-- ITS FALSE NEIGHBOUR: 'it returns false'. Refute it at one input. -/
def textAppliesWrong : ChangeSpec := { name := "textApplies", fn := fun _ => fun
  | [d1, d2] => { results := [.lit (.bool false)], args := [d1, d2] }
  | _ => none }
def TextAppliesWrongFalsely : Prop := textAppliesRow.holds Tryd.pinned (OpenSpec.ofChange textAppliesWrong)

/-- 'parlancelaw07.TextRows': WHATEVER THE INPUT: true; the input reads as it did. -/
def textRowsSpec : ChangeSpec := { name := "textRows", fn := fun _ => fun
  | [d1, d2, d3] => { results := [.lit (.bool true)], args := [d1, d2, d3] }
  | _ => none }
def textRowsRow : OpenClaim := { program := "ytjffpcjbbehooaadoor", sum := "513c1d90d2f2d5e002843991a3a6f148660a363a264b8ef2a0f4147a542504f7", func := "parlance/parlancelaw07.TextRows", spec := "textRows", inPlace := ["internal/bytealg.IndexByteString", "internal/bytealg.IndexString"], unfollowed := true, recurses := true, named := ["unicode/utf8.first", "unicode/utf8.acceptRanges", "internal/bytealg.MaxLen"], apart := false, laid := [("unicode/utf8.acceptRanges", laid_unicode_utf8_acceptRanges), ("unicode/utf8.first", laid_unicode_utf8_first)] }
def TextRowsSaid : Prop := textRowsRow.holds Tryd.pinned (OpenSpec.ofChange textRowsSpec)

/-- ITS FALSE NEIGHBOUR: 'it returns false'. Refute it at one input. -/
def textRowsWrong : ChangeSpec := { name := "textRows", fn := fun _ => fun
  | [d1, d2, d3] => { results := [.lit (.bool false)], args := [d1, d2, d3] }
  | _ => none }
def TextRowsWrongFalsely : Prop := textRowsRow.holds Tryd.pinned (OpenSpec.ofChange textRowsWrong)

/-- 'parlancelaw07.TextLines': WHATEVER THE INPUT: true; the input reads as it did. -/
def textLinesSpec : ChangeSpec := { name := "textLines", fn := fun _ => fun
  | [d1, d2] => { results := [.lit (.bool true)], args := [d1, d2] }
  | _ => none }
def textLinesRow : OpenClaim := { program := "ytjffpcjbbehooaadoor", sum := "513c1d90d2f2d5e002843991a3a6f148660a363a264b8ef2a0f4147a542504f7", func := "parlance/parlancelaw07.TextLines", spec := "textLines", inPlace := ["internal/bytealg.IndexByteString", "internal/bytealg.IndexString", "internal/bytealg.CountString"], unfollowed := true, recurses := true, named := ["unicode/utf8.first", "unicode/utf8.acceptRanges", "internal/bytealg.MaxLen"], apart := false, laid := [("unicode/utf8.acceptRanges", laid_unicode_utf8_acceptRanges), ("unicode/utf8.first", laid_unicode_utf8_first)] }
def TextLinesSaid : Prop := textLinesRow.holds Tryd.pinned (OpenSpec.ofChange textLinesSpec)

/-- ITS FALSE NEIGHBOUR: 'it returns false'. Refute it at one input. -/
def textLinesWrong : ChangeSpec := { name := "textLines", fn := fun _ => fun
  | [d1, d2] => { results := [.lit (.bool false)], args := [d1, d2] }
  | _ => none }
def TextLinesWrongFalsely : Prop := textLinesRow.holds Tryd.pinned (OpenSpec.ofChange textLinesWrong)

/-- 'parlancelaw07.TextThere': WHATEVER THE INPUT: true; the input reads as it did. -/
def textThereSpec : ChangeSpec := { name := "textThere", fn := fun _ => fun
  | [d1, d2, d3, d4, d5] => { results := [.lit (.bool true)], args := [d1, d2, d3, d4, d5] }
  | _ => none }
def textThereRow : OpenClaim := { program := "ytjffpcjbbehooaadoor", sum := "513c1d90d2f2d5e002843991a3a6f148660a363a264b8ef2a0f4147a542504f7", func := "parlance/parlancelaw07.TextThere", spec := "textThere", inPlace := ["internal/bytealg.IndexByteString", "internal/bytealg.IndexString", "internal/bytealg.CountString"], unfollowed := true, recurses := true, named := ["unicode/utf8.first", "unicode/utf8.acceptRanges", "internal/bytealg.MaxLen"], apart := false, laid := [("unicode/utf8.acceptRanges", laid_unicode_utf8_acceptRanges), ("unicode/utf8.first", laid_unicode_utf8_first)] }
def TextThereSaid : Prop := textThereRow.holds Tryd.pinned (OpenSpec.ofChange textThereSpec)

/-- ITS FALSE NEIGHBOUR: 'it returns false'. Refute it at one input. -/
def textThereWrong : ChangeSpec := { name := "textThere", fn := fun _ => fun
  | [d1, d2, d3, d4, d5] => { results := [.lit (.bool false)], args := [d1, d2, d3, d4, d5] }
  | _ => none }
def TextThereWrongFalsely : Prop := textThereRow.holds Tryd.pinned (OpenSpec.ofChange textThereWrong)

/-- 'parlancelaw07.TextPlaces': WHATEVER THE INPUT: true; the input reads as it did. -/
def textPlacesSpec : ChangeSpec := { name := "textPlaces", fn := fun _ => fun
  | [d1, d2, d3, d4] => { results := [.lit (.bool true)], args := [d1, d2, d3, d4] }
  | _ => none }
def textPlacesRow : OpenClaim := { program := "ytjffpcjbbehooaadoor", sum := "513c1d90d2f2d5e002843991a3a6f148660a363a264b8ef2a0f4147a542504f7", func := "parlance/parlancelaw07.TextPlaces", spec := "textPlaces", inPlace := ["internal/bytealg.IndexByteString", "internal/bytealg.IndexString", "internal/bytealg.CountString"], unfollowed := true, recurses := true, named := ["unicode/utf8.first", "unicode/utf8.acceptRanges", "internal/bytealg.MaxLen"], apart := false, laid := [("unicode/utf8.acceptRanges", laid_unicode_utf8_acceptRanges), ("unicode/utf8.first", laid_unicode_utf8_first)] }
def TextPlacesSaid : Prop := textPlacesRow.holds Tryd.pinned (OpenSpec.ofChange textPlacesSpec)

/-- ITS FALSE NEIGHBOUR: 'it returns false'. Refute it at one input. -/
def textPlacesWrong : ChangeSpec := { name := "textPlaces", fn := fun _ => fun
  | [d1, d2, d3, d4] => { results := [.lit (.bool false)], args := [d1, d2, d3, d4] }
  | _ => none }
def TextPlacesWrongFalsely : Prop := textPlacesRow.holds Tryd.pinned (OpenSpec.ofChange textPlacesWrong)

/-- 'parlancelaw07.TextBetweens': WHATEVER THE INPUT: true; the input reads as it did. -/
def textBetweensSpec : ChangeSpec := { name := "textBetweens", fn := fun _ => fun
  | [d1, d2] => { results := [.lit (.bool true)], args := [d1, d2] }
  | _ => none }
def textBetweensRow : OpenClaim := { program := "ytjffpcjbbehooaadoor", sum := "513c1d90d2f2d5e002843991a3a6f148660a363a264b8ef2a0f4147a542504f7", func := "parlance/parlancelaw07.TextBetweens", spec := "textBetweens", inPlace := ["internal/bytealg.IndexByteString", "internal/bytealg.IndexString", "internal/bytealg.CountString"], unfollowed := true, recurses := true, named := ["unicode/utf8.first", "unicode/utf8.acceptRanges", "internal/bytealg.MaxLen"], apart := false, laid := [("unicode/utf8.acceptRanges", laid_unicode_utf8_acceptRanges), ("unicode/utf8.first", laid_unicode_utf8_first)] }
def TextBetweensSaid : Prop := textBetweensRow.holds Tryd.pinned (OpenSpec.ofChange textBetweensSpec)

/-- ITS FALSE NEIGHBOUR: 'it returns false'. Refute it at one input. -/
def textBetweensWrong : ChangeSpec := { name := "textBetweens", fn := fun _ => fun
  | [d1, d2] => { results := [.lit (.bool false)], args := [d1, d2] }
  | _ => none }
def TextBetweensWrongFalsely : Prop := textBetweensRow.holds Tryd.pinned (OpenSpec.ofChange textBetweensWrong)

/-- 'parlancelaw07.TextFront': WHATEVER THE INPUT: true; the input reads as it did. -/
def textFrontSpec : ChangeSpec := { name := "textFront", fn := fun _ => fun
  | [d1, d2, d3] => { results := [.lit (.bool true)], args := [d1, d2, d3] }
  | _ => none }
def textFrontRow : OpenClaim := { program := "ytjffpcjbbehooaadoor", sum := "513c1d90d2f2d5e002843991a3a6f148660a363a264b8ef2a0f4147a542504f7", func := "parlance/parlancelaw07.TextFront", spec := "textFront", inPlace := ["internal/bytealg.IndexByteString", "internal/bytealg.IndexString", "internal/bytealg.CountString"], unfollowed := true, recurses := true, named := ["unicode/utf8.first", "unicode/utf8.acceptRanges", "internal/bytealg.MaxLen"], apart := false, laid := [("unicode/utf8.acceptRanges", laid_unicode_utf8_acceptRanges), ("unicode/utf8.first", laid_unicode_utf8_first)] }
def TextFrontSaid : Prop := textFrontRow.holds Tryd.pinned (OpenSpec.ofChange textFrontSpec)

/-- ITS FALSE NEIGHBOUR: 'it returns false'. Refute it at one input. -/
def textFrontWrong : ChangeSpec := { name := "textFront", fn := fun _ => fun
  | [d1, d2, d3] => { results := [.lit (.bool false)], args := [d1, d2, d3] }
  | _ => none }
def TextFrontWrongFalsely : Prop := textFrontRow.holds Tryd.pinned (OpenSpec.ofChange textFrontWrong)

/-- 'parlancelaw07.TextMade': WHATEVER THE INPUT: true; the input reads as it did. -/
def textMadeSpec : ChangeSpec := { name := "textMade", fn := fun _ => fun
  | [d1, d2] => { results := [.lit (.bool true)], args := [d1, d2] }
  | _ => none }
def textMadeRow : OpenClaim := { program := "ytjffpcjbbehooaadoor", sum := "513c1d90d2f2d5e002843991a3a6f148660a363a264b8ef2a0f4147a542504f7", func := "parlance/parlancelaw07.TextMade", spec := "textMade", inPlace := ["internal/bytealg.IndexByteString", "internal/bytealg.IndexString", "internal/bytealg.CountString"], unfollowed := true, recurses := true, named := ["unicode/utf8.first", "unicode/utf8.acceptRanges", "internal/bytealg.MaxLen"], apart := false, laid := [("unicode/utf8.acceptRanges", laid_unicode_utf8_acceptRanges), ("unicode/utf8.first", laid_unicode_utf8_first)] }
def TextMadeSaid : Prop := textMadeRow.holds Tryd.pinned (OpenSpec.ofChange textMadeSpec)

/-- ITS FALSE NEIGHBOUR: 'it returns false'. Refute it at one input. -/
def textMadeWrong : ChangeSpec := { name := "textMade", fn := fun _ => fun
  | [d1, d2] => { results := [.lit (.bool false)], args := [d1, d2] }
  | _ => none }
def TextMadeWrongFalsely : Prop := textMadeRow.holds Tryd.pinned (OpenSpec.ofChange textMadeWrong)

/- THE SECOND FORM. 'bulk': how many values and letters a reading holds, each counted each time it is reached (what is shared counts as often as it is met; a slice's spare places count too). A statement '..UptoSaid' is the law's where the arguments, and the package variables that the reading takes, are together of bulk at most 1048576: NARROWER than '..Said'. Prove '..Said' where nothing that the law and all that it calls make is longer than what came in: it says more and counts as full. Else prove '..UptoSaid'. A law counts once. -/
mutual
def uptoBulk {H : Type} : DataW H → Nat
  | .lit (.string bytes) => bytes.length + 1
  | .lit _ => 1
  | .nil => 1
  | .ptr d => uptoBulk d + 1
  | .slice elems spare => uptoBulkAll elems + uptoBulkAll spare + 1
  | .agg parts => uptoBulkAll parts + 1
  | .iface _ d => uptoBulk d + 1
  | .map entries => uptoBulkEntries entries + 1
  | .held _ => 1
def uptoBulkAll {H : Type} : List (DataW H) → Nat
  | [] => 0
  | d :: r => uptoBulk d + uptoBulkAll r
def uptoBulkEntries {H : Type} : List (Lit × DataW H) → Nat
  | [] => 0
  | x :: r => uptoBulkEntry x + uptoBulkEntries r
def uptoBulkEntry {H : Type} : Lit × DataW H → Nat
  | (.string bytes, d) => bytes.length + uptoBulk d + 1
  | (_, d) => uptoBulk d + 1
 end
def uptoSmall : (H : Type) → List (DataW H) → Bool := fun _ ds => decide (uptoBulkAll ds ≤ 1048576)
def OpenSpec.upto (s : _root_.Go.ChangeSpec) : _root_.Go.OpenSpec := { _root_.Go.OpenSpec.ofChange s with cond := some uptoSmall }

/-- 'parlancelaw07.TextApplies', WHERE WHAT IT READS IS OF BULK AT MOST 1048576: true; the input reads as it did. -/
def textAppliesUptoRow : OpenClaim := { program := "ytjffpcjbbehooaadoor", sum := "513c1d90d2f2d5e002843991a3a6f148660a363a264b8ef2a0f4147a542504f7", func := "parlance/parlancelaw07.TextApplies", spec := "textApplies", inPlace := ["internal/bytealg.IndexByteString", "internal/bytealg.IndexString"], unfollowed := true, recurses := true, named := ["unicode/utf8.first", "unicode/utf8.acceptRanges", "internal/bytealg.MaxLen"], apart := false, laid := [("unicode/utf8.acceptRanges", laid_unicode_utf8_acceptRanges), ("unicode/utf8.first", laid_unicode_utf8_first)], narrowed := true }
def TextAppliesUptoSaid : Prop := textAppliesUptoRow.holds Tryd.pinned (OpenSpec.upto textAppliesSpec)

/-- 'parlancelaw07.TextRows', WHERE WHAT IT READS IS OF BULK AT MOST 1048576: true; the input reads as it did. -/
def textRowsUptoRow : OpenClaim := { program := "ytjffpcjbbehooaadoor", sum := "513c1d90d2f2d5e002843991a3a6f148660a363a264b8ef2a0f4147a542504f7", func := "parlance/parlancelaw07.TextRows", spec := "textRows", inPlace := ["internal/bytealg.IndexByteString", "internal/bytealg.IndexString"], unfollowed := true, recurses := true, named := ["unicode/utf8.first", "unicode/utf8.acceptRanges", "internal/bytealg.MaxLen"], apart := false, laid := [("unicode/utf8.acceptRanges", laid_unicode_utf8_acceptRanges), ("unicode/utf8.first", laid_unicode_utf8_first)], narrowed := true }
def TextRowsUptoSaid : Prop := textRowsUptoRow.holds Tryd.pinned (OpenSpec.upto textRowsSpec)

/-- 'parlancelaw07.TextLines', WHERE WHAT IT READS IS OF BULK AT MOST 1048576: true; the input reads as it did. -/
def textLinesUptoRow : OpenClaim := { program := "ytjffpcjbbehooaadoor", sum := "513c1d90d2f2d5e002843991a3a6f148660a363a264b8ef2a0f4147a542504f7", func := "parlance/parlancelaw07.TextLines", spec := "textLines", inPlace := ["internal/bytealg.IndexByteString", "internal/bytealg.IndexString", "internal/bytealg.CountString"], unfollowed := true, recurses := true, named := ["unicode/utf8.first", "unicode/utf8.acceptRanges", "internal/bytealg.MaxLen"], apart := false, laid := [("unicode/utf8.acceptRanges", laid_unicode_utf8_acceptRanges), ("unicode/utf8.first", laid_unicode_utf8_first)], narrowed := true }
def TextLinesUptoSaid : Prop := textLinesUptoRow.holds Tryd.pinned (OpenSpec.upto textLinesSpec)

/-- 'parlancelaw07.TextThere', WHERE WHAT IT READS IS OF BULK AT MOST 1048576: true; the input reads as it did. -/
def textThereUptoRow : OpenClaim := { program := "ytjffpcjbbehooaadoor", sum := "513c1d90d2f2d5e002843991a3a6f148660a363a264b8ef2a0f4147a542504f7", func := "parlance/parlancelaw07.TextThere", spec := "textThere", inPlace := ["internal/bytealg.IndexByteString", "internal/bytealg.IndexString", "internal/bytealg.CountString"], unfollowed := true, recurses := true, named := ["unicode/utf8.first", "unicode/utf8.acceptRanges", "internal/bytealg.MaxLen"], apart := false, laid := [("unicode/utf8.acceptRanges", laid_unicode_utf8_acceptRanges), ("unicode/utf8.first", laid_unicode_utf8_first)], narrowed := true }
def TextThereUptoSaid : Prop := textThereUptoRow.holds Tryd.pinned (OpenSpec.upto textThereSpec)

/-- 'parlancelaw07.TextPlaces', WHERE WHAT IT READS IS OF BULK AT MOST 1048576: true; the input reads as it did. -/
def textPlacesUptoRow : OpenClaim := { program := "ytjffpcjbbehooaadoor", sum := "513c1d90d2f2d5e002843991a3a6f148660a363a264b8ef2a0f4147a542504f7", func := "parlance/parlancelaw07.TextPlaces", spec := "textPlaces", inPlace := ["internal/bytealg.IndexByteString", "internal/bytealg.IndexString", "internal/bytealg.CountString"], unfollowed := true, recurses := true, named := ["unicode/utf8.first", "unicode/utf8.acceptRanges", "internal/bytealg.MaxLen"], apart := false, laid := [("unicode/utf8.acceptRanges", laid_unicode_utf8_acceptRanges), ("unicode/utf8.first", laid_unicode_utf8_first)], narrowed := true }
def TextPlacesUptoSaid : Prop := textPlacesUptoRow.holds Tryd.pinned (OpenSpec.upto textPlacesSpec)

/-- 'parlancelaw07.TextBetweens', WHERE WHAT IT READS IS OF BULK AT MOST 1048576: true; the input reads as it did. -/
def textBetweensUptoRow : OpenClaim := { program := "ytjffpcjbbehooaadoor", sum := "513c1d90d2f2d5e002843991a3a6f148660a363a264b8ef2a0f4147a542504f7", func := "parlance/parlancelaw07.TextBetweens", spec := "textBetweens", inPlace := ["internal/bytealg.IndexByteString", "internal/bytealg.IndexString", "internal/bytealg.CountString"], unfollowed := true, recurses := true, named := ["unicode/utf8.first", "unicode/utf8.acceptRanges", "internal/bytealg.MaxLen"], apart := false, laid := [("unicode/utf8.acceptRanges", laid_unicode_utf8_acceptRanges), ("unicode/utf8.first", laid_unicode_utf8_first)], narrowed := true }
def TextBetweensUptoSaid : Prop := textBetweensUptoRow.holds Tryd.pinned (OpenSpec.upto textBetweensSpec)

/-- 'parlancelaw07.TextFront', WHERE WHAT IT READS IS OF BULK AT MOST 1048576: true; the input reads as it did. -/
def textFrontUptoRow : OpenClaim := { program := "ytjffpcjbbehooaadoor", sum := "513c1d90d2f2d5e002843991a3a6f148660a363a264b8ef2a0f4147a542504f7", func := "parlance/parlancelaw07.TextFront", spec := "textFront", inPlace := ["internal/bytealg.IndexByteString", "internal/bytealg.IndexString", "internal/bytealg.CountString"], unfollowed := true, recurses := true, named := ["unicode/utf8.first", "unicode/utf8.acceptRanges", "internal/bytealg.MaxLen"], apart := false, laid := [("unicode/utf8.acceptRanges", laid_unicode_utf8_acceptRanges), ("unicode/utf8.first", laid_unicode_utf8_first)], narrowed := true }
def TextFrontUptoSaid : Prop := textFrontUptoRow.holds Tryd.pinned (OpenSpec.upto textFrontSpec)

/-- 'parlancelaw07.TextMade', WHERE WHAT IT READS IS OF BULK AT MOST 1048576: true; the input reads as it did. -/
def textMadeUptoRow : OpenClaim := { program := "ytjffpcjbbehooaadoor", sum := "513c1d90d2f2d5e002843991a3a6f148660a363a264b8ef2a0f4147a542504f7", func := "parlance/parlancelaw07.TextMade", spec := "textMade", inPlace := ["internal/bytealg.IndexByteString", "internal/bytealg.IndexString", "internal/bytealg.CountString"], unfollowed := true, recurses := true, named := ["unicode/utf8.first", "unicode/utf8.acceptRanges", "internal/bytealg.MaxLen"], apart := false, laid := [("unicode/utf8.acceptRanges", laid_unicode_utf8_acceptRanges), ("unicode/utf8.first", laid_unicode_utf8_first)], narrowed := true }
def TextMadeUptoSaid : Prop := textMadeUptoRow.holds Tryd.pinned (OpenSpec.upto textMadeSpec)

end Rows
end Go.Proofs.YtjffpcjbbehooaaDoor
