/-
  The premise on the two tables of unicode/utf8, and that it stays where memory only grows.
-/
import Derived.Test.YtjffpcjbbehooaaDoorProg
import Derived.Lib.DecodeN
import Derived.Below
namespace Go.Proofs.YtjffpcjbbehooaaDoor.G
open Go.RowKit
/-- unicode/utf8.first and acceptRanges both read as their initialisers lay them. -/
def T8 (w : World) : Prop :=
  (∀ c, c < 256 → w.cell? ⟨0, c, none⟩ = some (.int .u8 (Lib.firstT c))) ∧
  (∀ i, i < 16 → w.cell? ⟨1, 2 * i, none⟩ = some (.int .u8 (Lib.accLo i)) ∧ w.cell? ⟨1, 2 * i + 1, none⟩ = some (.int .u8 (Lib.accHi i)))
theorem T8_below {w0 w : World} (h : T8 w0) (hb : Below w0.heap.size w0 w) : T8 w :=
  ⟨fun c hc => (hb.cell (World.block_lt_of_cell? w0 _ (h.1 c hc))).trans (h.1 c hc),
   fun i hi => ⟨(hb.cell (World.block_lt_of_cell? w0 _ (h.2 i hi).1)).trans (h.2 i hi).1, (hb.cell (World.block_lt_of_cell? w0 _ (h.2 i hi).2)).trans (h.2 i hi).2⟩⟩
end Go.Proofs.YtjffpcjbbehooaaDoor.G
