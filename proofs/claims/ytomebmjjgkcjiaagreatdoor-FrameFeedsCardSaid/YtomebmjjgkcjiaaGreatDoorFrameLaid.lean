/-
  What a row's list of package-level variables gives to the walks, and a world that lays them, for the witnesses.
-/
import Derived.Test.YtomebmjjgkcjiaaGreatDoorRows
import Derived.Test.YtomebmjjgkcjiaaGreatDoorFrameBase
import Derived.Lib.LaidU8
import Derived.Lib.LaidTab
import Derived.OpenShut
import Derived.Deep.DeepHandedRow
import Derived.LaidByTextLater
import Derived.Shelf.Vars
namespace Go.Proofs.YtomebmjjgkcjiaaGreatDoor.G
open Go.Lib
theorem yPow : (Tryz.prog.globals[1]?).map (·.type) = some 96 := by kernel_rfl
theorem cU64 : Tryz.prog.cellsOf 75 = 1 := by kernel_rfl
theorem cPow : Tryz.prog.cellsOf 96 = 20 := by kernel_rfl
theorem pow_same : (Rows.laid_internal_strconv_uint64pow10 : DataW Unit) = tabData .u64 pow10Tab := by kernel_rfl
/-- What the rows list. -/
def laidSeven : List (String × DataW Unit) := [("math/bits.deBruijn32tab", Rows.laid_math_bits_deBruijn32tab), ("math/bits.deBruijn64tab", Rows.laid_math_bits_deBruijn64tab), ("internal/strconv.uint64pow10", Rows.laid_internal_strconv_uint64pow10), ("unicode/utf8.acceptRanges", Rows.laid_unicode_utf8_acceptRanges), ("strconv.ErrRange", Rows.laid_strconv_ErrRange), ("strconv.ErrSyntax", Rows.laid_strconv_ErrSyntax), ("unicode/utf8.first", Rows.laid_unicode_utf8_first)]
theorem tabIs_of_reads {P : Program} {W : World} {name : String} {k : IntKind} {zs : List Int} {g : Nat} {t e : TypeId} {n : Nat}
    (hg : P.globalNamed name = some g) (hty : (P.globals[g]?).map (·.type) = some t) (ht : P.underlying t = some (.array n e)) (he : P.underlying e = some (.int k)) (hce : P.cellsOf e = 1) (hct : P.cellsOf t = n)
    (h : VarReads P W name (tabData k zs)) : TabIs P W name k zs := by
  obtain ⟨g', t', cs, fuel, p, hg', ht', hvar, hd⟩ := h
  obtain rfl := Option.some.inj (hg.symm.trans hg')
  obtain rfl := Option.some.inj (hty.symm.trans ht')
  unfold TabIs
  rw [hvar, ← cells_of_tab ht he hce hct hd]
theorem tf_of_row {w : World} (hs : w.ShapedOpen Tryz.prog) (h : laidMetH Tryz.prog laidSeven w) : TF w := by
  have h' : laidMet Tryz.prog laidSeven w := h
  refine ⟨cell_of_shapedOpen_int (g := 0) (t := 3) (zero := #[.int .i64 0]) (k := .i64) hs (of_decide_eq_true (by kernel_rfl)) (by kernel_rfl) rfl (by kernel_rfl) (by kernel_rfl) (by kernel_rfl), ?_⟩
  refine tabIs_of_reads nPow yPow Tryz.underlying96 Tryz.underlying75 cU64 cPow ?_
  rw [← pow_same]
  exact laidMet.reads h' (by simp [laidSeven])
def litV : DataW Unit → List Value
  | .lit (.int k z) => [.int k z]
  | _ => []
def aggV : DataW Unit → List Value
  | .agg l => l.flatMap litV
  | _ => []
def agg2V : DataW Unit → List Value
  | .agg l => l.flatMap aggV
  | _ => []
/-- A block of cells, holding these. -/
def lays (vs : List Value) : Obj → Obj
  | .cells _ t frozen => .cells vs.toArray t frozen
  | o => o
noncomputable def low : Nat := (World.holding Tryz.prog default ⟨#[], #[], []⟩).heap.size
def rangeS : ByteArray := { data := #[118, 97, 108, 117, 101, 32, 111, 117, 116, 32, 111, 102, 32, 114, 97, 110, 103, 101] }
def syntaxS : ByteArray := { data := #[105, 110, 118, 97, 108, 105, 100, 32, 115, 121, 110, 116, 97, 120] }
/-- A world for the witnesses: the settled one, the variables holding what their initialisers lay. -/
noncomputable def laidWorld (os : Os) : World :=
  let w0 := World.holding Tryz.prog os ⟨#[.cells #[.string rangeS] 127, .cells #[.string syntaxS] 127], #[], []⟩
  { w0 with heap := ((((((w0.heap.modify 2 (lays (aggV Go.Pinned.utf8First))).modify 3 (lays (agg2V Rows.laid_unicode_utf8_acceptRanges))).modify 6 (lays (aggV Rows.laid_math_bits_deBruijn32tab))).modify 7 (lays (aggV Rows.laid_math_bits_deBruijn64tab))).modify 1 (lays (aggV Rows.laid_internal_strconv_uint64pow10))).modify 5 (lays [.iface 125 (.pointer (some ⟨low, 0, none⟩))])).modify 4 (lays [.iface 125 (.pointer (some ⟨low + 1, 0, none⟩))]) }
end Go.Proofs.YtomebmjjgkcjiaaGreatDoor.G
