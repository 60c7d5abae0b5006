/-
  What a row's list of the two tables of unicode/utf8 gives to the walks, and a world that lays them, for the witnesses.
-/
import Derived.Test.YtjffpcjbbehooaaDoorRows
import Derived.Test.YtjffpcjbbehooaaDoorUtfBase
import Derived.Lib.LaidU8
import Derived.OpenShut
import Derived.Deep.DeepHandedRow
namespace Go.Proofs.YtjffpcjbbehooaaDoor.G
open Go.Lib
theorem nFirst : Tryd.prog.globalNamed "unicode/utf8.first" = some 0 := by kernel_rfl
theorem nAccept : Tryd.prog.globalNamed "unicode/utf8.acceptRanges" = some 1 := by kernel_rfl
theorem yFirst : (Tryd.prog.globals[0]?).map (·.type) = some 63 := by kernel_rfl
theorem yAccept : (Tryd.prog.globals[1]?).map (·.type) = some 66 := by kernel_rfl
theorem cByte : Tryd.prog.cellsOf 5 = 1 := by kernel_rfl
theorem cFirst : Tryd.prog.cellsOf 63 = 256 := by kernel_rfl
theorem cRange : Tryd.prog.cellsOf 65 = 2 := by kernel_rfl

theorem t8_of_reads {w : World} (h3 : VarReads Tryd.prog w "unicode/utf8.first" firstData) (h4 : VarReads Tryd.prog w "unicode/utf8.acceptRanges" acceptData) : T8 w := by
  refine ⟨fun c hc => ?_, fun i hi => ?_⟩
  · obtain ⟨g, t, cs, fuel, p, hg, hty, hvar, hd⟩ := h3
    obtain rfl := Option.some.inj (nFirst.symm.trans hg)
    obtain rfl := Option.some.inj (yFirst.symm.trans hty)
    have hcs := cells_of_tab Tryd.underlying63 Tryd.underlying5 cByte cFirst hd
    have := World.var?_cell hg hvar c
    rw [this, ← Array.getElem?_toList, hcs]
    simp [firstTab, hc]
  · obtain ⟨g, t, cs, fuel, p, hg, hty, hvar, hd⟩ := h4
    obtain rfl := Option.some.inj (nAccept.symm.trans hg)
    obtain rfl := Option.some.inj (yAccept.symm.trans hty)
    obtain ⟨fuel', d, q, hdi, he⟩ := array_elem Tryd.underlying66 hd i hi
    simp only [List.getElem?_map, List.getElem?_range hi, Option.map_some, Option.some.injEq] at hdi
    subst hdi
    rw [cRange] at he
    have hcs := ints_of_struct Tryd.underlying65 (fun j f hj => by
      match j, hj with
      | 0, hj => simp at hj; subst hj; exact ⟨Tryd.underlying5, rfl, cByte⟩
      | 1, hj => simp at hj; subst hj; exact ⟨Tryd.underlying5, rfl, cByte⟩
      | j + 2, hj => simp at hj) (by rw [cRange]; rfl) he
    have e0 := congrArg (·[0]?) hcs
    have e1 := congrArg (·[1]?) hcs
    simp only [List.getElem?_take, List.getElem?_drop] at e0 e1
    constructor
    · rw [World.var?_cell hg hvar (2 * i), ← Array.getElem?_toList]
      simpa [Nat.mul_comm] using e0
    · rw [World.var?_cell hg hvar (2 * i + 1), ← Array.getElem?_toList]
      simpa [Nat.mul_comm] using e1

theorem first_same : Go.Pinned.utf8First = firstData := by kernel_rfl
theorem accept_same : (Rows.laid_unicode_utf8_acceptRanges : DataW Unit) = acceptData := by kernel_rfl
/-- What the rows list. -/
def laidTwo : List (String × DataW Unit) := [("unicode/utf8.acceptRanges", Rows.laid_unicode_utf8_acceptRanges), ("unicode/utf8.first", Rows.laid_unicode_utf8_first)]
theorem t8_of_laid {w : World} (h : laidMetH Tryd.prog laidTwo w) : T8 w := by
  have h' : laidMet Tryd.prog laidTwo w := h
  exact t8_of_reads (first_same ▸ (laidMet.reads h' (by simp [laidTwo, Rows.laid_unicode_utf8_first]) : VarReads Tryd.prog w "unicode/utf8.first" Go.Pinned.utf8First)) (accept_same ▸ (laidMet.reads h' (by simp [laidTwo]) : VarReads Tryd.prog w "unicode/utf8.acceptRanges" Rows.laid_unicode_utf8_acceptRanges))

/-- A block of cells, holding these. -/
def lays (vs : List Value) : Obj → Obj
  | .cells _ t frozen => .cells vs.toArray t frozen
  | o => o
/-- A world for the witnesses: the settled one, the two tables holding what their initialisers lay. -/
noncomputable def laidWorld (os : Os) : World :=
  { World.holding Tryd.prog os ⟨#[], #[], []⟩ with heap := ((World.holding Tryd.prog os ⟨#[], #[], []⟩).heap.modify 0 (lays ((List.range 256).map fun c => Value.int .u8 (firstT c)))).modify 1 (lays ((List.range 16).flatMap fun i => [Value.int .u8 (accLo i), Value.int .u8 (accHi i)])) }
end Go.Proofs.YtjffpcjbbehooaaDoor.G
