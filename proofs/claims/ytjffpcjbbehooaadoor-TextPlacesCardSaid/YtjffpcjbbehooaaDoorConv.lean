/-
  []byte(s): what a read finds in the new row; what was there is there.
-/
import Derived.Test.YtjffpcjbbehooaaDoorWWords
import Derived.Lib.ConvBytes
import Derived.Laws.NewBlocks
import Derived.Lib.ValidLaws
set_option linter.unusedVariables false
namespace Go.Proofs.YtjffpcjbbehooaaDoor.G
open Go.RowKit Go.Lib Go.Proofs.YtjffpcjbbehooaaDoorW.PrintWords
theorem conv_below (w : World) (e : TypeId) (s : ByteArray) : Below w.heap.size w (bytesWorld w e s) := by
  refine ⟨?_, ?_, ?_, by rw [bytesWorld_size]; omega, fun k hk => bytesWorld_at_old w e s k hk⟩
  all_goals
    unfold bytesWorld World.freeze
    split <;> rfl
theorem conv_reads (w : World) (e : TypeId) (s : ByteArray) (hs : s.size ≤ 9223372036854775807) : Kd.C (Kd.int .u8) (bytesWorld w e s) (some ⟨w.heap.size, 0, none⟩) (bytesOf s).length (bytesOf s) := by
  refine Kd.C_of_reads (d := (0 : Int)) (h1 := fun _ => rfl) ⟨rfl, by rw [bytesOf_length]; exact hs, fun _ => ⟨_, rfl, fun j hj => ?_⟩⟩
  rw [bytesOf_length] at hj
  have ha : (Addr.add ⟨w.heap.size, 0, none⟩ j) = ⟨w.heap.size, j, none⟩ := by
    unfold Addr.add
    split
    · rename_i h; rw [h]
    · simp
  have hj' : j < s.data.toList.length := Nat.lt_of_lt_of_eq hj (Lib.size_eq s)
  rw [ha, bytesWorld_cell w e s j hj]
  simp only [bytesOf, List.getD_eq_getElem?_getD, List.getElem?_map, List.getElem?_eq_getElem hj', Option.map_some, Option.getD_some]
theorem conv_cap (w : World) (e : TypeId) (s : ByteArray) : s.size ≤ grownCap w s.size 0 e := grownCap_ge w s.size 0 e
theorem one_cell_new (w : World) (v : Value) (t : TypeId) : ∀ j u, [v][j]? = some u → (w.alloc (.cells #[v] t)).cell? ((⟨w.heap.size, 0, none⟩ : Addr).add j) = some u := by
  intro j u hj
  match j, hj with
  | 0, hj => simp at hj; subst hj; simp [Addr.add]
  | j + 1, hj => simp at hj
theorem one_cell_ok {k : IntKind} {x : Int} : ∀ u ∈ [Value.int k x], u.oneCell' = true := by
  intro u hu
  simp at hu
  subst hu
  rfl
end Go.Proofs.YtjffpcjbbehooaaDoor.G
