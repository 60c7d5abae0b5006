/-
  Plain facts: a text's lines, as a cut at each line feed.
-/
import Derived.Lib.Bytealg
import Derived.Lib.ValidLaws
namespace Go.Proofs.YtjffpcjbbehooaaDoor.G
open Go.Lib
def splitL : List UInt8 → List (List UInt8)
  | [] => [[]]
  | c :: l => if c = 10 then [] :: splitL l else match splitL l with
    | [] => [[c]]
    | h :: t => (c :: h) :: t
theorem splitL_cons (c : UInt8) (l : List UInt8) : splitL (c :: l) = if c = 10 then [] :: splitL l else match splitL l with
    | [] => [[c]]
    | h :: t => (c :: h) :: t := rfl
theorem splitL_ne : ∀ l : List UInt8, splitL l ≠ []
  | [] => by simp [splitL]
  | c :: l => by
    unfold splitL
    split
    · simp
    · split <;> simp
theorem splitL_end : ∀ l : List UInt8, indexByte l 10 = -1 → splitL l = [l]
  | [], _ => rfl
  | c :: l, h => by
    unfold indexByte at h
    split at h
    · cases h
    · rename_i hc
      have hc' : ¬ c = 10 := by simpa using hc
      have hl : indexByte l 10 = -1 := by
        split at h
        · rename_i h2; simpa using h2
        · have := indexByte_ge l 10
          omega
      unfold splitL
      rw [if_neg hc', splitL_end l hl]
theorem splitL_step : ∀ (l : List UInt8) (i : Nat), indexByte l 10 = (i : Int) → i < l.length ∧ splitL l = l.take i :: splitL (l.drop (i + 1))
  | [], i, h => by
    unfold indexByte at h
    omega
  | c :: l, i, h => by
    unfold indexByte at h
    split at h
    · rename_i hc
      have hc' : c = 10 := by simpa using hc
      obtain rfl : i = 0 := by omega
      subst hc'
      exact ⟨by simp, by simp [splitL]⟩
    · rename_i hc
      have hc' : ¬ c = 10 := by simpa using hc
      split at h
      · omega
      · rename_i h2
        have h3 := indexByte_ge l 10
        have h4 : indexByte l 10 ≠ -1 := by simpa using h2
        obtain ⟨j, rfl⟩ : ∃ j, i = j + 1 := ⟨i - 1, by omega⟩
        obtain ⟨hj, hs⟩ := splitL_step l j (by omega)
        refine ⟨by simp; omega, ?_⟩
        rw [splitL_cons, if_neg hc', hs]
        simp only [List.take_succ_cons, List.drop_succ_cons]
def ofL (l : List UInt8) : ByteArray := ⟨l.toArray⟩
theorem ofL_data (l : List UInt8) : (ofL l).data.toList = l := rfl
theorem ofL_size (l : List UInt8) : (ofL l).size = l.length := by
  show l.toArray.size = _
  simp
theorem ofL_of (s : ByteArray) : ofL s.data.toList = s := rfl
/-- The lines of a text. -/
def splitB (s : ByteArray) : List ByteArray := (splitL s.data.toList).map ofL
theorem extract_data (s : ByteArray) (a b : Nat) : (s.extract a b).data.toList = (s.data.toList.take b).drop a := by
  rw [ByteArray.data_extract, Array.toList_extract]
  simp [List.extract, List.drop_take]
theorem splitB_end (s : ByteArray) (h : indexByte s.data.toList 10 = -1) : splitB s = [s] := by
  unfold splitB
  rw [splitL_end _ h]
  rfl
theorem splitB_step (s : ByteArray) (i : Nat) (h : indexByte s.data.toList 10 = (i : Int)) : i < s.size ∧ splitB s = s.extract 0 i :: splitB (s.extract (i + 1) s.size) := by
  obtain ⟨hi, hs⟩ := splitL_step _ i h
  have hz : s.data.toList.length = s.size := Array.length_toList
  refine ⟨by omega, ?_⟩
  have e1 : s.extract 0 i = ofL (s.data.toList.take i) := by
    have := extract_data s 0 i
    rw [List.drop_zero] at this
    rw [← this, ofL_of]
  have e2 : (s.extract (i + 1) s.size).data.toList = s.data.toList.drop (i + 1) := by
    rw [extract_data s _ _, List.take_of_length_le (by omega)]
  unfold splitB
  rw [hs, e1, e2]
  rfl
/-- The lines with where each begins. -/
def linesAt : Nat → List ByteArray → List (Nat × ByteArray)
  | _, [] => []
  | a, x :: xs => (a, x) :: linesAt (a + (x.size + 1)) xs
theorem linesAt_append : ∀ (xs ys : List ByteArray) (a : Nat), linesAt a (xs ++ ys) = linesAt a xs ++ linesAt (a + (xs.map fun x => x.size + 1).sum) ys
  | [], ys, a => by simp [linesAt]
  | x :: xs, ys, a => by
    simp only [List.cons_append, linesAt, linesAt_append xs ys, List.map_cons, List.sum_cons]
    rw [Nat.add_assoc]
theorem splitL_sum : ∀ l : List UInt8, ((splitL l).map fun x => x.length + 1).sum = l.length + 1
  | [] => rfl
  | c :: l => by
    have ih := splitL_sum l
    unfold splitL
    split
    · simp only [List.map_cons, List.sum_cons, List.length_nil, ih, List.length_cons]; omega
    · split
      · rename_i h; exact absurd h (splitL_ne l)
      · rename_i h t e
        rw [e] at ih
        simp only [List.map_cons, List.sum_cons, List.length_cons] at ih ⊢
        omega
theorem splitB_sum (s : ByteArray) : ((splitB s).map fun x => x.size + 1).sum = s.size + 1 := by
  have := splitL_sum s.data.toList
  have hz : s.data.toList.length = s.size := Array.length_toList
  rw [hz] at this
  rw [← this]
  unfold splitB
  rw [List.map_map]
  congr 1
end Go.Proofs.YtjffpcjbbehooaaDoor.G
