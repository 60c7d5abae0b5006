/-
  What the document's printed function that makes a text of runes answers, in plain words.
-/
import Derived.Test.YtjffpcjbbehooaaDoorPTxx1
import Derived.Test.YtjffpcjbbehooaaDoorTextRef
namespace Go.Proofs.YtjffpcjbbehooaaDoor.F
open Go.RowKit Go.Lib Go.Proofs.YtjffpcjbbehooaaDoor.G Go.Proofs.YtjffpcjbbehooaaDoor.PUA Go.Proofs.YtjffpcjbbehooaaDoor.PFn Go.Proofs.YtjffpcjbbehooaaDoor.PRef Go.Proofs.YtjffpcjbbehooaaDoor.PTx Go.Proofs.YtjffpcjbbehooaaDoorW.PrintWords Go.Proofs.YtjffpcjbbehooaaDoorW.PrintLast
def encZ (rs : List Int) : List Int := rs.flatMap encodeRuneZ
theorem encZ_cons (r : Int) (rs : List Int) : encZ (r :: rs) = encodeRuneZ r ++ encZ rs := by simp [encZ]
/-- What a making of a text answers, behind what is made already. -/
def textAns (acc xs : List Int) : ByteArray × Int := if allR xs then (strOfNums (acc ++ encZ xs), 0) else (⟨#[]⟩, 40)
theorem textAns_cons (acc : List Int) (r : Int) (rs : List Int) (h : okR r) : textAns acc (r :: rs) = textAns (acc ++ encodeRuneZ r) rs := by
  unfold textAns
  rw [encZ_cons, List.append_assoc]
  by_cases c : allR rs
  · rw [if_pos c, if_pos (allR_cons.2 ⟨h, c⟩)]
  · rw [if_neg c, if_neg (fun z => c (allR_cons.1 z).2)]
theorem textAns_bad (acc : List Int) (r : Int) (rs : List Int) (h : ¬ okR r) : textAns acc (r :: rs) = (⟨#[]⟩, 40) := if_neg (fun z => h (allR_cons.1 z).1)
theorem encZ_bound (r : Int) : (encodeRuneZ r).length ≤ 4 := (encodeRuneZ_length r).2
theorem refText_l0 (xs : List Int) (hb : xs.length ≤ 1000000) : ∀ (d i k : Nat) (acc : List Int), i + d = xs.length → d < k → acc.length + 4 * d ≤ 10000000 → parlanceref04_Text.l0 k xs acc (i : Int) = some (textAns acc (xs.drop i))
  | 0, i, k, acc, h, hk, hl => by
    obtain ⟨k, rfl⟩ : ∃ m, k = m + 1 := ⟨k - 1, by omega⟩
    simp only [parlanceref04_Text.l0]
    rw [if_neg (by omega), List.drop_of_length_le (by omega)]
    simp [textAns, encZ, allR_nil]
  | d + 1, i, k, acc, h, hk, hl => by
    obtain ⟨k, rfl⟩ : ∃ m, k = m + 1 := ⟨k - 1, by omega⟩
    simp only [parlanceref04_Text.l0]
    have hx : i < xs.length := by omega
    rw [if_pos (by omega), if_pos (by omega), rd_nat xs i hx, isRune_eq, List.drop_eq_getElem_cons hx, w64 ((i : Int) + 1) (by omega), show ((i : Int) + 1) = ((i + 1 : Nat) : Int) from rfl]
    simp only [Option.bind_some]
    have he := encZ_bound xs[i]
    by_cases c : okR xs[i]
    · rw [if_pos (decide_eq_true c), textAns_cons _ _ _ c, bytes_eq _ c]
      simp only [Option.bind_some]
      rw [if_pos (by omega), refText_l0 xs hb d (i + 1) k _ (by omega) (by omega) (by rw [List.length_append]; omega)]
    · rw [if_neg (by simpa using c), textAns_bad _ _ _ c]
theorem refText_eq (xs : List Int) (hb : xs.length ≤ 1000000) (k : Nat) (hk : xs.length < k) : parlanceref04_Text.f k xs = some (textAns [] xs) := by
  have := refText_l0 xs hb xs.length 0 k [] (by omega) hk (by simp; omega)
  simpa [parlanceref04_Text.f] using this
theorem strOf_data (bs : List UInt8) : (strOfNums (ints bs)).data.toList = bs := by
  have := strOf_ints bs
  rwa [ByteArray.toList_eq] at this
theorem strOf_size (bs : List UInt8) : (strOfNums (ints bs)).size = bs.length := by
  rw [size_data, strOf_data]
theorem strOf_encZ (rs : List Int) : (strOfNums (encZ rs)).data.toList = enc rs := by
  show (((encZ rs).map fun n => UInt8.ofNat n.toNat).toArray).toList = enc rs
  rw [List.toList_toArray]
  unfold encZ enc
  rw [List.map_flatMap]
  rfl
theorem textAns_of (xs : List Int) (h : allR xs) : textAns [] xs = (ofL (enc xs), 0) := by
  unfold textAns
  rw [if_pos h, List.nil_append]
  congr 1
  have := congrArg ofL (strOf_encZ xs)
  rwa [ofL_of] at this
theorem refText_of (xs : List Int) (h : allR xs) (hb : xs.length ≤ 1000000) (k : Nat) (hk : xs.length < k) : parlanceref04_Text.f k xs = some (ofL (enc xs), 0) := by
  rw [refText_eq xs hb k hk, textAns_of xs h]
end Go.Proofs.YtjffpcjbbehooaaDoor.F
