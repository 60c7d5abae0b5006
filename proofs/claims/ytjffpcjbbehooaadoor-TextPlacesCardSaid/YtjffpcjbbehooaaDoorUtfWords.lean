/-
  Plain words on a text's runes, as the model decodes them: no program in sight.
-/
import Derived.Lib.ValidLaws
import Derived.Lib.MapLaws
import Derived.Lib.RuneBytes
namespace Go.Proofs.YtjffpcjbbehooaaDoor.G
open Go.Lib
def byteList (l : List Int) : List UInt8 := l.map fun x => UInt8.ofNat x.toNat
def runesGo : Nat → List UInt8 → List Int
  | 0, _ => []
  | n + 1, l => if l = [] then [] else ((decodeL l).1 : Int) :: runesGo n (l.drop (decodeL l).2)
/-- The runes that a range over a text tells. -/
def runes (l : List UInt8) : List Int := runesGo l.length l
theorem runesGo_fuel : ∀ (n m : Nat) (l : List UInt8), l.length ≤ n → l.length ≤ m → runesGo n l = runesGo m l
  | 0, m, l, h, _ => by
    obtain rfl : l = [] := List.eq_nil_of_length_eq_zero (by omega)
    cases m <;> simp [runesGo]
  | n + 1, 0, l, _, h => by
    obtain rfl : l = [] := List.eq_nil_of_length_eq_zero (by omega)
    simp [runesGo]
  | n + 1, m + 1, l, h, k => by
    unfold runesGo
    by_cases c : l = []
    · simp [c]
    · have := decodeL_width l
      have : 0 < l.length := List.length_pos_iff.2 c
      rw [if_neg c, if_neg c, runesGo_fuel n m _ (by rw [List.length_drop]; omega) (by rw [List.length_drop]; omega)]
theorem runes_nil : runes [] = [] := rfl
theorem runes_step (l : List UInt8) (h : l ≠ []) : runes l = ((decodeL l).1 : Int) :: runes (l.drop (decodeL l).2) := by
  have h0 : 0 < l.length := List.length_pos_iff.2 h
  have := decodeL_width l
  obtain ⟨n, hn⟩ : ∃ n, l.length = n + 1 := ⟨l.length - 1, by omega⟩
  show runesGo l.length l = _
  rw [hn]
  unfold runesGo
  rw [if_neg h]
  congr 1
  exact runesGo_fuel _ _ _ (by rw [List.length_drop]; omega) (by rw [List.length_drop]; omega)
theorem decode_drop (s : ByteArray) (i : Nat) : Utf8.decode s i = decodeL (s.data.toList.drop i) := (decodeL_drop s i).symm
end Go.Proofs.YtjffpcjbbehooaaDoor.G
