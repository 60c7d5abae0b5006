/-
  The law TextLines in plain words: the printed function answers true at every input.
-/
import Derived.Test.YtjffpcjbbehooaaDoorPTextx1
namespace Go.Proofs.YtjffpcjbbehooaaDoor.F
open Go.RowKit Go.Lib Go.Proofs.YtjffpcjbbehooaaDoor.G Go.Proofs.YtjffpcjbbehooaaDoor.PUA Go.Proofs.YtjffpcjbbehooaaDoor.PText Go.Proofs.YtjffpcjbbehooaaDoorW.PrintWords Go.Proofs.YtjffpcjbbehooaaDoorW.PrintLast
theorem mono_le {α : Type} (f : Nat → Option α) (hm : ∀ k, LeO (f k) (f (k + 1))) (n : Nat) : ∀ (d : Nat) (r : α), f n = some r → f (n + d) = some r
  | 0, _, h => h
  | d + 1, r, h => hm (n + d) r (mono_le f hm n d r h)
set_option maxRecDepth 100000 in
theorem alive_eq (k : Nat) (hk : 20 ≤ k) : parlancelaw07_alive.f k = some true := by
  have h : parlancelaw07_alive.f 20 = some true := by decide +kernel
  have := mono_le _ parlancelaw07_alive.mono 20 (k - 20) true h
  rwa [show 20 + (k - 20) = k by omega] at this
def feeds (s : ByteArray) : Nat := s.data.toList.count 10
theorem feeds_le (s : ByteArray) : feeds s ≤ s.size := by
  have h : s.data.toList.length = s.size := Array.length_toList
  have := List.count_le_length (a := (10 : UInt8)) (l := s.data.toList)
  unfold feeds
  omega
theorem lines_eq (s : ByteArray) (h : s.size ≤ 9223372036854775806) : text_Lines.f s = some ((feeds s : Int) + 1) := by
  have hle := feeds_le s
  unfold text_Lines.f
  have e : GCount.f s (⟨#[10]⟩ : ByteArray) = some ((feeds s : Nat) : Int) := if_pos rfl
  rw [e, Option.bind_some, w64 _ (by omega)]
theorem feeds_append (s t : ByteArray) : feeds (s ++ t) = feeds s + feeds t := by
  unfold feeds
  rw [show (s ++ t).data.toList = s.data.toList ++ t.data.toList by simp, List.count_append]
theorem bt_nat (s : ByteArray) (i : Nat) (h : i < s.data.toList.length) : bt s (i : Int) = ((s.data.toList[i]).toNat : Int) := by
  have hz : i < s.size := by
    have : s.data.toList.length = s.size := Array.length_toList
    omega
  unfold bt
  simp only [Int.toNat_natCast]
  rw [dif_pos hz, Array.getElem_toList]
  rfl
theorem textLines_end (s t : ByteArray) (hs : s.size ≤ 140737488351232) (ht : t.size ≤ 140737488351232) (k : Nat) : parlancelaw07_TextLines.l0 (k + 1) s t ((feeds s : Int) + 1) (s.size : Int) = some true := by
  have hle := feeds_le s
  have hle2 := feeds_le t
  rw [parlancelaw07_TextLines.l0, if_neg (by omega), lines_eq s (by omega), Option.bind_some, if_pos rfl, if_pos (by omega), lines_eq (s ++ t) (by rw [ByteArray.size_append]; omega), Option.bind_some, Option.bind_some, lines_eq t (by omega), Option.bind_some, feeds_append, w64 ((feeds s : Int) + 1 + ((feeds t : Int) + 1)) (by omega), w64 _ (by omega)]
  have : (((feeds s + feeds t : Nat) : Int) + 1) = (feeds s : Int) + 1 + ((feeds t : Int) + 1) - 1 := by omega
  rw [this]
  simp
theorem textLines_l0 (s t : ByteArray) (hs : s.size ≤ 140737488351232) (ht : t.size ≤ 140737488351232) : ∀ (d i k : Nat), i + d = s.size → d < k → parlancelaw07_TextLines.l0 k s t (((s.data.toList.take i).count 10 : Nat) + 1 : Int) (i : Int) = some true
  | 0, i, k, h, hk => by
    obtain ⟨k, rfl⟩ : ∃ m, k = m + 1 := ⟨k - 1, by omega⟩
    have hl : s.data.toList.length = s.size := Array.length_toList
    obtain rfl : i = s.size := by omega
    rw [List.take_of_length_le (by omega)]
    exact textLines_end s t hs ht k
  | d + 1, i, k, h, hk => by
    obtain ⟨k, rfl⟩ : ∃ m, k = m + 1 := ⟨k - 1, by omega⟩
    have hl : s.data.toList.length = s.size := Array.length_toList
    have hi : i < s.data.toList.length := by omega
    have hc : (s.data.toList.take i).count 10 ≤ i := by
      have := List.count_le_length (a := (10 : UInt8)) (l := s.data.toList.take i)
      rw [List.length_take] at this
      omega
    have hstep : s.data.toList.take (i + 1) = s.data.toList.take i ++ [s.data.toList[i]] := by rw [List.take_add_one, List.getElem?_eq_getElem hi]; rfl
    have ih := textLines_l0 s t hs ht d (i + 1) k (by omega) (by omega)
    rw [hstep, List.count_append, List.count_singleton] at ih
    rw [parlancelaw07_TextLines.l0, if_pos (by omega), if_pos (by omega), bt_nat s i hi, w64 ((i : Int) + 1) (by omega), show ((i : Int) + 1) = ((i + 1 : Nat) : Int) from rfl]
    by_cases c : s.data.toList[i] = 10
    · rw [if_pos (by rw [c]; rfl), w64 _ (by omega)]
      rw [c] at ih
      have e : ((((s.data.toList.take i).count 10 + if (10 : UInt8) == 10 then 1 else 0 : Nat) : Int) + 1) = ((s.data.toList.take i).count 10 : Nat) + 1 + 1 := by simp
      rw [e] at ih
      exact ih
    · rw [if_neg (by
        intro h2
        apply c
        apply UInt8.toNat_inj.1
        show _ = 10
        omega)]
      have e : ((((s.data.toList.take i).count 10 + if s.data.toList[i] == 10 then 1 else 0 : Nat) : Int) + 1) = ((s.data.toList.take i).count 10 : Nat) + 1 := by
        rw [if_neg (by simpa using c)]
        simp
      rw [e] at ih
      exact ih
theorem textLines : parlancelaw07_TextLines.Pure := by
  intro s t hs ht
  refine ⟨s.size + 20, ?_⟩
  unfold parlancelaw07_TextLines.f
  rw [alive_eq _ (by omega), Option.bind_some, if_pos rfl]
  have := textLines_l0 s t hs ht s.size 0 (s.size + 20) (by omega) (by omega)
  simpa using this
end Go.Proofs.YtjffpcjbbehooaaDoor.F
