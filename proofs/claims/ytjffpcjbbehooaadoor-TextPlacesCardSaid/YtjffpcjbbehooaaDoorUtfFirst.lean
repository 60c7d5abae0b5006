/-
  The reference's 'first' is the model's decoder.
-/
import Derived.Test.YtjffpcjbbehooaaDoorUtfPure
import Derived.Test.YtjffpcjbbehooaaDoorPUAx2
set_option linter.unusedVariables false
namespace Go.Proofs.YtjffpcjbbehooaaDoor.G
open Go.RowKit Go.Lib Go.Proofs.YtjffpcjbbehooaaDoorW.PrintWords Go.Proofs.YtjffpcjbbehooaaDoor.PUA
def ints (bs : List UInt8) : List Int := bs.map fun b => (b.toNat : Int)
theorem ints_length (bs : List UInt8) : (ints bs).length = bs.length := by simp [ints]
theorem ints_byteList (l : List Int) (h : ∀ x ∈ l, 0 ≤ x ∧ x ≤ 255) : ints (byteList l) = l := by
  unfold ints byteList
  rw [List.map_map]
  conv => rhs; rw [← List.map_id l]
  refine List.map_congr_left fun x hx => ?_
  have := h x hx
  simp only [Function.comp_apply, id]
  exact toU8_toNat x (by omega)
theorem byteList_ints (bs : List UInt8) : byteList (ints bs) = bs := by
  unfold ints byteList
  rw [List.map_map]
  conv => rhs; rw [← List.map_id bs]
  refine List.map_congr_left fun x _ => ?_
  show UInt8.ofNat ((x.toNat : Int).toNat) = x
  rw [Int.toNat_natCast]
  exact UInt8.ofNat_toNat
theorem ints_bound (bs : List UInt8) : ∀ x ∈ ints bs, 0 ≤ x ∧ x ≤ 255 := by
  intro x hx
  obtain ⟨b, _, rfl⟩ := List.mem_map.1 hx
  have := b.toNat_lt
  omega
theorem ints_take (bs : List UInt8) (n : Nat) : (ints bs).take n = ints (bs.take n) := by simp [ints, List.map_take]
theorem ints_drop (bs : List UInt8) (n : Nat) : (ints bs).drop n = ints (bs.drop n) := by simp [ints, List.map_drop]
theorem rd_ints (bs : List UInt8) (i : Int) (h0 : 0 ≤ i) (h : i < bs.length) : rd (ints bs) i = ((bs.getD i.toNat 0).toNat : Int) := by
  unfold rd ints
  have hi : i.toNat < bs.length := by omega
  simp [List.getD_eq_getElem?_getD, hi]
theorem isRune_eq (r : Int) : parlanceref04_isRune.f r = some (decide (okR r)) := by
  have e : decide (okR r) = decide (0 ≤ r ∧ r ≤ 1114111 ∧ ¬ (55296 ≤ r ∧ r ≤ 57343)) := rfl
  rw [e]
  unfold parlanceref04_isRune.f
  by_cases c0 : r ≥ 0
  · by_cases c1 : r ≤ 1114111
    · by_cases c2 : r ≥ 55296
      · rw [if_pos c0, if_pos c1, if_pos c2]
        by_cases c3 : r ≤ 57343
        · rw [decide_eq_true c3, decide_eq_false (by omega)]; rfl
        · rw [decide_eq_false c3, decide_eq_true (by omega)]; rfl
      · rw [if_pos c0, if_pos c1, if_neg c2, decide_eq_true (by omega)]; rfl
    · rw [if_pos c0, if_neg c1, decide_eq_false (by omega)]
  · rw [if_neg c0, decide_eq_false (by omega)]
theorem bytes_eq (r : Int) (h : okR r) : parlanceref04_bytes.f r = some (encodeRuneZ r) := by
  obtain ⟨h0, h1, h2⟩ := h
  have w (x : Int) (h : -9223372036854775808 ≤ x ∧ x ≤ 9223372036854775807) : wrap64 x = x := by unfold wrap64; omega
  have t1 : Int.tdiv r 64 = r / 64 := Int.tdiv_eq_ediv_of_nonneg h0
  have t2 : Int.tdiv r 4096 = r / 4096 := Int.tdiv_eq_ediv_of_nonneg h0
  have t3 : Int.tdiv r 262144 = r / 262144 := Int.tdiv_eq_ediv_of_nonneg h0
  have m0 : Int.tmod r 64 = r % 64 := Int.tmod_eq_emod_of_nonneg h0
  have m1 : Int.tmod (r / 64) 64 = r / 64 % 64 := Int.tmod_eq_emod_of_nonneg (by omega)
  have m2 : Int.tmod (r / 4096) 64 = r / 4096 % 64 := Int.tmod_eq_emod_of_nonneg (by omega)
  unfold parlanceref04_bytes.f
  rw [t1, t2, t3, m0, w (r / 64) (by omega), w (r / 4096) (by omega), w (r / 262144) (by omega), m1, m2, w (192 + r / 64) (by omega), w (128 + r % 64) (by omega), w (224 + r / 4096) (by omega), w (128 + r / 64 % 64) (by omega), w (240 + r / 262144) (by omega), w (128 + r / 4096 % 64) (by omega)]
  by_cases c1 : r < 128
  · rw [if_pos c1, encodeRuneZ_one h0 (by omega), show r % 256 = r from by omega]
  rw [if_neg c1]
  by_cases c2 : r < 2048
  · rw [if_pos c2, encodeRuneZ_two (by omega) (by omega), show (192 + r / 64) % 256 = 192 + r / 64 from by omega, show (128 + r % 64) % 256 = 128 + r % 64 from by omega]
  rw [if_neg c2]
  by_cases c3 : r < 65536
  · rw [if_pos c3, encodeRuneZ_three (by omega), show (224 + r / 4096) % 256 = 224 + r / 4096 from by omega, show (128 + r / 64 % 64) % 256 = 128 + r / 64 % 64 from by omega, show (128 + r % 64) % 256 = 128 + r % 64 from by omega]
  · rw [if_neg c3, encodeRuneZ_four (by omega) h1, show (240 + r / 262144) % 256 = 240 + r / 262144 from by omega, show (128 + r / 4096 % 64) % 256 = 128 + r / 4096 % 64 from by omega, show (128 + r / 64 % 64) % 256 = 128 + r / 64 % 64 from by omega, show (128 + r % 64) % 256 = 128 + r % 64 from by omega]
theorem strOf_encode (r : Int) : (strOfNums (encodeRuneZ r)).toList = encodeRune r := by rw [ByteArray.toList_eq]; rfl
theorem strOf_ints (bs : List UInt8) : (strOfNums (ints bs)).toList = bs := by
  rw [ByteArray.toList_eq]
  exact byteList_ints bs
def bz (bs : List UInt8) (i : Nat) : Int := ((bs.getD i 0).toNat : Int)
theorem bz_bound (bs : List UInt8) (i : Nat) : 0 ≤ bz bs i ∧ bz bs i ≤ 255 := by
  unfold bz
  have := (bs.getD i 0).toNat_lt
  omega
def cand (bs : List UInt8) (n : Nat) : Int :=
  if n = 1 then bz bs 0 else if n = 2 then (bz bs 0 - 192) * 64 + bz bs 1 - 128 else if n = 3 then (bz bs 0 - 224) * 4096 + (bz bs 1 - 128) * 64 + bz bs 2 - 128
  else (bz bs 0 - 240) * 262144 + (bz bs 1 - 128) * 4096 + (bz bs 2 - 128) * 64 + bz bs 3 - 128
theorem w64 (x : Int) (h : -9223372036854775808 ≤ x ∧ x ≤ 9223372036854775807) : wrap64 x = x := by unfold wrap64; omega
/-- What is asked at n bytes. -/
def Fits (bs : List UInt8) (n : Nat) : Prop := okR (cand bs n) ∧ encodeRune (cand bs n) = bs.take n
instance (bs : List UInt8) (n : Nat) : Decidable (Fits bs n) := by unfold Fits; infer_instance
theorem j2_eq (k : Nat) (bs : List UInt8) (n : Nat) (hn : n ≤ bs.length) (hm : n ≤ 4) : parlanceref04_first.j2 (k + 1) (ints bs) n (cand bs n) = if Fits bs n then some (cand bs n, (n : Int)) else parlanceref04_first.l0 k (ints bs) ((n + 1 : Nat) : Int) := by
  have hw : wrap64 ((n : Int) + 1) = ((n + 1 : Nat) : Int) := by rw [w64 _ (by omega)]; omega
  simp only [parlanceref04_first.j2]
  rw [isRune_eq, Option.bind_some]
  by_cases c : okR (cand bs n)
  · rw [if_pos (by simpa using c), bytes_eq _ c, Option.bind_some, if_pos (by omega), if_pos (by rw [ints_length]; omega), strOf_encode, Int.toNat_natCast, ints_take, strOf_ints, hw]
    by_cases d : encodeRune (cand bs n) = bs.take n
    · rw [if_pos d, if_pos (show Fits bs n from ⟨c, d⟩)]
    · rw [if_neg d, if_neg (show ¬ Fits bs n from fun h => d h.2)]
  · rw [if_neg (by simpa using c), hw, if_neg (show ¬ Fits bs n from fun h => c h.1)]
theorem l0_eq (k : Nat) (bs : List UInt8) (n : Nat) (h1 : 1 ≤ n) (hn : n ≤ bs.length) (hm : n ≤ 4) : parlanceref04_first.l0 (k + 3) (ints bs) n = if Fits bs n then some (cand bs n, (n : Int)) else parlanceref04_first.l0 k (ints bs) ((n + 1 : Nat) : Int) := by
  rw [← j2_eq k bs n hn hm]
  conv => lhs; unfold parlanceref04_first.l0
  rw [if_pos (by omega), decide_eq_true (by rw [ints_length]; omega)]
  conv => lhs; unfold parlanceref04_first.j1
  rw [if_pos rfl]
  have b0 := bz_bound bs 0
  have b1 := bz_bound bs 1
  have b2 := bz_bound bs 2
  have b3 := bz_bound bs 3
  have r0 : 0 < bs.length → rd (ints bs) 0 = bz bs 0 := fun h => rd_ints bs 0 (by omega) (by omega)
  have r1 : 1 < bs.length → rd (ints bs) 1 = bz bs 1 := fun h => rd_ints bs 1 (by omega) (by omega)
  have r2 : 2 < bs.length → rd (ints bs) 2 = bz bs 2 := fun h => rd_ints bs 2 (by omega) (by omega)
  have r3 : 3 < bs.length → rd (ints bs) 3 = bz bs 3 := fun h => rd_ints bs 3 (by omega) (by omega)
  rw [ints_length]
  by_cases c1 : n = 1
  · subst c1
    rw [if_pos (by omega), if_pos (by omega), r0 (by omega), w64 _ (by omega)]
    rfl
  rw [if_neg (by omega)]
  by_cases c2 : n = 2
  · subst c2
    rw [if_pos (by omega), if_pos (by omega), if_pos (by omega), r0 (by omega), r1 (by omega), w64 (bz bs 0) (by omega), w64 (bz bs 1) (by omega), w64 (bz bs 0 - 192) (by omega), w64 ((bz bs 0 - 192) * 64) (by omega), w64 ((bz bs 0 - 192) * 64 + bz bs 1) (by omega), w64 _ (by omega)]
    rfl
  rw [if_neg (by omega)]
  by_cases c3 : n = 3
  · subst c3
    rw [if_pos (by omega), if_pos (by omega), if_pos (by omega), if_pos (by omega), r0 (by omega), r1 (by omega), r2 (by omega), w64 (bz bs 0) (by omega), w64 (bz bs 1) (by omega), w64 (bz bs 2) (by omega), w64 (bz bs 0 - 224) (by omega), w64 (bz bs 1 - 128) (by omega), w64 ((bz bs 0 - 224) * 4096) (by omega), w64 ((bz bs 1 - 128) * 64) (by omega), w64 ((bz bs 0 - 224) * 4096 + (bz bs 1 - 128) * 64) (by omega), w64 ((bz bs 0 - 224) * 4096 + (bz bs 1 - 128) * 64 + bz bs 2) (by omega), w64 _ (by omega)]
    rfl
  · obtain rfl : n = 4 := by omega
    rw [if_neg (by omega), if_pos (by omega), if_pos (by omega), if_pos (by omega), if_pos (by omega), if_pos (by omega), r0 (by omega), r1 (by omega), r2 (by omega), r3 (by omega), w64 (bz bs 0) (by omega), w64 (bz bs 1) (by omega), w64 (bz bs 2) (by omega), w64 (bz bs 3) (by omega), w64 (bz bs 0 - 240) (by omega), w64 (bz bs 1 - 128) (by omega), w64 (bz bs 2 - 128) (by omega), w64 ((bz bs 0 - 240) * 262144) (by omega), w64 ((bz bs 1 - 128) * 4096) (by omega), w64 ((bz bs 2 - 128) * 64) (by omega), w64 ((bz bs 0 - 240) * 262144 + (bz bs 1 - 128) * 4096) (by omega), w64 ((bz bs 0 - 240) * 262144 + (bz bs 1 - 128) * 4096 + (bz bs 2 - 128) * 64) (by omega), w64 ((bz bs 0 - 240) * 262144 + (bz bs 1 - 128) * 4096 + (bz bs 2 - 128) * 64 + bz bs 3) (by omega), w64 _ (by omega)]
    rfl
theorem l0_end (k : Nat) (bs : List UInt8) (n : Nat) (h : bs.length < n ∨ 4 < n) : parlanceref04_first.l0 (k + 2) (ints bs) n = some (0, 0) := by
  have hj : ∀ b, b = false → parlanceref04_first.j1 (k + 1) (ints bs) n b = some (0, 0) := by
    rintro b rfl
    unfold parlanceref04_first.j1
    rw [if_neg (by simp)]
  unfold parlanceref04_first.l0
  split
  · exact hj _ (decide_eq_false (by rw [ints_length]; omega))
  · exact hj _ rfl
theorem fits_decode (bs : List UInt8) (n : Nat) (h : Fits bs n) : decodeL bs = ((cand bs n).toNat, (encodeRune (cand bs n)).length) ∧ ¬ Bad bs := by
  obtain ⟨h1, h2⟩ := h
  have e : bs = encodeRune (cand bs n) ++ bs.drop n := by rw [h2]; exact (List.take_append_drop n bs).symm
  have hd := decode_encode (cand bs n) h1 (bs.drop n)
  have hb := encode_not_bad (cand bs n) h1 (bs.drop n)
  rw [← e] at hd hb
  exact ⟨hd, hb⟩
set_option maxHeartbeats 2000000 in
theorem cand_encode (r : Int) (h : okR r) (t : List UInt8) : cand (encodeRune r ++ t) (encodeRune r).length = r := by
  obtain ⟨h0, h1, h2⟩ := h
  by_cases c1 : r ≤ 127
  · have e : encodeRune r = [r.toNat.toUInt8] := by simp [encodeRune, encodeRuneZ_one h0 c1]
    rw [e]
    simp only [cand, List.length_cons, List.length_nil, if_pos, bz, List.cons_append, List.nil_append, List.getD_cons_zero]
    exact toU8_toNat r (by omega)
  by_cases c2 : r ≤ 2047
  · have e : encodeRune r = [(192 + r / 64).toNat.toUInt8, (128 + r % 64).toNat.toUInt8] := by simp [encodeRune, encodeRuneZ_two (r := r) (by omega) c2]
    rw [e]
    simp only [cand, List.length_cons, List.length_nil, bz, List.cons_append, List.nil_append, List.getD_cons_zero, List.getD_cons_succ]
    rw [toU8_toNat (192 + r / 64) (by omega), toU8_toNat (128 + r % 64) (by omega)]
    simp
    omega
  by_cases c3 : r ≤ 65535
  · have e : encodeRune r = [(224 + r / 4096).toNat.toUInt8, (128 + r / 64 % 64).toNat.toUInt8, (128 + r % 64).toNat.toUInt8] := by simp [encodeRune, encodeRuneZ_three (r := r) (by omega)]
    rw [e]
    simp only [cand, List.length_cons, List.length_nil, bz, List.cons_append, List.nil_append, List.getD_cons_zero, List.getD_cons_succ]
    rw [toU8_toNat (224 + r / 4096) (by omega), toU8_toNat (128 + r / 64 % 64) (by omega), toU8_toNat (128 + r % 64) (by omega)]
    simp
    omega
  · have e : encodeRune r = [(240 + r / 262144).toNat.toUInt8, (128 + r / 4096 % 64).toNat.toUInt8, (128 + r / 64 % 64).toNat.toUInt8, (128 + r % 64).toNat.toUInt8] := by simp [encodeRune, encodeRuneZ_four (r := r) (by omega) h1]
    rw [e]
    simp only [cand, List.length_cons, List.length_nil, bz, List.cons_append, List.nil_append, List.getD_cons_zero, List.getD_cons_succ]
    rw [toU8_toNat (240 + r / 262144) (by omega), toU8_toNat (128 + r / 4096 % 64) (by omega), toU8_toNat (128 + r / 64 % 64) (by omega), toU8_toNat (128 + r % 64) (by omega)]
    simp
    omega
theorem decode_fits (bs : List UInt8) (hne : bs ≠ []) (hb : ¬ Bad bs) : Fits bs (decodeL bs).2 ∧ cand bs (decodeL bs).2 = (decodeL bs).1 := by
  have h1 := good_rune bs hne hb
  have h2 := good_take bs hne hb
  have h3 := good_len bs hne hb
  have e : bs = encodeRune ((decodeL bs).1 : Int) ++ bs.drop (decodeL bs).2 := by rw [← h2]; exact (List.take_append_drop _ bs).symm
  have hc : cand bs (decodeL bs).2 = (decodeL bs).1 := by
    have := cand_encode ((decodeL bs).1 : Int) h1 (bs.drop (decodeL bs).2)
    rw [← e, ← h3] at this
    exact this
  refine ⟨⟨by rw [hc]; exact h1, by rw [hc]; exact h2.symm⟩, hc⟩
theorem fits_iff (bs : List UInt8) (hne : bs ≠ []) (n : Nat) (hn : n ≤ bs.length) (h : Fits bs n) : ¬ Bad bs ∧ (decodeL bs).2 = n ∧ cand bs n = (decodeL bs).1 := by
  obtain ⟨hd, hb⟩ := fits_decode bs n h
  have hl : (encodeRune (cand bs n)).length = n := by rw [h.2, List.length_take]; omega
  refine ⟨hb, by rw [hd]; exact hl, ?_⟩
  rw [hd]
  have := h.1.1
  simp only
  omega
/-- What the reference's 'first' tells. -/
def firstOf (bs : List UInt8) : Int × Int := if bs = [] ∨ Bad bs then (0, 0) else (((decodeL bs).1 : Int), ((decodeL bs).2 : Int))
theorem first_from (bs : List UInt8) (hne : bs ≠ []) (d : Nat) : ∀ (n k : Nat), n + d = 5 → 1 ≤ n → (∀ m, 1 ≤ m → m < n → ¬ Fits bs m) → 3 * d + 2 ≤ k → parlanceref04_first.l0 k (ints bs) n = some (firstOf bs) := by
  have none_ : (∀ m, 1 ≤ m → m ≤ bs.length → m ≤ 4 → ¬ Fits bs m) → firstOf bs = (0, 0) := by
    intro hno
    unfold firstOf
    by_cases hb : Bad bs
    · rw [if_pos (.inr hb)]
    · exfalso
      have hf := (decode_fits bs hne hb).1
      have h1 := decodeL_width bs
      have h2 := decodeL_le bs hne
      have h3 : (decodeL bs).2 ≤ 4 := by rw [good_len bs hne hb]; exact (encode_length _).2
      exact hno _ h1 h2 h3 hf
  induction d with
  | zero =>
    intro n k hn h1 hno hk
    obtain ⟨k, rfl⟩ : ∃ j, k = j + 2 := ⟨k - 2, by omega⟩
    rw [l0_end k bs n (.inr (by omega)), none_ (fun m a _ b => hno m a (by omega))]
  | succ d ih =>
    intro n k hn h1 hno hk
    by_cases hl : n ≤ bs.length
    · obtain ⟨k, rfl⟩ : ∃ j, k = j + 3 := ⟨k - 3, by omega⟩
      rw [l0_eq k bs n h1 hl (by omega)]
      by_cases hf : Fits bs n
      · rw [if_pos hf]
        obtain ⟨hb, e1, e2⟩ := fits_iff bs hne n hl hf
        unfold firstOf
        rw [if_neg (by rintro (h | h); exact hne h; exact hb h), e1, e2]
      · rw [if_neg hf]
        exact ih (n + 1) k (by omega) (by omega) (fun m a b => by
          by_cases e : m = n
          · rw [e]; exact hf
          · exact hno m a (by omega)) (by omega)
    · obtain ⟨k, rfl⟩ : ∃ j, k = j + 2 := ⟨k - 2, by omega⟩
      rw [l0_end k bs n (.inl (by omega)), none_ (fun m a b _ => hno m a (by omega))]
theorem first_eq (bs : List UInt8) (k : Nat) (hk : 14 ≤ k) : parlanceref04_first.f k (ints bs) = some (firstOf bs) := by
  by_cases hne : bs = []
  · obtain ⟨k, rfl⟩ : ∃ j, k = j + 2 := ⟨k - 2, by omega⟩
    have := l0_end k bs 1 (.inl (by rw [hne]; simp))
    unfold parlanceref04_first.f firstOf
    rw [if_pos (.inl hne)]
    exact this
  · exact first_from bs hne 4 1 k (by omega) (by omega) (fun m a b => by omega) (by omega)
end Go.Proofs.YtjffpcjbbehooaaDoor.G
