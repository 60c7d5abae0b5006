/-
  The reference's 'first' is the model's decoder.
  parlanceref04.Runes: the runes, one by one off the front of []byte(s): its contract, in the printer's words.
-/
import Derived.Test.YtjffpcjbbehooaaDoorUtfBase
import Derived.Test.YtjffpcjbbehooaaDoorPUAx1
import Derived.Test.YtjffpcjbbehooaaDoorConvEv
import Derived.WalkKit
import Derived.Deep.LoopGhost
section
set_option linter.unusedVariables false
namespace Go.Proofs.YtjffpcjbbehooaaDoor.G
open Go.RowKit Go.Lib Go.Proofs.YtjffpcjbbehooaaDoorW.PrintWords Go.Proofs.YtjffpcjbbehooaaDoor.PUA
theorem isRune_eq (r : Int) : parlanceref04_isRune.f r = some (decide (okR r)) := by
  have e : decide (okR r) = decide (0 ≤ r ∧ r ≤ 1114111 ∧ ¬ (55296 ≤ r ∧ r ≤ 57343)) := rfl
  rw [e]
  unfold parlanceref04_isRune.f
  by_cases c0 : r ≥ 0
  · by_cases c1 : r ≤ 1114111
    · by_cases c2 : r ≥ 55296
      · rw [if_pos c0, if_pos c1, if_pos c2]
        by_cases c3 : r ≤ 57343
        · rw [decide_eq_true c3, decide_eq_false (by omega)]; rfl
        · rw [decide_eq_false c3, decide_eq_true (by omega)]; rfl
      · rw [if_pos c0, if_pos c1, if_neg c2, decide_eq_true (by omega)]; rfl
    · rw [if_pos c0, if_neg c1, decide_eq_false (by omega)]
  · rw [if_neg c0, decide_eq_false (by omega)]
theorem bytes_eq (r : Int) (h : okR r) : parlanceref04_bytes.f r = some (encodeRuneZ r) := by
  obtain ⟨h0, h1, h2⟩ := h
  have w (x : Int) (h : -9223372036854775808 ≤ x ∧ x ≤ 9223372036854775807) : wrap64 x = x := by unfold wrap64; omega
  have t1 : Int.tdiv r 64 = r / 64 := Int.tdiv_eq_ediv_of_nonneg h0
  have t2 : Int.tdiv r 4096 = r / 4096 := Int.tdiv_eq_ediv_of_nonneg h0
  have t3 : Int.tdiv r 262144 = r / 262144 := Int.tdiv_eq_ediv_of_nonneg h0
  have m0 : Int.tmod r 64 = r % 64 := Int.tmod_eq_emod_of_nonneg h0
  have m1 : Int.tmod (r / 64) 64 = r / 64 % 64 := Int.tmod_eq_emod_of_nonneg (by omega)
  have m2 : Int.tmod (r / 4096) 64 = r / 4096 % 64 := Int.tmod_eq_emod_of_nonneg (by omega)
  unfold parlanceref04_bytes.f
  rw [t1, t2, t3, m0, w (r / 64) (by omega), w (r / 4096) (by omega), w (r / 262144) (by omega), m1, m2, w (192 + r / 64) (by omega), w (128 + r % 64) (by omega), w (224 + r / 4096) (by omega), w (128 + r / 64 % 64) (by omega), w (240 + r / 262144) (by omega), w (128 + r / 4096 % 64) (by omega)]
  by_cases c1 : r < 128
  · rw [if_pos c1, encodeRuneZ_one h0 (by omega), show r % 256 = r from by omega]
  rw [if_neg c1]
  by_cases c2 : r < 2048
  · rw [if_pos c2, encodeRuneZ_two (by omega) (by omega), show (192 + r / 64) % 256 = 192 + r / 64 from by omega, show (128 + r % 64) % 256 = 128 + r % 64 from by omega]
  rw [if_neg c2]
  by_cases c3 : r < 65536
  · rw [if_pos c3, encodeRuneZ_three (by omega), show (224 + r / 4096) % 256 = 224 + r / 4096 from by omega, show (128 + r / 64 % 64) % 256 = 128 + r / 64 % 64 from by omega, show (128 + r % 64) % 256 = 128 + r % 64 from by omega]
  · rw [if_neg c3, encodeRuneZ_four (by omega) h1, show (240 + r / 262144) % 256 = 240 + r / 262144 from by omega, show (128 + r / 4096 % 64) % 256 = 128 + r / 4096 % 64 from by omega, show (128 + r / 64 % 64) % 256 = 128 + r / 64 % 64 from by omega, show (128 + r % 64) % 256 = 128 + r % 64 from by omega]
theorem strOf_encode (r : Int) : (strOfNums (encodeRuneZ r)).toList = encodeRune r := by rw [ByteArray.toList_eq]; rfl
theorem strOf_ints (bs : List UInt8) : (strOfNums (ints bs)).toList = bs := by
  rw [ByteArray.toList_eq]
  exact byteList_ints bs
def bz (bs : List UInt8) (i : Nat) : Int := ((bs.getD i 0).toNat : Int)
theorem bz_bound (bs : List UInt8) (i : Nat) : 0 ≤ bz bs i ∧ bz bs i ≤ 255 := by
  unfold bz
  have := (bs.getD i 0).toNat_lt
  omega
def cand (bs : List UInt8) (n : Nat) : Int :=
  if n = 1 then bz bs 0 else if n = 2 then (bz bs 0 - 192) * 64 + bz bs 1 - 128 else if n = 3 then (bz bs 0 - 224) * 4096 + (bz bs 1 - 128) * 64 + bz bs 2 - 128
  else (bz bs 0 - 240) * 262144 + (bz bs 1 - 128) * 4096 + (bz bs 2 - 128) * 64 + bz bs 3 - 128
/-- What is asked at n bytes. -/
def Fits (bs : List UInt8) (n : Nat) : Prop := okR (cand bs n) ∧ encodeRune (cand bs n) = bs.take n
instance (bs : List UInt8) (n : Nat) : Decidable (Fits bs n) := by unfold Fits; infer_instance
theorem j2_eq (k : Nat) (bs : List UInt8) (n : Nat) (hn : n ≤ bs.length) (hm : n ≤ 4) : parlanceref04_first.j2 (k + 1) (ints bs) n (cand bs n) = if Fits bs n then some (cand bs n, (n : Int)) else parlanceref04_first.l0 k (ints bs) ((n + 1 : Nat) : Int) := by
  have hw : wrap64 ((n : Int) + 1) = ((n + 1 : Nat) : Int) := by rw [w64 _ (by omega)]; omega
  simp only [parlanceref04_first.j2]
  rw [isRune_eq, Option.bind_some]
  by_cases c : okR (cand bs n)
  · rw [if_pos (by simpa using c), bytes_eq _ c, Option.bind_some, if_pos (by omega), if_pos (by rw [ints_length]; omega), strOf_encode, Int.toNat_natCast, ints_take, strOf_ints, hw]
    by_cases d : encodeRune (cand bs n) = bs.take n
    · rw [if_pos d, if_pos (show Fits bs n from ⟨c, d⟩)]
    · rw [if_neg d, if_neg (show ¬ Fits bs n from fun h => d h.2)]
  · rw [if_neg (by simpa using c), hw, if_neg (show ¬ Fits bs n from fun h => c h.1)]
theorem l0_eq (k : Nat) (bs : List UInt8) (n : Nat) (h1 : 1 ≤ n) (hn : n ≤ bs.length) (hm : n ≤ 4) : parlanceref04_first.l0 (k + 3) (ints bs) n = if Fits bs n then some (cand bs n, (n : Int)) else parlanceref04_first.l0 k (ints bs) ((n + 1 : Nat) : Int) := by
  rw [← j2_eq k bs n hn hm]
  conv => lhs; unfold parlanceref04_first.l0
  rw [if_pos (by omega), decide_eq_true (by rw [ints_length]; omega)]
  conv => lhs; unfold parlanceref04_first.j1
  rw [if_pos rfl]
  have b0 := bz_bound bs 0
  have b1 := bz_bound bs 1
  have b2 := bz_bound bs 2
  have b3 := bz_bound bs 3
  have r0 : 0 < bs.length → rd (ints bs) 0 = bz bs 0 := fun h => rd_ints bs 0 (by omega) (by omega)
  have r1 : 1 < bs.length → rd (ints bs) 1 = bz bs 1 := fun h => rd_ints bs 1 (by omega) (by omega)
  have r2 : 2 < bs.length → rd (ints bs) 2 = bz bs 2 := fun h => rd_ints bs 2 (by omega) (by omega)
  have r3 : 3 < bs.length → rd (ints bs) 3 = bz bs 3 := fun h => rd_ints bs 3 (by omega) (by omega)
  rw [ints_length]
  by_cases c1 : n = 1
  · subst c1
    rw [if_pos (by omega), if_pos (by omega), r0 (by omega), w64 _ (by omega)]
    rfl
  rw [if_neg (by omega)]
  by_cases c2 : n = 2
  · subst c2
    rw [if_pos (by omega), if_pos (by omega), if_pos (by omega), r0 (by omega), r1 (by omega), w64 (bz bs 0) (by omega), w64 (bz bs 1) (by omega), w64 (bz bs 0 - 192) (by omega), w64 ((bz bs 0 - 192) * 64) (by omega), w64 ((bz bs 0 - 192) * 64 + bz bs 1) (by omega), w64 _ (by omega)]
    rfl
  rw [if_neg (by omega)]
  by_cases c3 : n = 3
  · subst c3
    rw [if_pos (by omega), if_pos (by omega), if_pos (by omega), if_pos (by omega), r0 (by omega), r1 (by omega), r2 (by omega), w64 (bz bs 0) (by omega), w64 (bz bs 1) (by omega), w64 (bz bs 2) (by omega), w64 (bz bs 0 - 224) (by omega), w64 (bz bs 1 - 128) (by omega), w64 ((bz bs 0 - 224) * 4096) (by omega), w64 ((bz bs 1 - 128) * 64) (by omega), w64 ((bz bs 0 - 224) * 4096 + (bz bs 1 - 128) * 64) (by omega), w64 ((bz bs 0 - 224) * 4096 + (bz bs 1 - 128) * 64 + bz bs 2) (by omega), w64 _ (by omega)]
    rfl
  · obtain rfl : n = 4 := by omega
    rw [if_neg (by omega), if_pos (by omega), if_pos (by omega), if_pos (by omega), if_pos (by omega), if_pos (by omega), r0 (by omega), r1 (by omega), r2 (by omega), r3 (by omega), w64 (bz bs 0) (by omega), w64 (bz bs 1) (by omega), w64 (bz bs 2) (by omega), w64 (bz bs 3) (by omega), w64 (bz bs 0 - 240) (by omega), w64 (bz bs 1 - 128) (by omega), w64 (bz bs 2 - 128) (by omega), w64 ((bz bs 0 - 240) * 262144) (by omega), w64 ((bz bs 1 - 128) * 4096) (by omega), w64 ((bz bs 2 - 128) * 64) (by omega), w64 ((bz bs 0 - 240) * 262144 + (bz bs 1 - 128) * 4096) (by omega), w64 ((bz bs 0 - 240) * 262144 + (bz bs 1 - 128) * 4096 + (bz bs 2 - 128) * 64) (by omega), w64 ((bz bs 0 - 240) * 262144 + (bz bs 1 - 128) * 4096 + (bz bs 2 - 128) * 64 + bz bs 3) (by omega), w64 _ (by omega)]
    rfl
theorem l0_end (k : Nat) (bs : List UInt8) (n : Nat) (h : bs.length < n ∨ 4 < n) : parlanceref04_first.l0 (k + 2) (ints bs) n = some (0, 0) := by
  have hj : ∀ b, b = false → parlanceref04_first.j1 (k + 1) (ints bs) n b = some (0, 0) := by
    rintro b rfl
    unfold parlanceref04_first.j1
    rw [if_neg (by simp)]
  unfold parlanceref04_first.l0
  split
  · exact hj _ (decide_eq_false (by rw [ints_length]; omega))
  · exact hj _ rfl
theorem fits_decode (bs : List UInt8) (n : Nat) (h : Fits bs n) : decodeL bs = ((cand bs n).toNat, (encodeRune (cand bs n)).length) ∧ ¬ Bad bs := by
  obtain ⟨h1, h2⟩ := h
  have e : bs = encodeRune (cand bs n) ++ bs.drop n := by rw [h2]; exact (List.take_append_drop n bs).symm
  have hd := decode_encode (cand bs n) h1 (bs.drop n)
  have hb := encode_not_bad (cand bs n) h1 (bs.drop n)
  rw [← e] at hd hb
  exact ⟨hd, hb⟩
set_option maxHeartbeats 2000000 in
theorem cand_encode (r : Int) (h : okR r) (t : List UInt8) : cand (encodeRune r ++ t) (encodeRune r).length = r := by
  obtain ⟨h0, h1, h2⟩ := h
  by_cases c1 : r ≤ 127
  · have e : encodeRune r = [r.toNat.toUInt8] := by simp [encodeRune, encodeRuneZ_one h0 c1]
    rw [e]
    simp only [cand, List.length_cons, List.length_nil, if_pos, bz, List.cons_append, List.nil_append, List.getD_cons_zero]
    exact toU8_toNat r (by omega)
  by_cases c2 : r ≤ 2047
  · have e : encodeRune r = [(192 + r / 64).toNat.toUInt8, (128 + r % 64).toNat.toUInt8] := by simp [encodeRune, encodeRuneZ_two (r := r) (by omega) c2]
    rw [e]
    simp only [cand, List.length_cons, List.length_nil, bz, List.cons_append, List.nil_append, List.getD_cons_zero, List.getD_cons_succ]
    rw [toU8_toNat (192 + r / 64) (by omega), toU8_toNat (128 + r % 64) (by omega)]
    simp
    omega
  by_cases c3 : r ≤ 65535
  · have e : encodeRune r = [(224 + r / 4096).toNat.toUInt8, (128 + r / 64 % 64).toNat.toUInt8, (128 + r % 64).toNat.toUInt8] := by simp [encodeRune, encodeRuneZ_three (r := r) (by omega)]
    rw [e]
    simp only [cand, List.length_cons, List.length_nil, bz, List.cons_append, List.nil_append, List.getD_cons_zero, List.getD_cons_succ]
    rw [toU8_toNat (224 + r / 4096) (by omega), toU8_toNat (128 + r / 64 % 64) (by omega), toU8_toNat (128 + r % 64) (by omega)]
    simp
    omega
  · have e : encodeRune r = [(240 + r / 262144).toNat.toUInt8, (128 + r / 4096 % 64).toNat.toUInt8, (128 + r / 64 % 64).toNat.toUInt8, (128 + r % 64).toNat.toUInt8] := by simp [encodeRune, encodeRuneZ_four (r := r) (by omega) h1]
    rw [e]
    simp only [cand, List.length_cons, List.length_nil, bz, List.cons_append, List.nil_append, List.getD_cons_zero, List.getD_cons_succ]
    rw [toU8_toNat (240 + r / 262144) (by omega), toU8_toNat (128 + r / 4096 % 64) (by omega), toU8_toNat (128 + r / 64 % 64) (by omega), toU8_toNat (128 + r % 64) (by omega)]
    simp
    omega
theorem decode_fits (bs : List UInt8) (hne : bs ≠ []) (hb : ¬ Bad bs) : Fits bs (decodeL bs).2 ∧ cand bs (decodeL bs).2 = (decodeL bs).1 := by
  have h1 := good_rune bs hne hb
  have h2 := good_take bs hne hb
  have h3 := good_len bs hne hb
  have e : bs = encodeRune ((decodeL bs).1 : Int) ++ bs.drop (decodeL bs).2 := by rw [← h2]; exact (List.take_append_drop _ bs).symm
  have hc : cand bs (decodeL bs).2 = (decodeL bs).1 := by
    have := cand_encode ((decodeL bs).1 : Int) h1 (bs.drop (decodeL bs).2)
    rw [← e, ← h3] at this
    exact this
  refine ⟨⟨by rw [hc]; exact h1, by rw [hc]; exact h2.symm⟩, hc⟩
theorem fits_iff (bs : List UInt8) (hne : bs ≠ []) (n : Nat) (hn : n ≤ bs.length) (h : Fits bs n) : ¬ Bad bs ∧ (decodeL bs).2 = n ∧ cand bs n = (decodeL bs).1 := by
  obtain ⟨hd, hb⟩ := fits_decode bs n h
  have hl : (encodeRune (cand bs n)).length = n := by rw [h.2, List.length_take]; omega
  refine ⟨hb, by rw [hd]; exact hl, ?_⟩
  rw [hd]
  have := h.1.1
  simp only
  omega
/-- What the reference's 'first' tells. -/
def firstOf (bs : List UInt8) : Int × Int := if bs = [] ∨ Bad bs then (0, 0) else (((decodeL bs).1 : Int), ((decodeL bs).2 : Int))
theorem first_from (bs : List UInt8) (hne : bs ≠ []) (d : Nat) : ∀ (n k : Nat), n + d = 5 → 1 ≤ n → (∀ m, 1 ≤ m → m < n → ¬ Fits bs m) → 3 * d + 2 ≤ k → parlanceref04_first.l0 k (ints bs) n = some (firstOf bs) := by
  have none_ : (∀ m, 1 ≤ m → m ≤ bs.length → m ≤ 4 → ¬ Fits bs m) → firstOf bs = (0, 0) := by
    intro hno
    unfold firstOf
    by_cases hb : Bad bs
    · rw [if_pos (.inr hb)]
    · exfalso
      have hf := (decode_fits bs hne hb).1
      have h1 := decodeL_width bs
      have h2 := decodeL_le bs hne
      have h3 : (decodeL bs).2 ≤ 4 := by rw [good_len bs hne hb]; exact (encode_length _).2
      exact hno _ h1 h2 h3 hf
  induction d with
  | zero =>
    intro n k hn h1 hno hk
    obtain ⟨k, rfl⟩ : ∃ j, k = j + 2 := ⟨k - 2, by omega⟩
    rw [l0_end k bs n (.inr (by omega)), none_ (fun m a _ b => hno m a (by omega))]
  | succ d ih =>
    intro n k hn h1 hno hk
    by_cases hl : n ≤ bs.length
    · obtain ⟨k, rfl⟩ : ∃ j, k = j + 3 := ⟨k - 3, by omega⟩
      rw [l0_eq k bs n h1 hl (by omega)]
      by_cases hf : Fits bs n
      · rw [if_pos hf]
        obtain ⟨hb, e1, e2⟩ := fits_iff bs hne n hl hf
        unfold firstOf
        rw [if_neg (by rintro (h | h); exact hne h; exact hb h), e1, e2]
      · rw [if_neg hf]
        exact ih (n + 1) k (by omega) (by omega) (fun m a b => by
          by_cases e : m = n
          · rw [e]; exact hf
          · exact hno m a (by omega)) (by omega)
    · obtain ⟨k, rfl⟩ : ∃ j, k = j + 2 := ⟨k - 2, by omega⟩
      rw [l0_end k bs n (.inl (by omega)), none_ (fun m a b _ => hno m a (by omega))]
theorem first_eq (bs : List UInt8) (k : Nat) (hk : 14 ≤ k) : parlanceref04_first.f k (ints bs) = some (firstOf bs) := by
  by_cases hne : bs = []
  · obtain ⟨k, rfl⟩ : ∃ j, k = j + 2 := ⟨k - 2, by omega⟩
    have := l0_end k bs 1 (.inl (by rw [hne]; simp))
    unfold parlanceref04_first.f firstOf
    rw [if_pos (.inl hne)]
    exact this
  · exact first_from bs hne 4 1 k (by omega) (by omega) (fun m a b => by omega) (by omega)
end Go.Proofs.YtjffpcjbbehooaaDoor.G
end
section
set_option linter.unusedVariables false
namespace Go.Proofs.YtjffpcjbbehooaaDoor.G
open Go.RowKit Go.Lib Go.Proofs.YtjffpcjbbehooaaDoorW.PrintWords Go.Proofs.YtjffpcjbbehooaaDoor.PUA
theorem infoI : (Tryd.prog.info? 3).map (fun i => (i.zero, i.size, i.bytes)) = some (some (.int .i64 0), 1, 8) := by kernel_rfl
theorem infoB : (Tryd.prog.info? 5).map (fun i => (i.zero, i.size, i.bytes)) = some (some (.int .u8 0), 1, 1) := by kernel_rfl
def GRefRunes.f (a0 : ByteArray) : Option (List Int × Int) := if a0.size ≤ 17592186044416 then some (if Lib.validD a0.data.toList then (runes a0.data.toList, 0) else ([], 40)) else none
/-- The front that is still to be read lies in memory. -/
def Rest (wr : World) (A : Option Addr) (n c : Nat) (d : List UInt8) : Prop := n = d.length ∧ n ≤ c ∧ Kd.C (Kd.int .u8) wr A (ints d).length (ints d)
theorem Rest.below {wr w2 : World} {A : Option Addr} {n c : Nat} {d : List UInt8} (h : Rest wr A n c d) (hb : Below wr.heap.size wr w2) : Rest w2 A n c d := ⟨h.1, h.2.1, Kd.C_below h.2.2 hb⟩
theorem Rest.call {wr : World} {A : Option Addr} {n c : Nat} {d : List UInt8} (h : Rest wr A n c d) : Calls Tryd.prog 41 #[.slice A n c] wr fun e w' => e = .returned (.tuple #[.int .i64 (firstOf d).1, .int .i64 (firstOf d).2]) ∧ Below wr.heap.size wr w' := by
  obtain ⟨h1, h2, h3⟩ := h
  have hl : (ints d).length = n := by rw [ints_length, h1]
  have := parlanceref04_first.calls 14 A c (ints d) (firstOf d).1 (firstOf d).2 wr h3 (by omega) (first_eq d 14 (by omega))
  rw [hl] at this
  exact this
theorem Rest.cut {A : Option Addr} {n c : Nat} {d : List UInt8} (m : Nat) (hm : m ≤ d.length) (hn : n = d.length) (hc : n ≤ c) : ∃ A' n' c', (∀ W : World, (Instr.slice 46 (.slice A n c) (some (.int .i64 (m : Int))) none none).run Tryd.prog W = .ok (.slice A' n' c') W) ∧ ∀ wr : World, Rest wr A n c d → Rest wr A' n' c' (d.drop m) := by
  obtain ⟨i0, hi, _, hsz, _⟩ := info_parts infoB
  have hl : (ints d).length = n := by rw [ints_length, hn]
  obtain ⟨A', h1, h2, h3⟩ := print_drop_of (P := Tryd.prog) (Value.int .u8) 0 46 5 .i64 Tryd.underlying46 hi hsz A c (ints d) (m : Int) (by omega) (by rw [ints_length]; omega) (by omega)
  simp only [Int.toNat_natCast] at h1 h2 h3
  rw [hl] at h1
  refine ⟨A', ((ints d).drop m).length, c - m, h1, fun wr hr => ⟨by rw [ints_drop, ints_length], h3, ?_⟩⟩
  have := Kd.C_of_reads (h1 := fun _ => rfl) (h2 wr (Kd.reads_of_C hr.2.2))
  rw [ints_drop] at this
  exact this
theorem own_snoc {W : World} {base : Nat} {e : TypeId} {v : Value} {rs : List Int} {x : Int} (h : W.ownsRow base e 1 v (rs.length + 1) (nums .i64 rs ++ [.int .i64 x])) : W.ownsRow base e 1 v (rs ++ [x]).length (nums .i64 (rs ++ [x])) := by
  rw [List.length_append, show nums .i64 (rs ++ [x]) = nums .i64 rs ++ [.int .i64 x] from by simp [nums]]
  exact h
set_option maxHeartbeats 2000000 in
set_option maxRecDepth 100000 in
theorem GRefRunes.calls (a0 : ByteArray) (r1 : List Int) (r2 : Int) (w : World) (h : GRefRunes.f a0 = some (r1, r2)) :
    Calls Tryd.prog 37 #[.string a0] w fun e w' => ∃ v0_ : Value, e = .returned (.tuple #[v0_, .int .i64 r2]) ∧ Kd.R (Kd.int .i64) 3 w' w.heap.size (fun _ => True) v0_ r1 ∧ Below w.heap.size w w' := by
  unfold GRefRunes.f at h
  split at h
  case isFalse => cases h
  case isTrue hs =>
    have H := Aside0.mk (Option.some.inj h)
    clear h
    obtain ⟨i0, hi, hz0, hz1, hz2⟩ := info_parts infoI
    have hcv := Lib.run_convert_string_bytes (P := Tryd.prog) w 9 46 5 a0 Tryd.underlying9 Tryd.underlying46 Tryd.underlying5
    have HB := Aside0.mk (conv_below w 5 a0)
    have hsz := bytesWorld_size w 5 a0
    have HR := Aside0.mk (show Rest (bytesWorld w 5 a0) (some ⟨w.heap.size, 0, none⟩) a0.size (grownCap w a0.size 0 5) a0.data.toList from ⟨Lib.size_eq a0, conv_cap w 5 a0, conv_reads w 5 a0 (by omega)⟩)
    generalize bytesWorld w 5 a0 = W1 at hcv HB hsz HR
    generalize grownCap w a0.size 0 5 = C1 at hcv HR
    have Hsz := Aside0.mk hsz
    have Hs := Aside0.mk hs
    clear hsz hs
    go_enter Tryd.func37, Tryd.ntmps37
    go_wp2
    clear hcv
    go_loopg [4, 5] (a0.size + 1) (fun gk v4 v5 wr => ∃ A n c d rs, v4 = .slice A n c ∧ Aside0 (Rest W1 A n c d) ∧ Aside0 (wr.ownsRow W1.heap.size 3 1 v5 rs.length (nums .i64 rs)) ∧ Aside0 (Below W1.heap.size W1 wr) ∧ Aside0 (rs ++ runes d = runes a0.data.toList ∧ Lib.validD d = Lib.validD a0.data.toList ∧ rs.length + d.length ≤ a0.size ∧ d.length < gk))
    case atStart =>
      refine ⟨_, _, _, a0.data.toList, [], rfl, HR, ⟨⟨rfl, .inr ⟨W1.heap.size, 0, #[], rfl, Nat.le_refl _, ?_, Nat.le_refl _, Nat.zero_le _, rfl, rfl⟩⟩⟩, ⟨below_alloc (Below.refl _ _) _⟩, ⟨rfl, rfl, by simp, by rw [← Lib.size_eq]; omega⟩⟩
      show (W1.heap.push _)[W1.heap.size]? = _
      simp
    case round =>
      obtain ⟨A, n, c, d, rs, rfl, HRr, HO, HBr, HP⟩ := hrel
      have hnd := HRr.out.1
      by_cases hd : d = []
      · have hn0 : n = 0 := by rw [hnd, hd]; rfl
        subst hn0
        have hp := HP.out
        rw [hd, runes_nil, List.append_nil, Lib.validD_nil] at hp
        have hr := H.out
        rw [← hp.2.1] at hr
        simp only [if_true, Prod.mk.injEq] at hr
        have hH := Aside0.mk (show wr.ownsRow w.heap.size 3 1 u5 r1.length (encs (Value.int .i64) r1) by rw [← hr.1, ← hp.1]; exact own_less HO.out HB.out.size)
        obtain rfl := hr.2
        have HBe := Aside0.mk (below_step HB.out HBr.out)
        clear hp hr H HP HO hnd hd HRr HR HB HBr
        go_wp2
        go_ret2
        exact ⟨_, rfl, Kd.R_of_own hH.out (fun _ _ => trivial), HBe.out⟩
      · have hn0 : 0 < n := by rw [hnd]; exact List.length_pos_iff.2 hd
        have hnz : (0 : Int) < (n : Int) := by omega
        have HC := Aside0.mk (HRr.out.below HBr.out).call
        by_cases hb : Bad d
        · have e : firstOf d = (0, 0) := by unfold firstOf; rw [if_pos (.inr hb)]
          have hc := HC.out
          rw [e] at hc
          dsimp only at hc
          have HC2 := Aside0.mk hc
          have hv : Lib.validD d = false := valid_bad d hd hb
          have hr := H.out
          rw [← HP.out.2.1, hv] at hr
          simp only [Bool.false_eq_true, if_false, Prod.mk.injEq] at hr
          obtain ⟨rfl, rfl⟩ := hr
          have HBe := Aside0.mk (below_step HB.out HBr.out)
          clear e hc HC hv hb hd HP H HO HRr HR hnd HB HBr
          go_wp2_with (go_at_call 41; refine HC2.out.mono ?_; rintro e w2 ⟨rfl, hb⟩; have HB2 := Aside0.mk hb; clear hb)
          go_ret2
          exact ⟨_, rfl, Kd.R_nil _ _ _ _ _, below_step HBe.out HB2.out⟩
        · have e : firstOf d = (((decodeL d).1 : Int), ((decodeL d).2 : Int)) := by unfold firstOf; rw [if_neg (by rintro (h | h); exact hd h; exact hb h)]
          have hw1 := decodeL_width d
          have hw2 := decodeL_le d hd
          have hrn := decodeL_rune d
          have hst := runes_step d hd
          have hvs := valid_good d hd hb
          obtain ⟨x, m, hxm⟩ : ∃ x m, decodeL d = (x, m) := ⟨_, _, rfl⟩
          rw [hxm] at e hw1 hw2 hrn hst hvs
          dsimp only at e hw1 hw2 hrn hst hvs
          have hc := HC.out
          rw [e] at hc
          dsimp only at hc
          have HC2 := Aside0.mk hc
          obtain ⟨A', n', c', hcut, hcutR⟩ := Rest.cut (A := A) (n := n) (c := c) (d := d) m hw2 hnd HRr.out.2.1
          have HR2 := Aside0.mk (hcutR W1 HRr.out)
          have HQ := Aside0.mk (show (rs ++ [(x : Int)]) ++ runes (d.drop m) = runes a0.data.toList ∧ Lib.validD (d.drop m) = Lib.validD a0.data.toList ∧ (rs ++ [(x : Int)]).length + (d.drop m).length ≤ a0.size ∧ (d.drop m).length < d.length by
            refine ⟨?_, by rw [← hvs]; exact HP.out.2.1, ?_, by rw [List.length_drop]; omega⟩
            · rw [List.append_assoc, List.singleton_append, ← hst]; exact HP.out.1
            · have := HP.out.2.2.1
              rw [List.length_append, List.length_drop, List.length_singleton]
              omega)
          have hmz : (1 : Int) ≤ (m : Int) := by omega
          have hm0 : ((m : Int) == 0) = false := beq_eq_false_iff_ne.2 (by omega)
          have Hl := Aside0.mk (show rs.length + 1 ≤ a0.size by have := HP.out.2.2.1; omega)
          have HG := Aside0.mk HP.out.2.2.2
          have hxb : (x : Int) ≤ 1114111 := by omega
          clear e hc HC hb hd HP H HRr HR hnd hw1 hw2 hst hvs hxm hcutR hrn
          go_wp2_with (first
            | (go_at_call 41; refine HC2.out.mono ?_; rintro e w2 ⟨rfl, hb⟩; have HO2 := Aside0.mk (own_move HO.out (fun j e => hb.block j (own_lt HO.out j e))); have HB3 := Aside0.mk (below_step HBr.out hb); clear hb HO HBr HC2)
            | (at_builtin; refine wpList_append_own _ rfl _ _ 55 rfl W1.heap.size 3 i0 (.int .i64 0) 1 8 Tryd.underlying55 hi hz0 hz1 hz2 rfl (by decide) _ _ _ rfl (HO2.out.alloc _) ⟨w2.heap.size, 0, none⟩ 1 1 [.int .i64 x] rfl rfl (one_cell_new _ _ _) one_cell_ok ?c3 ?c4 ?c5 ?_; (case c3 => have := Hl.out; have := Hs.out; unfold maxLen; omega); (case c4 => have := Hl.out; have := Hs.out; omega); (case c5 => have := HB3.out.size; simp; omega); intro v' w3 hown' hg hx_; have HO3 := Aside0.mk (own_snoc hown'); have HB4 := Aside0.mk ((HB3.out.alloc HB3.out.size _).grown hg (by have := HB3.out.size; simp; omega) (fun j e => own_base HO2.out j e)); clear hown' hg hx_ HO2 HB3))
          obtain ⟨gk, rfl⟩ : ∃ g, gk = g + 1 := ⟨gk - 1, by have := HG.out; omega⟩
          go_roundg gk
          case measure => omega
          case rel => exact ⟨A', n', c', d.drop m, rs ++ [(x : Int)], rfl, HR2, HO3, HB4, ⟨HQ.out.1, HQ.out.2.1, HQ.out.2.2.1, by have := HQ.out.2.2.2; have := HG.out; omega⟩⟩
end Go.Proofs.YtjffpcjbbehooaaDoor.G
end
