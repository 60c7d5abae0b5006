/-
  Plain facts on UTF-8: what encodes is decoded again; a text is its runes' bytes.
-/
import Derived.Test.YtjffpcjbbehooaaDoorUtfWords
import Derived.Laws.Strings
namespace Go.Proofs.YtjffpcjbbehooaaDoor.G
open Go.Lib
/-- A rune's number. -/
def okR (r : Int) : Prop := 0 ≤ r ∧ r ≤ 1114111 ∧ ¬ (55296 ≤ r ∧ r ≤ 57343)
instance (r : Int) : Decidable (okR r) := by unfold okR; infer_instance
theorem toU8_toNat (x : Int) (h : 0 ≤ x ∧ x < 256) : ((x.toNat.toUInt8).toNat : Int) = x := by
  have : (x.toNat.toUInt8).toNat = x.toNat := by
    show (UInt8.ofNat x.toNat).toNat = _
    rw [UInt8.toNat_ofNat']
    exact Nat.mod_eq_of_lt (by omega)
  rw [this]
  exact Int.toNat_of_nonneg h.1
theorem toU8_toNat' (x : Int) (n : Nat) (h : x = n) (hn : n < 256) : (x.toNat.toUInt8).toNat = n := by
  have := toU8_toNat x (by omega)
  omega
set_option maxRecDepth 100000 in
set_option maxHeartbeats 4000000 in
/-- What a rune's bytes open is decoded as that rune. -/
theorem decode_encode (r : Int) (h : okR r) (t : List UInt8) : decodeL (encodeRune r ++ t) = (r.toNat, (encodeRune r).length) := by
  obtain ⟨h0, h1, h2⟩ := h
  rw [decodeL_N]
  by_cases c1 : r ≤ 127
  · have e : encodeRune r = [r.toNat.toUInt8] := by simp [encodeRune, encodeRuneZ_one h0 c1]
    have hb := toU8_toNat' r r.toNat (by omega) (by omega)
    rw [e]
    simp only [List.cons_append, List.nil_append, List.getD_cons_zero, List.length_cons, List.length_nil, hb]
    unfold decodeN
    rw [if_pos (by omega)]
  by_cases c2 : r ≤ 2047
  · have e : encodeRune r = [(192 + r / 64).toNat.toUInt8, (128 + r % 64).toNat.toUInt8] := by simp [encodeRune, encodeRuneZ_two (r := r) (by omega) c2]
    have hb0 := toU8_toNat' (192 + r / 64) (192 + r / 64).toNat (by omega) (by omega)
    have hb1 := toU8_toNat' (128 + r % 64) (128 + r % 64).toNat (by omega) (by omega)
    rw [e]
    simp only [List.cons_append, List.nil_append, List.getD_cons_zero, List.getD_cons_succ, List.length_cons, List.length_nil, hb0, hb1]
    generalize (t.getD 0 0).toNat = x2
    generalize (t.getD 1 0).toNat = x3
    obtain ⟨a, ha⟩ : ∃ a : Nat, r = a := ⟨r.toNat, by omega⟩
    subst ha
    unfold decodeN
    rw [if_neg (by omega), if_pos ⟨by omega, by omega, by omega⟩, if_pos (by omega)]
    apply Prod.ext <;> simp only <;> omega
  by_cases c3 : r ≤ 65535
  · have e : encodeRune r = [(224 + r / 4096).toNat.toUInt8, (128 + r / 64 % 64).toNat.toUInt8, (128 + r % 64).toNat.toUInt8] := by simp [encodeRune, encodeRuneZ_three (r := r) (by omega)]
    have hb0 := toU8_toNat' (224 + r / 4096) (224 + r / 4096).toNat (by omega) (by omega)
    have hb1 := toU8_toNat' (128 + r / 64 % 64) (128 + r / 64 % 64).toNat (by omega) (by omega)
    have hb2 := toU8_toNat' (128 + r % 64) (128 + r % 64).toNat (by omega) (by omega)
    rw [e]
    simp only [List.cons_append, List.nil_append, List.getD_cons_zero, List.getD_cons_succ, List.length_cons, List.length_nil, hb0, hb1, hb2]
    generalize (t.getD 0 0).toNat = x3
    obtain ⟨a, ha⟩ : ∃ a : Nat, r = a := ⟨r.toNat, by omega⟩
    subst ha
    unfold decodeN
    rw [if_neg (by omega), if_neg (by omega), if_pos ⟨by omega, ⟨by omega, by omega⟩, by omega, by omega⟩, if_pos (by omega)]
    apply Prod.ext <;> simp only <;> omega
  · have e : encodeRune r = [(240 + r / 262144).toNat.toUInt8, (128 + r / 4096 % 64).toNat.toUInt8, (128 + r / 64 % 64).toNat.toUInt8, (128 + r % 64).toNat.toUInt8] := by simp [encodeRune, encodeRuneZ_four (r := r) (by omega) h1]
    have hb0 := toU8_toNat' (240 + r / 262144) (240 + r / 262144).toNat (by omega) (by omega)
    have hb1 := toU8_toNat' (128 + r / 4096 % 64) (128 + r / 4096 % 64).toNat (by omega) (by omega)
    have hb2 := toU8_toNat' (128 + r / 64 % 64) (128 + r / 64 % 64).toNat (by omega) (by omega)
    have hb3 := toU8_toNat' (128 + r % 64) (128 + r % 64).toNat (by omega) (by omega)
    rw [e]
    simp only [List.cons_append, List.nil_append, List.getD_cons_zero, List.getD_cons_succ, List.length_cons, List.length_nil, hb0, hb1, hb2, hb3]
    obtain ⟨a, ha⟩ : ∃ a : Nat, r = a := ⟨r.toNat, by omega⟩
    subst ha
    unfold decodeN
    rw [if_neg (by omega), if_neg (by omega), if_neg (by omega), if_pos ⟨by omega, ⟨by omega, by omega⟩, ⟨by omega, by omega⟩, by omega, by omega⟩, if_pos (by omega)]
    apply Prod.ext <;> simp only <;> omega
theorem encode_length (r : Int) : 1 ≤ (encodeRune r).length ∧ (encodeRune r).length ≤ 4 := by
  have := encodeRuneZ_length r
  simpa [encodeRune] using this
/-- No rune's bytes stand at the front. -/
def Bad (l : List UInt8) : Prop := (decodeL l).1 = 65533 ∧ (decodeL l).2 = 1
instance (l : List UInt8) : Decidable (Bad l) := by unfold Bad; infer_instance
set_option maxRecDepth 100000 in
set_option maxHeartbeats 4000000 in
theorem good_rune (l : List UInt8) (hne : l ≠ []) (hb : ¬ Bad l) : okR ((decodeL l).1 : Int) := by
  have hle := decodeL_le l hne
  unfold Bad at hb
  unfold okR
  rw [decodeL_N] at hb hle ⊢
  generalize (l.getD 0 0).toNat = b0 at *
  generalize (l.getD 1 0).toNat = b1 at *
  generalize (l.getD 2 0).toNat = b2 at *
  generalize (l.getD 3 0).toNat = b3 at *
  unfold decodeN at hb ⊢
  repeat' split at hb
  all_goals simp only at hb
  all_goals first
    | (exfalso; exact hb ⟨rfl, rfl⟩)
    | skip
  all_goals (repeat' split)
  all_goals first
    | omega
    | (simp only; omega)
    | contradiction
theorem good_take (l : List UInt8) (hne : l ≠ []) (hb : ¬ Bad l) : l.take (decodeL l).2 = encodeRune ((decodeL l).1 : Int) := (encode_decode l hne hb).symm
theorem good_len (l : List UInt8) (hne : l ≠ []) (hb : ¬ Bad l) : (decodeL l).2 = (encodeRune ((decodeL l).1 : Int)).length := by
  rw [← good_take l hne hb, List.length_take]
  have := decodeL_le l hne
  omega
theorem encode_not_bad (r : Int) (h : okR r) (t : List UInt8) : ¬ Bad (encodeRune r ++ t) := by
  unfold Bad
  rw [decode_encode r h t]
  rintro ⟨h1, h2⟩
  have : r = 65533 := by obtain ⟨h0, _⟩ := h; simp at h1; omega
  subst this
  revert h2
  decide
theorem valid_bad (l : List UInt8) (hne : l ≠ []) (hb : Bad l) : validD l = false := by
  rw [validD_step l hne]
  exact if_pos hb
theorem valid_good (l : List UInt8) (hne : l ≠ []) (hb : ¬ Bad l) : validD l = validD (l.drop (decodeL l).2) := by
  rw [validD_step l hne]
  exact if_neg hb
end Go.Proofs.YtjffpcjbbehooaaDoor.G
