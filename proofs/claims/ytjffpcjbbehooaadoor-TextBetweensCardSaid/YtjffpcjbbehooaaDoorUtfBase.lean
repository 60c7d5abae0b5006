/-
  The premise on the two tables of unicode/utf8, and that it stays where memory only grows.
  Plain words on a text's runes, as the model decodes them: no program in sight.
  Plain facts on UTF-8: what encodes is decoded again; a text is its runes' bytes.
  utf8.ValidString and utf8.DecodeRune at this dump, by the shelf's contracts, in the printer's words.
-/
import Derived.Test.YtjffpcjbbehooaaDoorProg
import Derived.Lib.DecodeN
import Derived.Below
import Derived.Lib.ValidLaws
import Derived.Lib.MapLaws
import Derived.Lib.RuneBytes
import Derived.Laws.Strings
import Derived.Test.YtjffpcjbbehooaaDoorWWords
import Derived.Test.YtjffpcjbbehooaaDoorShelf
section
namespace Go.Proofs.YtjffpcjbbehooaaDoor.G
open Go.RowKit
/-- unicode/utf8.first and acceptRanges both read as their initialisers lay them. -/
def T8 (w : World) : Prop :=
  (∀ c, c < 256 → w.cell? ⟨0, c, none⟩ = some (.int .u8 (Lib.firstT c))) ∧
  (∀ i, i < 16 → w.cell? ⟨1, 2 * i, none⟩ = some (.int .u8 (Lib.accLo i)) ∧ w.cell? ⟨1, 2 * i + 1, none⟩ = some (.int .u8 (Lib.accHi i)))
theorem T8_below {w0 w : World} (h : T8 w0) (hb : Below w0.heap.size w0 w) : T8 w :=
  ⟨fun c hc => (hb.cell (World.block_lt_of_cell? w0 _ (h.1 c hc))).trans (h.1 c hc),
   fun i hi => ⟨(hb.cell (World.block_lt_of_cell? w0 _ (h.2 i hi).1)).trans (h.2 i hi).1, (hb.cell (World.block_lt_of_cell? w0 _ (h.2 i hi).2)).trans (h.2 i hi).2⟩⟩
end Go.Proofs.YtjffpcjbbehooaaDoor.G
end
section
namespace Go.Proofs.YtjffpcjbbehooaaDoor.G
open Go.Lib
def byteList (l : List Int) : List UInt8 := l.map fun x => UInt8.ofNat x.toNat
def runesGo : Nat → List UInt8 → List Int
  | 0, _ => []
  | n + 1, l => if l = [] then [] else ((decodeL l).1 : Int) :: runesGo n (l.drop (decodeL l).2)
/-- The runes that a range over a text tells. -/
def runes (l : List UInt8) : List Int := runesGo l.length l
theorem runesGo_fuel : ∀ (n m : Nat) (l : List UInt8), l.length ≤ n → l.length ≤ m → runesGo n l = runesGo m l
  | 0, m, l, h, _ => by
    obtain rfl : l = [] := List.eq_nil_of_length_eq_zero (by omega)
    cases m <;> simp [runesGo]
  | n + 1, 0, l, _, h => by
    obtain rfl : l = [] := List.eq_nil_of_length_eq_zero (by omega)
    simp [runesGo]
  | n + 1, m + 1, l, h, k => by
    unfold runesGo
    by_cases c : l = []
    · simp [c]
    · have := decodeL_width l
      have : 0 < l.length := List.length_pos_iff.2 c
      rw [if_neg c, if_neg c, runesGo_fuel n m _ (by rw [List.length_drop]; omega) (by rw [List.length_drop]; omega)]
theorem runes_nil : runes [] = [] := rfl
theorem runes_step (l : List UInt8) (h : l ≠ []) : runes l = ((decodeL l).1 : Int) :: runes (l.drop (decodeL l).2) := by
  have h0 : 0 < l.length := List.length_pos_iff.2 h
  have := decodeL_width l
  obtain ⟨n, hn⟩ : ∃ n, l.length = n + 1 := ⟨l.length - 1, by omega⟩
  show runesGo l.length l = _
  rw [hn]
  unfold runesGo
  rw [if_neg h]
  congr 1
  exact runesGo_fuel _ _ _ (by rw [List.length_drop]; omega) (by rw [List.length_drop]; omega)
theorem decode_drop (s : ByteArray) (i : Nat) : Utf8.decode s i = decodeL (s.data.toList.drop i) := (decodeL_drop s i).symm
end Go.Proofs.YtjffpcjbbehooaaDoor.G
end
section
namespace Go.Proofs.YtjffpcjbbehooaaDoor.G
open Go.Lib
/-- A rune's number. -/
def okR (r : Int) : Prop := 0 ≤ r ∧ r ≤ 1114111 ∧ ¬ (55296 ≤ r ∧ r ≤ 57343)
instance (r : Int) : Decidable (okR r) := by unfold okR; infer_instance
theorem toU8_toNat (x : Int) (h : 0 ≤ x ∧ x < 256) : ((x.toNat.toUInt8).toNat : Int) = x := by
  have : (x.toNat.toUInt8).toNat = x.toNat := by
    show (UInt8.ofNat x.toNat).toNat = _
    rw [UInt8.toNat_ofNat']
    exact Nat.mod_eq_of_lt (by omega)
  rw [this]
  exact Int.toNat_of_nonneg h.1
theorem toU8_toNat' (x : Int) (n : Nat) (h : x = n) (hn : n < 256) : (x.toNat.toUInt8).toNat = n := by
  have := toU8_toNat x (by omega)
  omega
set_option maxRecDepth 100000 in
set_option maxHeartbeats 4000000 in
/-- What a rune's bytes open is decoded as that rune. -/
theorem decode_encode (r : Int) (h : okR r) (t : List UInt8) : decodeL (encodeRune r ++ t) = (r.toNat, (encodeRune r).length) := by
  obtain ⟨h0, h1, h2⟩ := h
  rw [decodeL_N]
  by_cases c1 : r ≤ 127
  · have e : encodeRune r = [r.toNat.toUInt8] := by simp [encodeRune, encodeRuneZ_one h0 c1]
    have hb := toU8_toNat' r r.toNat (by omega) (by omega)
    rw [e]
    simp only [List.cons_append, List.nil_append, List.getD_cons_zero, List.length_cons, List.length_nil, hb]
    unfold decodeN
    rw [if_pos (by omega)]
  by_cases c2 : r ≤ 2047
  · have e : encodeRune r = [(192 + r / 64).toNat.toUInt8, (128 + r % 64).toNat.toUInt8] := by simp [encodeRune, encodeRuneZ_two (r := r) (by omega) c2]
    have hb0 := toU8_toNat' (192 + r / 64) (192 + r / 64).toNat (by omega) (by omega)
    have hb1 := toU8_toNat' (128 + r % 64) (128 + r % 64).toNat (by omega) (by omega)
    rw [e]
    simp only [List.cons_append, List.nil_append, List.getD_cons_zero, List.getD_cons_succ, List.length_cons, List.length_nil, hb0, hb1]
    generalize (t.getD 0 0).toNat = x2
    generalize (t.getD 1 0).toNat = x3
    obtain ⟨a, ha⟩ : ∃ a : Nat, r = a := ⟨r.toNat, by omega⟩
    subst ha
    unfold decodeN
    rw [if_neg (by omega), if_pos ⟨by omega, by omega, by omega⟩, if_pos (by omega)]
    apply Prod.ext <;> simp only <;> omega
  by_cases c3 : r ≤ 65535
  · have e : encodeRune r = [(224 + r / 4096).toNat.toUInt8, (128 + r / 64 % 64).toNat.toUInt8, (128 + r % 64).toNat.toUInt8] := by simp [encodeRune, encodeRuneZ_three (r := r) (by omega)]
    have hb0 := toU8_toNat' (224 + r / 4096) (224 + r / 4096).toNat (by omega) (by omega)
    have hb1 := toU8_toNat' (128 + r / 64 % 64) (128 + r / 64 % 64).toNat (by omega) (by omega)
    have hb2 := toU8_toNat' (128 + r % 64) (128 + r % 64).toNat (by omega) (by omega)
    rw [e]
    simp only [List.cons_append, List.nil_append, List.getD_cons_zero, List.getD_cons_succ, List.length_cons, List.length_nil, hb0, hb1, hb2]
    generalize (t.getD 0 0).toNat = x3
    obtain ⟨a, ha⟩ : ∃ a : Nat, r = a := ⟨r.toNat, by omega⟩
    subst ha
    unfold decodeN
    rw [if_neg (by omega), if_neg (by omega), if_pos ⟨by omega, ⟨by omega, by omega⟩, by omega, by omega⟩, if_pos (by omega)]
    apply Prod.ext <;> simp only <;> omega
  · have e : encodeRune r = [(240 + r / 262144).toNat.toUInt8, (128 + r / 4096 % 64).toNat.toUInt8, (128 + r / 64 % 64).toNat.toUInt8, (128 + r % 64).toNat.toUInt8] := by simp [encodeRune, encodeRuneZ_four (r := r) (by omega) h1]
    have hb0 := toU8_toNat' (240 + r / 262144) (240 + r / 262144).toNat (by omega) (by omega)
    have hb1 := toU8_toNat' (128 + r / 4096 % 64) (128 + r / 4096 % 64).toNat (by omega) (by omega)
    have hb2 := toU8_toNat' (128 + r / 64 % 64) (128 + r / 64 % 64).toNat (by omega) (by omega)
    have hb3 := toU8_toNat' (128 + r % 64) (128 + r % 64).toNat (by omega) (by omega)
    rw [e]
    simp only [List.cons_append, List.nil_append, List.getD_cons_zero, List.getD_cons_succ, List.length_cons, List.length_nil, hb0, hb1, hb2, hb3]
    obtain ⟨a, ha⟩ : ∃ a : Nat, r = a := ⟨r.toNat, by omega⟩
    subst ha
    unfold decodeN
    rw [if_neg (by omega), if_neg (by omega), if_neg (by omega), if_pos ⟨by omega, ⟨by omega, by omega⟩, ⟨by omega, by omega⟩, by omega, by omega⟩, if_pos (by omega)]
    apply Prod.ext <;> simp only <;> omega
theorem encode_length (r : Int) : 1 ≤ (encodeRune r).length ∧ (encodeRune r).length ≤ 4 := by
  have := encodeRuneZ_length r
  simpa [encodeRune] using this
/-- No rune's bytes stand at the front. -/
def Bad (l : List UInt8) : Prop := (decodeL l).1 = 65533 ∧ (decodeL l).2 = 1
instance (l : List UInt8) : Decidable (Bad l) := by unfold Bad; infer_instance
set_option maxRecDepth 100000 in
set_option maxHeartbeats 4000000 in
theorem good_rune (l : List UInt8) (hne : l ≠ []) (hb : ¬ Bad l) : okR ((decodeL l).1 : Int) := by
  have hle := decodeL_le l hne
  unfold Bad at hb
  unfold okR
  rw [decodeL_N] at hb hle ⊢
  generalize (l.getD 0 0).toNat = b0 at *
  generalize (l.getD 1 0).toNat = b1 at *
  generalize (l.getD 2 0).toNat = b2 at *
  generalize (l.getD 3 0).toNat = b3 at *
  unfold decodeN at hb ⊢
  repeat' split at hb
  all_goals simp only at hb
  all_goals first
    | (exfalso; exact hb ⟨rfl, rfl⟩)
    | skip
  all_goals (repeat' split)
  all_goals first
    | omega
    | (simp only; omega)
    | contradiction
theorem good_take (l : List UInt8) (hne : l ≠ []) (hb : ¬ Bad l) : l.take (decodeL l).2 = encodeRune ((decodeL l).1 : Int) := (encode_decode l hne hb).symm
theorem good_len (l : List UInt8) (hne : l ≠ []) (hb : ¬ Bad l) : (decodeL l).2 = (encodeRune ((decodeL l).1 : Int)).length := by
  rw [← good_take l hne hb, List.length_take]
  have := decodeL_le l hne
  omega
theorem encode_not_bad (r : Int) (h : okR r) (t : List UInt8) : ¬ Bad (encodeRune r ++ t) := by
  unfold Bad
  rw [decode_encode r h t]
  rintro ⟨h1, h2⟩
  have : r = 65533 := by obtain ⟨h0, _⟩ := h; simp at h1; omega
  subst this
  revert h2
  decide
theorem valid_bad (l : List UInt8) (hne : l ≠ []) (hb : Bad l) : validD l = false := by
  rw [validD_step l hne]
  exact if_pos hb
theorem valid_good (l : List UInt8) (hne : l ≠ []) (hb : ¬ Bad l) : validD l = validD (l.drop (decodeL l).2) := by
  rw [validD_step l hne]
  exact if_neg hb
end Go.Proofs.YtjffpcjbbehooaaDoor.G
end
section
set_option linter.unusedVariables false
namespace Go.Proofs.YtjffpcjbbehooaaDoor.G
open Go.RowKit Go.Proofs.YtjffpcjbbehooaaDoorW.PrintWords Go.Lib
def GValidString.f (a0 : ByteArray) : Option Bool := if a0.size ≤ 9223372036854775807 then some (Lib.validD a0.data.toList) else none
theorem GValidString.calls (a0 : ByteArray) (r : Bool) (w : World) (hT : T8 w) (h : GValidString.f a0 = some r) :
    Calls Tryd.prog 25 #[.string a0] w fun e w' => e = .returned (.bool r) ∧ Below w.heap.size w w' := by
  unfold GValidString.f at h
  split at h
  case isFalse => cases h
  case isTrue hs =>
    obtain rfl := Option.some.inj h
    exact Any.utf8_ValidString Tryd.lays196 a0 w hs hT
/-- Of bytes that are at least one. -/
def GDecodeRune.f (l : List Int) : Option (Int × Int) := if l = [] then none else if (∀ x ∈ l, 0 ≤ x ∧ x ≤ 255) then some (((Lib.decodeL (byteList l)).1 : Int), ((Lib.decodeL (byteList l)).2 : Int)) else none
theorem GDecodeRune.calls (A0 : Option Addr) (c0 : Nat) (l0 : List Int) (r1 r2 : Int) (w : World) (hr0 : Kd.C (Kd.int .u8) w A0 l0.length l0) (hc0 : l0.length ≤ c0) (hT : T8 w) (h : GDecodeRune.f l0 = some (r1, r2)) :
    Calls Tryd.prog 39 #[.slice A0 l0.length c0] w fun e w' => e = .returned (.tuple #[.int .i32 r1, .int .i64 r2]) ∧ Below w.heap.size w w' := by
  unfold GDecodeRune.f at h
  split at h
  case isTrue => cases h
  case isFalse hne =>
    split at h
    case isFalse => cases h
    case isTrue hby =>
      simp only [Option.some.injEq, Prod.mk.injEq] at h
      obtain ⟨rfl, rfl⟩ := h
      have hpos : 0 < l0.length := List.length_pos_iff.2 hne
      obtain ⟨ad, rfl, hcell⟩ := (Kd.reads_of_C (d := (0 : Int)) hr0).2.2 hpos
      have hsp : ad.spot = none := by
        have h0 := hcell 0 hpos
        simp only [Addr.add, if_true] at h0
        unfold World.cell? at h0
        split at h0
        · split at h0
          · cases h0
          · rename_i hs; simpa using hs
        · cases h0
      obtain ⟨b, off, spot⟩ := ad
      simp only at hsp
      subst hsp
      have hlen : (byteList l0).length = l0.length := by simp [byteList]
      have hsz : (⟨(byteList l0).toArray⟩ : ByteArray).size = l0.length := by simp [ByteArray.size, hlen]
      have hmain := Any7.utf8_DecodeRune Tryd.lays7n32 (⟨(byteList l0).toArray⟩ : ByteArray) b off c0 w hT (fun j hj => by
        rw [hsz] at hj
        have hc := hcell j hj
        have ha : (Addr.add ⟨b, off, none⟩ j) = ⟨b, off + j, none⟩ := by
          unfold Addr.add
          split
          · rename_i h; rw [h]; rfl
          · rfl
        rw [ha] at hc
        rw [hc]
        have hx := hby (l0[j]) (List.getElem_mem hj)
        have hg : (⟨(byteList l0).toArray⟩ : ByteArray).get! j = UInt8.ofNat (l0[j]).toNat := by
          show (byteList l0).toArray[j]! = _
          rw [getElem!_pos _ j (by simp [hlen]; exact hj)]
          simp [byteList]
        rw [hg, List.getD_eq_getElem?_getD, List.getElem?_eq_getElem hj]
        have h3 : (UInt8.ofNat (l0[j]).toNat).toNat = (l0[j]).toNat := by
          rw [UInt8.toNat_ofNat']
          exact Nat.mod_eq_of_lt (by omega)
        rw [h3, Int.toNat_of_nonneg hx.1]
        rfl)
      rw [hsz] at hmain
      have hdec : Lib.decodeGo (⟨(byteList l0).toArray⟩ : ByteArray) = Lib.decodeL (byteList l0) := by
        unfold Lib.decodeGo Lib.decodeL
        rw [if_neg (by rw [hsz]; omega)]
      rw [hdec] at hmain
      exact hmain
end Go.Proofs.YtjffpcjbbehooaaDoor.G
end
section
namespace Go.Proofs.YtjffpcjbbehooaaDoor.G
open Go.RowKit Go.Lib Go.Proofs.YtjffpcjbbehooaaDoorW.PrintWords
def ints (bs : List UInt8) : List Int := bs.map fun b => (b.toNat : Int)
theorem ints_length (bs : List UInt8) : (ints bs).length = bs.length := by simp [ints]
theorem ints_byteList (l : List Int) (h : ∀ x ∈ l, 0 ≤ x ∧ x ≤ 255) : ints (byteList l) = l := by
  unfold ints byteList
  rw [List.map_map]
  conv => rhs; rw [← List.map_id l]
  refine List.map_congr_left fun x hx => ?_
  have := h x hx
  simp only [Function.comp_apply, id]
  exact toU8_toNat x (by omega)
theorem byteList_ints (bs : List UInt8) : byteList (ints bs) = bs := by
  unfold ints byteList
  rw [List.map_map]
  conv => rhs; rw [← List.map_id bs]
  refine List.map_congr_left fun x _ => ?_
  show UInt8.ofNat ((x.toNat : Int).toNat) = x
  rw [Int.toNat_natCast]
  exact UInt8.ofNat_toNat
theorem ints_bound (bs : List UInt8) : ∀ x ∈ ints bs, 0 ≤ x ∧ x ≤ 255 := by
  intro x hx
  obtain ⟨b, _, rfl⟩ := List.mem_map.1 hx
  have := b.toNat_lt
  omega
theorem ints_take (bs : List UInt8) (n : Nat) : (ints bs).take n = ints (bs.take n) := by simp [ints, List.map_take]
theorem ints_drop (bs : List UInt8) (n : Nat) : (ints bs).drop n = ints (bs.drop n) := by simp [ints, List.map_drop]
theorem rd_ints (bs : List UInt8) (i : Int) (h0 : 0 ≤ i) (h : i < bs.length) : rd (ints bs) i = ((bs.getD i.toNat 0).toNat : Int) := by
  unfold rd ints
  have hi : i.toNat < bs.length := by omega
  simp [List.getD_eq_getElem?_getD, hi]
theorem w64 (x : Int) (h : -9223372036854775808 ≤ x ∧ x ≤ 9223372036854775807) : wrap64 x = x := by unfold wrap64; omega
end Go.Proofs.YtjffpcjbbehooaaDoor.G
end
