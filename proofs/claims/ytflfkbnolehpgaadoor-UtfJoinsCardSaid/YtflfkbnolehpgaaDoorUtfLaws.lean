/-
  What the printed functions of package utf, and the document's own of layer 4, answer, in plain words; and seven of its laws: each printed function answers true at every input.
-/
import Derived.Test.YtflfkbnolehpgaaDoorPUtfx
import Derived.Test.YtflfkbnolehpgaaDoorUtfTheory
namespace Go.Proofs.YtflfkbnolehpgaaDoor.F
open Go.RowKit Go.Lib Go.Proofs.YtflfkbnolehpgaaDoor.G Go.Proofs.YtflfkbnolehpgaaDoor.PUA Go.Proofs.YtflfkbnolehpgaaDoor.PUtf Go.Proofs.YtflfkbnolehpgaaDoorW.PrintWords Go.Proofs.YtflfkbnolehpgaaDoorW.PrintLast
theorem rd_nat (x : List Int) (i : Nat) (h : i < x.length) : rd x (i : Int) = x[i] := by
  unfold rd
  simp [List.getD_eq_getElem?_getD, h]
theorem mono_le {α : Type} (f : Nat → Option α) (hm : ∀ k, LeO (f k) (f (k + 1))) (n : Nat) : ∀ (d : Nat) (r : α), f n = some r → f (n + d) = some r
  | 0, _, h => h
  | d + 1, r, h => hm (n + d) r (mono_le f hm n d r h)
set_option maxRecDepth 100000 in
theorem alive_eq (k : Nat) (hk : 20 ≤ k) : parlancelaw04_alive.f k = some true := by
  have h : parlancelaw04_alive.f 20 = some true := by decide +kernel
  have := mono_le _ parlancelaw04_alive.mono 20 (k - 20) true h
  rwa [show 20 + (k - 20) = k by omega] at this
/-! ### equal lists -/
theorem sameInts_l0 (x y : List Int) (he : x.length = y.length) (hb : x.length ≤ 9223372036854775806) : ∀ (d i k : Nat), i + d = x.length → d < k → parlanceref00_SameInts.l0 k x y (i : Int) = some (decide (x.drop i = y.drop i))
  | 0, i, k, h, hk => by
    obtain ⟨k, rfl⟩ : ∃ m, k = m + 1 := ⟨k - 1, by omega⟩
    simp only [parlanceref00_SameInts.l0]
    rw [if_neg (by omega), List.drop_of_length_le (by omega), List.drop_of_length_le (by omega)]
    simp
  | d + 1, i, k, h, hk => by
    obtain ⟨k, rfl⟩ : ∃ m, k = m + 1 := ⟨k - 1, by omega⟩
    simp only [parlanceref00_SameInts.l0]
    have hx : i < x.length := by omega
    have hy : i < y.length := by omega
    rw [if_pos (by omega), if_pos (by omega), if_pos (by omega), w64 _ (by omega), rd_nat x i hx, rd_nat y i hy]
    rw [show ((i : Int) + 1) = ((i + 1 : Nat) : Int) from rfl, sameInts_l0 x y he hb d (i + 1) k (by omega) (by omega)]
    rw [List.drop_eq_getElem_cons hx, List.drop_eq_getElem_cons hy]
    by_cases c : x[i] = y[i]
    · rw [if_pos c]; simp only [c, List.cons.injEq, true_and]
    · rw [if_neg c]; simp only [c, List.cons.injEq, false_and, decide_false]
theorem sameInts_eq (x y : List Int) (hb : x.length ≤ 9223372036854775806) (k : Nat) (hk : x.length < k) : parlanceref00_SameInts.f k x y = some (decide (x = y)) := by
  unfold parlanceref00_SameInts.f
  split
  case isTrue h =>
    have := sameInts_l0 x y (by omega) hb x.length 0 k (by omega) hk
    simpa using this
  case isFalse h =>
    rw [decide_eq_false]
    rintro rfl
    exact h rfl
theorem sameBytes_l0 (x y : List Int) (he : x.length = y.length) (hb : x.length ≤ 9223372036854775806) : ∀ (d i k : Nat), i + d = x.length → d < k → parlanceref00_SameBytes.l0 k x y (i : Int) = some (decide (x.drop i = y.drop i))
  | 0, i, k, h, hk => by
    obtain ⟨k, rfl⟩ : ∃ m, k = m + 1 := ⟨k - 1, by omega⟩
    simp only [parlanceref00_SameBytes.l0]
    rw [if_neg (by omega), List.drop_of_length_le (by omega), List.drop_of_length_le (by omega)]
    simp
  | d + 1, i, k, h, hk => by
    obtain ⟨k, rfl⟩ : ∃ m, k = m + 1 := ⟨k - 1, by omega⟩
    simp only [parlanceref00_SameBytes.l0]
    have hx : i < x.length := by omega
    have hy : i < y.length := by omega
    rw [if_pos (by omega), if_pos (by omega), if_pos (by omega), w64 _ (by omega), rd_nat x i hx, rd_nat y i hy]
    rw [show ((i : Int) + 1) = ((i + 1 : Nat) : Int) from rfl, sameBytes_l0 x y he hb d (i + 1) k (by omega) (by omega)]
    rw [List.drop_eq_getElem_cons hx, List.drop_eq_getElem_cons hy]
    by_cases c : x[i] = y[i]
    · rw [if_pos c]; simp only [c, List.cons.injEq, true_and]
    · rw [if_neg c]; simp only [c, List.cons.injEq, false_and, decide_false]
theorem sameBytes_eq (x y : List Int) (hb : x.length ≤ 9223372036854775806) (k : Nat) (hk : x.length < k) : parlanceref00_SameBytes.f k x y = some (decide (x = y)) := by
  unfold parlanceref00_SameBytes.f
  split
  case isTrue h =>
    have := sameBytes_l0 x y (by omega) hb x.length 0 k (by omega) hk
    simpa using this
  case isFalse h =>
    rw [decide_eq_false]
    rintro rfl
    exact h rfl
theorem copyBytes_eq (x : List Int) (h : x.length < 140737488355328) : parlanceref00_CopyBytes.f x = some x := by
  unfold parlanceref00_CopyBytes.f
  simp [h]
theorem copyInts_eq (x : List Int) (h : x.length < 17592186044416) : parlanceref00_CopyInts.f x = some x := by
  unfold parlanceref00_CopyInts.f
  simp [h]
theorem spare_step (k : Nat) (acc : List Int) (i : Int) (h0 : 0 ≤ i) (h8 : i < 8) (hl : acc.length < 140737488355328) : parlanceref00_Spare.l0 (k + 1) acc i = parlanceref00_Spare.l0 k (acc ++ [201 + i]) (i + 1) := by
  simp only [parlanceref00_Spare.l0]
  rw [if_pos h8, if_pos hl, w64 _ (by omega), w64 _ (by omega), Int.emod_eq_of_lt (by omega) (by omega)]
theorem spare_eq (x : List Int) (h : x.length + 8 < 140737488355328) (k : Nat) (hk : 9 ≤ k) : parlanceref00_Spare.f k x = some (x ++ [201, 202, 203, 204, 205, 206, 207, 208]) := by
  unfold parlanceref00_Spare.f
  rw [copyBytes_eq x (by omega)]
  obtain ⟨k, rfl⟩ : ∃ m, k = m + 9 := ⟨k - 9, by omega⟩
  simp only [Option.bind_some]
  rw [spare_step (k + 8) x 0 (by omega) (by omega) (by omega)]
  rw [spare_step (k + 7) _ (0 + 1) (by omega) (by omega) (by simp; omega)]
  rw [spare_step (k + 6) _ (0 + 1 + 1) (by omega) (by omega) (by simp; omega)]
  rw [spare_step (k + 5) _ (0 + 1 + 1 + 1) (by omega) (by omega) (by simp; omega)]
  rw [spare_step (k + 4) _ (0 + 1 + 1 + 1 + 1) (by omega) (by omega) (by simp; omega)]
  rw [spare_step (k + 3) _ (0 + 1 + 1 + 1 + 1 + 1) (by omega) (by omega) (by simp; omega)]
  rw [spare_step (k + 2) _ (0 + 1 + 1 + 1 + 1 + 1 + 1) (by omega) (by omega) (by simp; omega)]
  rw [spare_step (k + 1) _ (0 + 1 + 1 + 1 + 1 + 1 + 1 + 1) (by omega) (by omega) (by simp; omega)]
  simp only [parlanceref00_Spare.l0]
  rw [if_neg (by omega)]
  simp only [List.append_assoc, List.cons_append, List.nil_append]
  rfl
/-! ### the runes of a text -/
theorem runes_at (s : ByteArray) (h : s.size ≤ 17592186044416) : GRunes.f s = some (if validD s.data.toList then (runes s.data.toList, 0) else ([], 40)) := if_pos h
theorem refRunes_at (s : ByteArray) (h : s.size ≤ 17592186044416) : GRefRunes.f s = some (if validD s.data.toList then (runes s.data.toList, 0) else ([], 40)) := if_pos h
theorem size_data (s : ByteArray) : s.size = s.data.toList.length := Array.length_toList.symm
theorem runes_len (l : List UInt8) (h : validD l = true) : (runes l).length ≤ l.length ∧ (units (runes l)).length ≤ l.length := by
  obtain ⟨e, ha⟩ := text_enc l h
  have := counts (runes l) ha
  rw [← e] at this
  omega
/-! ### units -/
theorem tdiv_pos (x : Int) (h : 0 ≤ x) : Int.tdiv x 1024 = x / 1024 := Int.tdiv_eq_ediv_of_nonneg h
theorem tmod_pos (x : Int) (h : 0 ≤ x) : Int.tmod x 1024 = x % 1024 := Int.tmod_eq_emod_of_nonneg h
theorem two_units (r : Int) (h : okR r) (hr : ¬ r < 65536) : ([wrap64 (55296 + (wrap64 (Int.tdiv (wrap64 (r - 65536)) 1024))), wrap64 (56320 + (Int.tmod (wrap64 (r - 65536)) 1024))] : List Int) = unitsR r := by
  obtain ⟨h0, h1, _⟩ := h
  unfold unitsR
  rw [if_neg hr, w64 (r - 65536) (by omega), tdiv_pos _ (by omega), tmod_pos _ (by omega), w64 ((r - 65536) / 1024) (by omega), w64 _ (by omega), w64 _ (by omega)]
theorem refUnit_eq (r : Int) (h : okR r) : parlanceref04_units.f r = some (unitsR r) := by
  unfold parlanceref04_units.f
  split
  case isTrue c => unfold unitsR; rw [if_pos c]
  case isFalse c => rw [two_units r h c]
theorem refUnits_l0 (rs : List Int) (ha : allR rs) (hb : rs.length ≤ 1000000) : ∀ (d i k : Nat) (acc : List Int), i + d = rs.length → d < k → acc.length + 2 * d ≤ 10000000 → parlanceref04_Units.l0 k rs acc (i : Int) = some (acc ++ units (rs.drop i), 0)
  | 0, i, k, acc, h, hk, hl => by
    obtain ⟨k, rfl⟩ : ∃ m, k = m + 1 := ⟨k - 1, by omega⟩
    simp only [parlanceref04_Units.l0]
    rw [if_neg (by omega), List.drop_of_length_le (by omega)]
    simp [units]
  | d + 1, i, k, acc, h, hk, hl => by
    obtain ⟨k, rfl⟩ : ∃ m, k = m + 1 := ⟨k - 1, by omega⟩
    simp only [parlanceref04_Units.l0]
    have hx : i < rs.length := by omega
    have hr : okR rs[i] := ha _ (List.getElem_mem hx)
    have hu := unitsR_le rs[i]
    rw [if_pos (by omega), if_pos (by omega), rd_nat rs i hx, refUnit_eq _ hr, w64 _ (by omega)]
    simp only [Option.bind_some]
    rw [if_pos (by omega), show ((i : Int) + 1) = ((i + 1 : Nat) : Int) from rfl, refUnits_l0 rs ha hb d (i + 1) k _ (by omega) (by omega) (by rw [List.length_append]; omega), List.drop_eq_getElem_cons hx, units_cons, List.append_assoc]
theorem utfUnits_l0 (rs : List Int) (ha : allR rs) (hb : rs.length ≤ 1000000) : ∀ (d i k : Nat) (acc : List Int), i + d = rs.length → d < k → acc.length + 2 * d ≤ 10000000 → utf_Units.l0 k acc rs (rs.length : Int) (i : Int) = some (acc ++ units (rs.drop i), 0)
  | 0, i, k, acc, h, hk, hl => by
    obtain ⟨k, rfl⟩ : ∃ m, k = m + 1 := ⟨k - 1, by omega⟩
    simp only [utf_Units.l0]
    rw [if_neg (by omega), List.drop_of_length_le (by omega)]
    simp [units]
  | d + 1, i, k, acc, h, hk, hl => by
    obtain ⟨k, rfl⟩ : ∃ m, k = m + 1 := ⟨k - 1, by omega⟩
    simp only [utf_Units.l0]
    have hx : i < rs.length := by omega
    have hr : okR rs[i] := ha _ (List.getElem_mem hx)
    have hu := unitsR_le rs[i]
    rw [if_pos (by omega), if_pos (by omega), if_pos (by omega), rd_nat rs i hx, w64 ((i : Int) + 1) (by omega), show ((i : Int) + 1) = ((i + 1 : Nat) : Int) from rfl]
    by_cases c : rs[i] < 65536
    · rw [if_pos c, if_pos (by omega), utfUnits_l0 rs ha hb d (i + 1) k _ (by omega) (by omega) (by rw [List.length_append, List.length_singleton]; omega), List.drop_eq_getElem_cons hx, units_cons, List.append_assoc]
      unfold unitsR
      rw [if_pos c]
    · rw [if_neg c]
      simp only [Option.bind_some]
      rw [two_units _ hr c, if_pos (by omega), utfUnits_l0 rs ha hb d (i + 1) k _ (by omega) (by omega) (by rw [List.length_append]; omega), List.drop_eq_getElem_cons hx, units_cons, List.append_assoc]
/-- What Units answers. -/
def unitsAns (s : ByteArray) : List Int × Int := if validD s.data.toList then (units (runes s.data.toList), 0) else ([], 40)
theorem utfUnits_eq (s : ByteArray) (h : s.size ≤ 1000000) (k : Nat) (hk : s.size < k) : utf_Units.f k s = some (unitsAns s) := by
  unfold utf_Units.f unitsAns
  rw [runes_at s (by omega)]
  have hs := size_data s
  by_cases v : validD s.data.toList = true
  · obtain ⟨e, ha⟩ := text_enc _ v
    have hl := runes_len _ v
    simp only [v, if_true, Option.bind_some]
    have := utfUnits_l0 (runes s.data.toList) ha (by omega) (runes s.data.toList).length 0 k [] (by omega) (by omega) (by simp; omega)
    simpa using this
  · simp [v]
theorem refUnits_eq (s : ByteArray) (h : s.size ≤ 1000000) (k : Nat) (hk : s.size < k) : parlanceref04_Units.f k s = some (unitsAns s) := by
  unfold parlanceref04_Units.f unitsAns
  rw [refRunes_at s (by omega)]
  have hs := size_data s
  by_cases v : validD s.data.toList = true
  · obtain ⟨e, ha⟩ := text_enc _ v
    have hl := runes_len _ v
    simp only [v, if_true, Option.bind_some]
    have := refUnits_l0 (runes s.data.toList) ha (by omega) (runes s.data.toList).length 0 k [] (by omega) (by omega) (by simp; omega)
    simpa using this
  · simp [v]
/-! ### how many bytes are a text -/
theorem ints_append (x y : List UInt8) : ints (x ++ y) = ints x ++ ints y := by simp [ints]
theorem decode_at (bs : List UInt8) (h : bs ≠ []) : GDecodeRune.f (ints bs) = some (((decodeL bs).1 : Int), ((decodeL bs).2 : Int)) := by
  unfold GDecodeRune.f
  rw [if_neg (by simpa [ints] using h), if_pos (fun x hx => ints_bound bs x hx), byteList_ints]
theorem utfValid_l0 (t : List UInt8) (ht : Stuck t) : ∀ (rs : List Int) (pre : List UInt8) (k : Nat), allR rs → rs.length < k → (pre ++ (enc rs ++ t)).length ≤ 1000000 → utf_Valid.l0 k (ints (pre ++ (enc rs ++ t))) (pre.length : Int) = some ((pre.length + (enc rs).length : Nat) : Int)
  | [], pre, k, ha, hk, hb => by
    obtain ⟨k, rfl⟩ : ∃ m, k = m + 1 := ⟨k - 1, by omega⟩
    simp only [utf_Valid.l0, enc_nil, List.nil_append, ints_length, List.length_append, List.length_nil] at hb ⊢
    rcases ht with rfl | ⟨hne, hbad⟩
    · rw [if_neg (by simp)]
      simp
    · have hp : 0 < t.length := List.length_pos_iff.2 hne
      rw [if_pos (by omega), if_pos (by omega), if_pos (by omega), ints_drop, Int.toNat_natCast, List.drop_left, decode_at t hne]
      simp only [Option.bind_some]
      obtain ⟨h1, h2⟩ := hbad
      rw [if_pos (by rw [h1]; rfl), if_pos (by rw [h2]; decide)]
      simp
  | r :: rs, pre, k, ha, hk, hb => by
    obtain ⟨k, rfl⟩ : ∃ m, k = m + 1 := ⟨k - 1, by omega⟩
    have hr := (allR_cons.1 ha).1
    have hl := encode_length r
    rw [enc_cons] at hb ⊢
    have e1 : pre ++ (encodeRune r ++ enc rs ++ t) = (pre ++ encodeRune r) ++ (enc rs ++ t) := by simp
    simp only [utf_Valid.l0, ints_length]
    simp only [List.length_append] at hb ⊢
    rw [if_pos (by omega), if_pos (by omega), if_pos (by omega), ints_drop, Int.toNat_natCast, List.drop_left, List.append_assoc, decode_at _ (by simp [encode_ne r])]
    have hg := encode_not_bad r hr (enc rs ++ t)
    unfold Bad at hg
    rw [decode_encode r hr] at hg ⊢
    simp only [Option.bind_some] at hg ⊢
    have ih := utfValid_l0 t ht rs (pre ++ encodeRune r) k (allR_cons.1 ha).2 (by simp at hk; omega) (by simp only [List.length_append]; omega)
    rw [← e1, List.append_assoc] at ih
    have e2 : wrap64 ((pre.length : Int) + ((encodeRune r).length : Int)) = ((pre ++ encodeRune r).length : Int) := by rw [w64 _ (by omega), List.length_append]; omega
    rw [e2, ih, List.length_append]
    have e3 : pre.length + (encodeRune r).length + (enc rs).length = pre.length + ((encodeRune r).length + (enc rs).length) := by omega
    rw [e3]
    split
    · rw [if_neg (by omega)]
    · rfl
theorem utfValid_eq (rs : List Int) (t : List UInt8) (ha : allR rs) (ht : Stuck t) (hb : (enc rs ++ t).length ≤ 1000000) (k : Nat) (hk : (enc rs ++ t).length < k) : utf_Valid.f k (ints (enc rs ++ t)) = some ((enc rs).length : Int) := by
  have hc := counts rs ha
  rw [List.length_append] at hk
  have := utfValid_l0 t ht rs [] k ha (by omega) hb
  simpa [utf_Valid.f] using this
theorem refValid_l0 (t : List UInt8) (ht : Stuck t) : ∀ (rs : List Int) (pre : List UInt8) (k : Nat), allR rs → rs.length + 20 < k → (pre ++ (enc rs ++ t)).length ≤ 1000000 → parlanceref04_Valid.l0 k (ints (pre ++ (enc rs ++ t))) (pre.length : Int) = some ((pre.length + (enc rs).length : Nat) : Int)
  | [], pre, k, ha, hk, hb => by
    obtain ⟨k, rfl⟩ : ∃ m, k = m + 1 := ⟨k - 1, by omega⟩
    simp only [parlanceref04_Valid.l0, enc_nil, List.nil_append, ints_length, List.length_append, List.length_nil] at hb hk ⊢
    rcases ht with rfl | ⟨hne, hbad⟩
    · rw [if_neg (by simp)]
      simp
    · have hp : 0 < t.length := List.length_pos_iff.2 hne
      rw [if_pos (by omega), if_pos (by omega), if_pos (by omega), ints_drop, Int.toNat_natCast, List.drop_left, first_eq t k (by omega)]
      have hf : firstOf t = (0, 0) := if_pos (.inr hbad)
      rw [hf]
      simp
  | r :: rs, pre, k, ha, hk, hb => by
    obtain ⟨k, rfl⟩ : ∃ m, k = m + 1 := ⟨k - 1, by omega⟩
    have hr := (allR_cons.1 ha).1
    have hl := encode_length r
    rw [enc_cons] at hb ⊢
    have e1 : pre ++ (encodeRune r ++ enc rs ++ t) = (pre ++ encodeRune r) ++ (enc rs ++ t) := by simp
    simp only [List.length_cons] at hk
    simp only [parlanceref04_Valid.l0, ints_length]
    simp only [List.length_append] at hb ⊢
    rw [if_pos (by omega), if_pos (by omega), if_pos (by omega), ints_drop, Int.toNat_natCast, List.drop_left, List.append_assoc, first_eq _ k (by omega)]
    have hg := encode_not_bad r hr (enc rs ++ t)
    have hf : firstOf (encodeRune r ++ (enc rs ++ t)) = (((decodeL (encodeRune r ++ (enc rs ++ t))).1 : Int), ((decodeL (encodeRune r ++ (enc rs ++ t))).2 : Int)) := if_neg (by simp [hg, encode_ne r])
    rw [hf, decode_encode r hr]
    simp only [Option.bind_some]
    have ih := refValid_l0 t ht rs (pre ++ encodeRune r) k (allR_cons.1 ha).2 (by omega) (by simp only [List.length_append]; omega)
    rw [← e1, List.append_assoc] at ih
    have e2 : wrap64 ((pre.length : Int) + ((encodeRune r).length : Int)) = ((pre ++ encodeRune r).length : Int) := by rw [w64 _ (by omega), List.length_append]; omega
    rw [e2, ih, List.length_append, if_neg (by omega)]
    have e3 : pre.length + (encodeRune r).length + (enc rs).length = pre.length + ((encodeRune r).length + (enc rs).length) := by omega
    rw [e3]
theorem refValid_eq (rs : List Int) (t : List UInt8) (ha : allR rs) (ht : Stuck t) (hb : (enc rs ++ t).length ≤ 1000000) (k : Nat) (hk : (enc rs ++ t).length + 20 < k) : parlanceref04_Valid.f k (ints (enc rs ++ t)) = some ((enc rs).length : Int) := by
  have hc := counts rs ha
  rw [List.length_append] at hk
  have := refValid_l0 t ht rs [] k ha (by omega) hb
  simpa [parlanceref04_Valid.f] using this
/-! ### texts out of runes -/
def encZ (rs : List Int) : List Int := rs.flatMap encodeRuneZ
theorem encZ_cons (r : Int) (rs : List Int) : encZ (r :: rs) = encodeRuneZ r ++ encZ rs := by simp [encZ]
theorem utfIsRune_eq (r : Int) : utf_isRune.f r = some (decide (okR r)) := by
  unfold utf_isRune.f okR
  split
  · split
    · split
      · rw [decide_eq_true (by omega : 0 ≤ r ∧ r ≤ 1114111 ∧ ¬ (55296 ≤ r ∧ r ≤ 57343))]
      · congr 1
        exact decide_eq_decide.2 (by omega)
    · rw [decide_eq_false (by omega : ¬ (0 ≤ r ∧ r ≤ 1114111 ∧ ¬ (55296 ≤ r ∧ r ≤ 57343)))]
  · rw [decide_eq_false (by omega : ¬ (0 ≤ r ∧ r ≤ 1114111 ∧ ¬ (55296 ≤ r ∧ r ≤ 57343)))]
/-- What a making of a text answers, behind what is made already. -/
def textAns (acc xs : List Int) : ByteArray × Int := if allR xs then (strOfNums (acc ++ encZ xs), 0) else (⟨#[]⟩, 40)
theorem textAns_cons (acc : List Int) (r : Int) (rs : List Int) (h : okR r) : textAns acc (r :: rs) = textAns (acc ++ encodeRuneZ r) rs := by
  unfold textAns
  rw [encZ_cons, List.append_assoc]
  by_cases c : allR rs
  · rw [if_pos c, if_pos (allR_cons.2 ⟨h, c⟩)]
  · rw [if_neg c, if_neg (fun z => c (allR_cons.1 z).2)]
theorem textAns_bad (acc : List Int) (r : Int) (rs : List Int) (h : ¬ okR r) : textAns acc (r :: rs) = (⟨#[]⟩, 40) := if_neg (fun z => h (allR_cons.1 z).1)
theorem w32_of (x : Int) (h : okR x) : wrap32 x = x := by
  obtain ⟨h0, h1, _⟩ := h
  unfold wrap32
  omega
theorem encZ_bound (r : Int) : (encodeRuneZ r).length ≤ 4 := (encodeRuneZ_length r).2
theorem utfText_l0 (xs : List Int) (hb : xs.length ≤ 1000000) : ∀ (d i k : Nat) (acc : List Int), i + d = xs.length → d < k → acc.length + 4 * d ≤ 10000000 → utf_Text.l0 k acc xs (xs.length : Int) (i : Int) = some (textAns acc (xs.drop i))
  | 0, i, k, acc, h, hk, hl => by
    obtain ⟨k, rfl⟩ : ∃ m, k = m + 1 := ⟨k - 1, by omega⟩
    simp only [utf_Text.l0]
    rw [if_neg (by omega), List.drop_of_length_le (by omega)]
    simp [textAns, encZ, allR_nil]
  | d + 1, i, k, acc, h, hk, hl => by
    obtain ⟨k, rfl⟩ : ∃ m, k = m + 1 := ⟨k - 1, by omega⟩
    simp only [utf_Text.l0]
    have hx : i < xs.length := by omega
    rw [if_pos (by omega), if_pos (by omega), if_pos (by omega), rd_nat xs i hx, utfIsRune_eq, List.drop_eq_getElem_cons hx, w64 ((i : Int) + 1) (by omega), show ((i : Int) + 1) = ((i + 1 : Nat) : Int) from rfl]
    simp only [Option.bind_some]
    have he := encZ_bound xs[i]
    by_cases c : okR xs[i]
    · rw [if_pos (decide_eq_true c), w32_of _ c, textAns_cons _ _ _ c]
      have hg : GAppendRune.f acc xs[i] = some (acc ++ encodeRuneZ xs[i]) := if_pos (by have := c.1; have := c.2.1; omega)
      rw [hg]
      simp only [Option.bind_some]
      rw [utfText_l0 xs hb d (i + 1) k _ (by omega) (by omega) (by rw [List.length_append]; omega)]
    · rw [if_neg (by simpa using c), textAns_bad _ _ _ c]
theorem utfText_eq (xs : List Int) (hb : xs.length ≤ 1000000) (k : Nat) (hk : xs.length < k) : utf_Text.f k xs = some (textAns [] xs) := by
  have := utfText_l0 xs hb xs.length 0 k [] (by omega) hk (by simp; omega)
  simpa [utf_Text.f] using this
theorem refText_l0 (xs : List Int) (hb : xs.length ≤ 1000000) : ∀ (d i k : Nat) (acc : List Int), i + d = xs.length → d < k → acc.length + 4 * d ≤ 10000000 → parlanceref04_Text.l0 k xs acc (i : Int) = some (textAns acc (xs.drop i))
  | 0, i, k, acc, h, hk, hl => by
    obtain ⟨k, rfl⟩ : ∃ m, k = m + 1 := ⟨k - 1, by omega⟩
    simp only [parlanceref04_Text.l0]
    rw [if_neg (by omega), List.drop_of_length_le (by omega)]
    simp [textAns, encZ, allR_nil]
  | d + 1, i, k, acc, h, hk, hl => by
    obtain ⟨k, rfl⟩ : ∃ m, k = m + 1 := ⟨k - 1, by omega⟩
    simp only [parlanceref04_Text.l0]
    have hx : i < xs.length := by omega
    rw [if_pos (by omega), if_pos (by omega), rd_nat xs i hx, isRune_eq, List.drop_eq_getElem_cons hx, w64 ((i : Int) + 1) (by omega), show ((i : Int) + 1) = ((i + 1 : Nat) : Int) from rfl]
    simp only [Option.bind_some]
    have he := encZ_bound xs[i]
    by_cases c : okR xs[i]
    · rw [if_pos (decide_eq_true c), textAns_cons _ _ _ c, bytes_eq _ c]
      simp only [Option.bind_some]
      rw [if_pos (by omega), refText_l0 xs hb d (i + 1) k _ (by omega) (by omega) (by rw [List.length_append]; omega)]
    · rw [if_neg (by simpa using c), textAns_bad _ _ _ c]
theorem refText_eq (xs : List Int) (hb : xs.length ≤ 1000000) (k : Nat) (hk : xs.length < k) : parlanceref04_Text.f k xs = some (textAns [] xs) := by
  have := refText_l0 xs hb xs.length 0 k [] (by omega) hk (by simp; omega)
  simpa [parlanceref04_Text.f] using this
/-! ### runes out of units -/
def joinAns (acc : List Int) : Option (List Int) → List Int × Int
  | none => ([], 40)
  | some x => (acc ++ x, 0)
theorem joinAns_map (acc : List Int) (r : Int) (o : Option (List Int)) : joinAns acc (o.map fun x => r :: x) = joinAns (acc ++ [r]) o := by
  cases o <;> simp [joinAns]
def hiU (u : Int) : Prop := 55296 ≤ u ∧ u ≤ 56319
instance (u : Int) : Decidable (hiU u) := by unfold hiU; infer_instance
def loU (u : Int) : Prop := 56320 ≤ u ∧ u ≤ 57343
instance (u : Int) : Decidable (loU u) := by unfold loU; infer_instance
def twoU (u v : Int) : Int := 65536 + (u - 55296) * 1024 + v - 56320
theorem joinOf_nil : joinOf [] = some [] := rfl
theorem joinOf_end (u : Int) (h : hiU u) : joinOf [u] = none := by
  unfold hiU at h
  simp only [joinOf]
  rw [if_pos h]
theorem joinOf_two (u v : Int) (l : List Int) (h : hiU u) (hv : loU v) : joinOf (u :: v :: l) = (joinOf l).map (fun x => twoU u v :: x) := by
  unfold hiU at h
  unfold loU at hv
  simp only [joinOf]
  rw [if_pos h, if_pos hv]
  rfl
theorem joinOf_half (u v : Int) (l : List Int) (h : hiU u) (hv : ¬ loU v) : joinOf (u :: v :: l) = none := by
  unfold hiU at h
  unfold loU at hv
  simp only [joinOf]
  rw [if_pos h, if_neg hv]
theorem joinOf_one (u : Int) (l : List Int) (h : ¬ hiU u) (hu : okR u ∧ u < 65536) : joinOf (u :: l) = (joinOf l).map (fun x => u :: x) := by
  unfold hiU at h
  cases l with
  | nil => simp only [joinOf]; rw [if_neg h, if_pos hu]; rfl
  | cons v l => simp only [joinOf]; rw [if_neg h, if_pos hu]
theorem joinOf_bad (u : Int) (l : List Int) (h : ¬ hiU u) (hu : ¬ (okR u ∧ u < 65536)) : joinOf (u :: l) = none := by
  unfold hiU at h
  cases l with
  | nil => simp only [joinOf]; rw [if_neg h, if_neg hu]
  | cons v l => simp only [joinOf]; rw [if_neg h, if_neg hu]
def waits (f : Int) : List Int := if f = -1 then [] else [f]
set_option maxHeartbeats 1000000 in
theorem utfJoin_l0 (xs : List Int) (hb : xs.length ≤ 1000000) : ∀ (d i k : Nat) (acc : List Int) (f : Int), i + d = xs.length → (f = -1 ∨ hiU f) → 3 * d < k → acc.length + d ≤ 10000000 → utf_Join.l0 k acc f xs (xs.length : Int) (i : Int) = some (joinAns acc (joinOf (waits f ++ xs.drop i)))
  | 0, i, k, acc, f, h, hf, hk, hl => by
    obtain ⟨k, rfl⟩ : ∃ m, k = m + 1 := ⟨k - 1, by omega⟩
    simp only [utf_Join.l0]
    rw [if_neg (by omega), List.drop_of_length_le (by omega), List.append_nil]
    unfold waits
    rcases hf with rfl | hf
    · rw [if_neg (by omega), if_pos rfl, joinOf_nil]
      simp [joinAns]
    · have := hf
      unfold hiU at this
      rw [if_pos (by omega), if_neg (by omega), joinOf_end f hf]
      rfl
  | d + 1, i, k, acc, f, h, hf, hk, hl => by
    obtain ⟨k, rfl⟩ : ∃ m, k = m + 3 := ⟨k - 3, by omega⟩
    have hx : i < xs.length := by omega
    have e1 : wrap64 ((i : Int) + 1) = ((i + 1 : Nat) : Int) := by rw [w64 _ (by omega)]; rfl
    simp only [utf_Join.l0]
    rw [if_pos (by omega), if_pos (by omega), if_pos (by omega), rd_nat xs i hx, List.drop_eq_getElem_cons hx]
    generalize xs[i] = u
    rcases hf with rfl | hf
    · rw [if_neg (by omega)]
      simp only [utf_Join.j1]
      rw [if_neg (by decide), if_neg (by omega)]
      have ew : waits (-1) = [] := if_pos rfl
      rw [ew, List.nil_append]
      by_cases c : hiU u
      · have hc := c
        unfold hiU at hc
        rw [if_pos (by omega)]
        simp only [utf_Join.j2]
        rw [if_pos (decide_eq_true (by omega)), e1, utfJoin_l0 xs hb d (i + 1) k acc u (by omega) (.inr c) (by omega) (by omega)]
        have ew : waits u = [u] := if_neg (by omega)
        rw [ew]
        rfl
      · have hj : (if u ≥ 55296 then utf_Join.j2 (k + 1) acc (-1) u xs (xs.length : Int) (i : Int) (decide (u < 56320)) else utf_Join.j2 (k + 1) acc (-1) u xs (xs.length : Int) (i : Int) false) = utf_Join.j2 (k + 1) acc (-1) u xs (xs.length : Int) (i : Int) false := by
          unfold hiU at c
          split
          · rw [decide_eq_false (by omega)]
          · rfl
        rw [hj]
        simp only [utf_Join.j2]
        rw [if_neg (by decide), utfIsRune_eq]
        simp only [Option.bind_some]
        by_cases cr : okR u
        · rw [if_pos (decide_eq_true cr)]
          by_cases cp : u ≥ 65536
          · rw [if_pos cp, joinOf_bad u _ c (by omega)]
            rfl
          · rw [if_neg cp, if_pos (by omega), e1, utfJoin_l0 xs hb d (i + 1) k _ (-1) (by omega) (.inl rfl) (by omega) (by rw [List.length_append, List.length_singleton]; omega), joinOf_one u _ c ⟨cr, by omega⟩, joinAns_map, ew, List.nil_append]
        · rw [if_neg (by simpa using cr), joinOf_bad u _ c (fun z => cr z.1)]
          rfl
    · have hh := hf
      unfold hiU at hh
      rw [if_pos (by omega)]
      have ew : waits f = [f] := if_neg (by omega)
      rw [ew]
      have hj : (if u < 56320 then utf_Join.j1 (k + 2) acc f u xs (xs.length : Int) (i : Int) true else utf_Join.j1 (k + 2) acc f u xs (xs.length : Int) (i : Int) (decide (u > 57343))) = utf_Join.j1 (k + 2) acc f u xs (xs.length : Int) (i : Int) (decide (¬ loU u)) := by
        unfold loU
        split
        · rw [decide_eq_true (by omega : ¬ (56320 ≤ u ∧ u ≤ 57343))]
        · congr 1
          exact decide_eq_decide.2 (by omega)
      rw [hj]
      simp only [utf_Join.j1]
      by_cases cl : loU u
      · rw [if_neg (by simpa using cl), if_pos (by omega), if_pos (by omega)]
        have hl2 := cl
        unfold loU at hl2
        rw [w64 (f - 55296) (by omega), w64 ((f - 55296) * 1024) (by omega), w64 (65536 + (f - 55296) * 1024) (by omega), w64 (65536 + (f - 55296) * 1024 + u) (by omega), w64 (65536 + (f - 55296) * 1024 + u - 56320) (by omega)]
        rw [e1, utfJoin_l0 xs hb d (i + 1) (k + 1) _ (-1) (by omega) (.inl rfl) (by omega) (by rw [List.length_append, List.length_singleton]; omega)]
        have ew2 : waits (-1) = [] := if_pos rfl
        rw [ew2, List.nil_append, List.cons_append, List.nil_append, joinOf_two f u _ hf cl, joinAns_map]
        rfl
      · rw [if_pos (by simpa using cl), List.cons_append, List.nil_append, joinOf_half f u _ hf cl]
        rfl
theorem utfJoin_eq (xs : List Int) (hb : xs.length ≤ 1000000) (k : Nat) (hk : 3 * xs.length < k) : utf_Join.f k xs = some (joinAns [] (joinOf xs)) := by
  have := utfJoin_l0 xs hb xs.length 0 k [] (-1) (by omega) (.inl rfl) hk (by simp; omega)
  simpa [utf_Join.f, waits] using this
set_option maxHeartbeats 1000000 in
theorem refJoin_l0 (xs : List Int) (hb : xs.length ≤ 1000000) (hw : ∀ x ∈ xs, (Lit.int .i64 x).wf = true) : ∀ (n d i k : Nat) (acc : List Int), d ≤ n → i + d = xs.length → 2 * d < k → acc.length + d ≤ 10000000 → parlanceref04_Join.l0 k xs acc (i : Int) = some (joinAns acc (joinOf (xs.drop i)))
  | n, 0, i, k, acc, _, h, hk, hl => by
    obtain ⟨k, rfl⟩ : ∃ m, k = m + 1 := ⟨k - 1, by omega⟩
    simp only [parlanceref04_Join.l0]
    rw [if_neg (by omega), List.drop_of_length_le (by omega), joinOf_nil]
    simp [joinAns]
  | 0, d + 1, i, k, acc, hn, _, _, _ => absurd hn (by omega)
  | n + 1, d + 1, i, k, acc, hn, h, hk, hl => by
    obtain ⟨k, rfl⟩ : ∃ m, k = m + 2 := ⟨k - 2, by omega⟩
    have hx : i < xs.length := by omega
    have e1 : wrap64 ((i : Int) + 1) = ((i + 1 : Nat) : Int) := by rw [w64 _ (by omega)]; rfl
    simp only [parlanceref04_Join.l0]
    rw [if_pos (by omega), if_pos (by omega), rd_nat xs i hx, e1, List.drop_eq_getElem_cons hx]
    generalize xs[i] = u
    have one : parlanceref04_Join.j1 (k + 1) xs acc (i : Int) u false = some (joinAns acc (if okR u ∧ u < 65536 then (joinOf (xs.drop (i + 1))).map (fun x => u :: x) else none)) := by
      simp only [parlanceref04_Join.j1]
      rw [if_neg (by decide), isRune_eq]
      simp only [Option.bind_some]
      by_cases cp : u ≥ 65536
      · rw [if_pos cp, if_neg (by omega)]
        rfl
      · rw [if_neg cp]
        by_cases cr : okR u
        · rw [if_pos (decide_eq_true cr), if_pos (by omega), e1, refJoin_l0 xs hb hw n d (i + 1) k _ (by omega) (by omega) (by omega) (by rw [List.length_append, List.length_singleton]; omega), if_pos ⟨cr, by omega⟩, joinAns_map]
        · rw [if_neg (by simpa using cr), if_neg (fun z => cr z.1)]
          rfl
    by_cases c : hiU u
    · have hc := c
      unfold hiU at hc
      have hnot : ¬ (okR u ∧ u < 65536) := fun z => z.1.2.2 (by omega)
      rw [if_neg hnot] at one
      rw [if_pos (by omega), if_pos (by omega)]
      cases d with
      | zero =>
        rw [if_neg (by omega), one, List.drop_of_length_le (l := xs) (by omega), joinOf_end u c]
      | succ d =>
        have hx1 : i + 1 < xs.length := by omega
        rw [if_pos (by omega), if_pos (by omega), rd_nat xs (i + 1) hx1, List.drop_eq_getElem_cons hx1]
        have hj : (if xs[i + 1] ≥ 56320 then parlanceref04_Join.j1 (k + 1) xs acc (i : Int) u (decide (xs[i + 1] ≤ 57343)) else parlanceref04_Join.j1 (k + 1) xs acc (i : Int) u false) = parlanceref04_Join.j1 (k + 1) xs acc (i : Int) u (decide (loU xs[i + 1])) := by
          unfold loU
          split
          · congr 1
            exact decide_eq_decide.2 (by omega)
          · rw [decide_eq_false (by omega : ¬ (56320 ≤ xs[i + 1] ∧ xs[i + 1] ≤ 57343))]
        rw [hj]
        by_cases cl : loU xs[i + 1]
        · rw [decide_eq_true cl, joinOf_two u _ _ c cl]
          simp only [parlanceref04_Join.j1]
          rw [if_pos trivial, e1, if_pos (by omega), if_pos (by omega), rd_nat xs (i + 1) hx1]
          have hl2 := cl
          unfold loU at hl2
          generalize xs[i + 1] = v at *
          rw [w64 (u - 55296) (by omega), w64 ((u - 55296) * 1024) (by omega), w64 (65536 + (u - 55296) * 1024) (by omega), w64 (65536 + (u - 55296) * 1024 + v) (by omega), w64 (65536 + (u - 55296) * 1024 + v - 56320) (by omega), isRune_eq]
          simp only [Option.bind_some]
          have e2 : wrap64 (((i + 1 : Nat) : Int) + 1) = ((i + 1 + 1 : Nat) : Int) := by rw [w64 _ (by omega)]; rfl
          rw [if_pos (decide_eq_true (by unfold okR; omega)), if_pos (by omega), e2, refJoin_l0 xs hb hw n d (i + 1 + 1) k _ (by omega) (by omega) (by omega) (by rw [List.length_append, List.length_singleton]; omega), joinAns_map]
          rfl
        · rw [decide_eq_false cl, one, joinOf_half u _ _ c cl]
    · have hj : (if u ≥ 55296 then if u ≤ 56319 then if ((i + 1 : Nat) : Int) < (xs.length : Int) then if 0 ≤ ((i + 1 : Nat) : Int) then if rd xs ((i + 1 : Nat) : Int) ≥ 56320 then parlanceref04_Join.j1 (k + 1) xs acc (i : Int) u (decide (rd xs ((i + 1 : Nat) : Int) ≤ 57343)) else parlanceref04_Join.j1 (k + 1) xs acc (i : Int) u false else none else parlanceref04_Join.j1 (k + 1) xs acc (i : Int) u false else parlanceref04_Join.j1 (k + 1) xs acc (i : Int) u false else parlanceref04_Join.j1 (k + 1) xs acc (i : Int) u false) = parlanceref04_Join.j1 (k + 1) xs acc (i : Int) u false := by
        unfold hiU at c
        by_cases c1 : u ≥ 55296
        · rw [if_pos c1, if_neg (by omega)]
        · rw [if_neg c1]
      rw [hj, one]
      by_cases cr : okR u ∧ u < 65536
      · rw [if_pos cr, joinOf_one u _ c cr]
      · rw [if_neg cr, joinOf_bad u _ c cr]
theorem refJoin_eq (xs : List Int) (hb : xs.length ≤ 1000000) (hw : ∀ x ∈ xs, (Lit.int .i64 x).wf = true) (k : Nat) (hk : 2 * xs.length < k) : parlanceref04_Join.f k xs = some (joinAns [] (joinOf xs)) := by
  have := refJoin_l0 xs hb hw xs.length xs.length 0 k [] (Nat.le_refl _) (by omega) hk (by simp; omega)
  simpa [parlanceref04_Join.f] using this
/-! ### places -/
def offR (ps : List (Nat × Nat)) (x : Int) : Int × Int := match ps.find? (fun p => (p.2 : Int) == x) with
  | some p => (p.1, 0)
  | none => (0, 70)
def unitR (ps : List (Nat × Nat)) (x : Int) : Int × Int := match ps.find? (fun p => (p.1 : Int) == x) with
  | some p => (p.2, 0)
  | none => (0, 70)
theorem offR_here (p : Nat × Nat) (ps : List (Nat × Nat)) (x : Int) (h : (p.2 : Int) = x) : offR (p :: ps) x = ((p.1 : Int), 0) := by
  unfold offR; rw [List.find?_cons_of_pos (by simpa using h)]
theorem offR_on (p : Nat × Nat) (ps : List (Nat × Nat)) (x : Int) (h : ¬ (p.2 : Int) = x) : offR (p :: ps) x = offR ps x := by
  unfold offR; rw [List.find?_cons_of_neg (by simpa using h)]
theorem unitR_here (p : Nat × Nat) (ps : List (Nat × Nat)) (x : Int) (h : (p.1 : Int) = x) : unitR (p :: ps) x = ((p.2 : Int), 0) := by
  unfold unitR; rw [List.find?_cons_of_pos (by simpa using h)]
theorem unitR_on (p : Nat × Nat) (ps : List (Nat × Nat)) (x : Int) (h : ¬ (p.1 : Int) = x) : unitR (p :: ps) x = unitR ps x := by
  unfold unitR; rw [List.find?_cons_of_neg (by simpa using h)]
theorem refOffset_l0 (rs : List Int) (ha : allR rs) (hb : rs.length ≤ 1000000) (x : Int) : ∀ (d i k a u : Nat), i + d = rs.length → d + 1 < k → a + 4 * d ≤ 10000000 → u + 2 * d ≤ 10000000 → parlanceref04_Offset.l0 k x rs (u : Int) (a : Int) (i : Int) = some (offR (placesR a u (rs.drop i)) x)
  | 0, i, k, a, u, h, hk, hl, hm => by
    obtain ⟨k, rfl⟩ : ∃ m, k = m + 2 := ⟨k - 2, by omega⟩
    simp only [parlanceref04_Offset.l0]
    rw [if_pos (by omega), List.drop_of_length_le (by omega), w64 ((i : Int) + 1) (by omega), if_neg (by omega : ¬ (i : Int) < (rs.length : Int)), if_neg (by omega : ¬ (i : Int) + 1 ≤ (rs.length : Int))]
    simp only [placesR]
    by_cases c : (u : Int) = x
    · rw [if_pos c, offR_here _ _ _ c]
    · rw [if_neg c, offR_on _ _ _ c]
      rfl
  | d + 1, i, k, a, u, h, hk, hl, hm => by
    obtain ⟨k, rfl⟩ : ∃ m, k = m + 1 := ⟨k - 1, by omega⟩
    have hx : i < rs.length := by omega
    have hr : okR rs[i] := ha _ (List.getElem_mem hx)
    have h1 := (encode_length rs[i]).2
    have h2 := (unitsR_le rs[i]).2
    simp only [parlanceref04_Offset.l0]
    rw [if_pos (by omega), List.drop_eq_getElem_cons hx, rd_nat rs i hx, refUnit_eq _ hr, bytes_eq _ hr, w64 ((i : Int) + 1) (by omega), if_pos (by omega : (i : Int) < (rs.length : Int)), if_pos (by omega : (0 : Int) ≤ (i : Int))]
    simp only [Option.bind_some, placesR]
    by_cases c : (u : Int) = x
    · rw [if_pos c, offR_here _ _ _ c]
    · rw [if_neg c, offR_on _ _ _ c, encodeZ_len, w64 _ (by omega), w64 _ (by omega)]
      exact refOffset_l0 rs ha hb x d (i + 1) k (a + (encodeRune rs[i]).length) (u + (unitsR rs[i]).length) (by omega) (by omega) (by omega) (by omega)
theorem refUnitAt_l0 (rs : List Int) (ha : allR rs) (hb : rs.length ≤ 1000000) (x : Int) : ∀ (d i k a u : Nat), i + d = rs.length → d + 1 < k → a + 4 * d ≤ 10000000 → u + 2 * d ≤ 10000000 → parlanceref04_Unit.l0 k x rs (u : Int) (a : Int) (i : Int) = some (unitR (placesR a u (rs.drop i)) x)
  | 0, i, k, a, u, h, hk, hl, hm => by
    obtain ⟨k, rfl⟩ : ∃ m, k = m + 2 := ⟨k - 2, by omega⟩
    simp only [parlanceref04_Unit.l0]
    rw [if_pos (by omega), List.drop_of_length_le (by omega), w64 ((i : Int) + 1) (by omega), if_neg (by omega : ¬ (i : Int) < (rs.length : Int)), if_neg (by omega : ¬ (i : Int) + 1 ≤ (rs.length : Int))]
    simp only [placesR]
    by_cases c : (a : Int) = x
    · rw [if_pos c, unitR_here _ _ _ c]
    · rw [if_neg c, unitR_on _ _ _ c]
      rfl
  | d + 1, i, k, a, u, h, hk, hl, hm => by
    obtain ⟨k, rfl⟩ : ∃ m, k = m + 1 := ⟨k - 1, by omega⟩
    have hx : i < rs.length := by omega
    have hr : okR rs[i] := ha _ (List.getElem_mem hx)
    have h1 := (encode_length rs[i]).2
    have h2 := (unitsR_le rs[i]).2
    simp only [parlanceref04_Unit.l0]
    rw [if_pos (by omega), List.drop_eq_getElem_cons hx, rd_nat rs i hx, refUnit_eq _ hr, bytes_eq _ hr, w64 ((i : Int) + 1) (by omega), if_pos (by omega : (i : Int) < (rs.length : Int)), if_pos (by omega : (0 : Int) ≤ (i : Int))]
    simp only [Option.bind_some, placesR]
    by_cases c : (a : Int) = x
    · rw [if_pos c, unitR_here _ _ _ c]
    · rw [if_neg c, unitR_on _ _ _ c, encodeZ_len, w64 _ (by omega), w64 _ (by omega)]
      exact refUnitAt_l0 rs ha hb x d (i + 1) k (a + (encodeRune rs[i]).length) (u + (unitsR rs[i]).length) (by omega) (by omega) (by omega) (by omega)
def offsetAns (s : ByteArray) (x : Int) : Int × Int := if validD s.data.toList then offsetOf s.data.toList x else (0, 40)
def unitAns (s : ByteArray) (x : Int) : Int × Int := if validD s.data.toList then unitOf s.data.toList x else (0, 40)
theorem offset_at (s : ByteArray) (x : Int) (h : s.size ≤ 17592186044416) : GOffset.f s x = some (offsetAns s x) := if_pos h
theorem unit_at (s : ByteArray) (x : Int) (h : s.size ≤ 17592186044416) : GUnit.f s x = some (unitAns s x) := if_pos h
theorem refOffset_eq (s : ByteArray) (x : Int) (h : s.size ≤ 1000000) (k : Nat) (hk : s.size + 1 < k) : parlanceref04_Offset.f k s x = some (offsetAns s x) := by
  unfold parlanceref04_Offset.f offsetAns
  rw [refRunes_at s (by omega)]
  have hs := size_data s
  by_cases v : validD s.data.toList = true
  · obtain ⟨e, ha⟩ := text_enc _ v
    have hl := runes_len _ v
    simp only [v, if_true, Option.bind_some]
    have := refOffset_l0 (runes s.data.toList) ha (by omega) x (runes s.data.toList).length 0 k 0 0 (by omega) (by omega) (by omega) (by omega)
    rw [List.drop_zero, ← places_of_text _ v] at this
    exact this
  · simp [v]
theorem refUnitAt_eq (s : ByteArray) (x : Int) (h : s.size ≤ 1000000) (k : Nat) (hk : s.size + 1 < k) : parlanceref04_Unit.f k s x = some (unitAns s x) := by
  unfold parlanceref04_Unit.f unitAns
  rw [refRunes_at s (by omega)]
  have hs := size_data s
  by_cases v : validD s.data.toList = true
  · obtain ⟨e, ha⟩ := text_enc _ v
    have hl := runes_len _ v
    simp only [v, if_true, Option.bind_some]
    have := refUnitAt_l0 (runes s.data.toList) ha (by omega) x (runes s.data.toList).length 0 k 0 0 (by omega) (by omega) (by omega) (by omega)
    rw [List.drop_zero, ← places_of_text _ v] at this
    exact this
  · simp [v]
theorem byte_wf {x : Int} (h : (Lit.int .u8 x).wf = true) : 0 ≤ x ∧ x ≤ 255 := by
  rw [show (Lit.int .u8 x).wf = (decide ((0 : Int) ≤ x) && decide (x ≤ 255)) from rfl, Bool.and_eq_true, decide_eq_true_eq, decide_eq_true_eq] at h
  exact h
theorem strOf_data (bs : List UInt8) : (strOfNums (ints bs)).data.toList = bs := by
  have := strOf_ints bs
  rwa [ByteArray.toList_eq] at this
theorem strOf_size (bs : List UInt8) : (strOfNums (ints bs)).size = bs.length := by
  rw [size_data, strOf_data]
theorem big : ∃ m : Nat, 100000 ≤ m := ⟨_, Nat.le_refl _⟩
theorem texts : parlancelaw04_UtfTexts.Pure := by
  intro l0 _ _ hw
  obtain ⟨m, hm⟩ := big
  refine ⟨m + 3, ?_⟩
  unfold parlancelaw04_UtfTexts.f
  rw [alive_eq _ (by omega), Option.bind_some, if_pos rfl]
  by_cases hb : (l0.length : Int) > 20000
  · rw [if_pos hb]
  rw [if_neg hb]
  have e : l0 = ints (byteList l0) := (ints_byteList l0 fun x hx => byte_wf (hw x hx)).symm
  generalize byteList l0 = bs at e
  subst e
  rw [ints_length] at hb ⊢
  rw [spare_eq _ (by rw [ints_length]; omega) _ (by omega)]
  simp only [Option.bind_some]
  rw [if_pos (by omega), if_pos (by simp only [List.length_append, List.length_cons, List.length_nil, ints_length]; omega), Int.toNat_natCast, List.take_append_of_le_length (by rw [ints_length]; omega), List.take_of_length_le (by rw [ints_length]; omega)]
  obtain ⟨rs, t, rfl, ha, ht⟩ := split_text bs
  rw [utfValid_eq rs t ha ht (by omega) _ (by omega), refValid_eq rs t ha ht (by omega) _ (by omega)]
  simp only [Option.bind_some, if_true]
  rw [sameBytes_eq _ _ (by simp only [List.length_append, List.length_cons, List.length_nil, ints_length]; rw [List.length_append] at hb; omega) _ (by simp only [List.length_append, List.length_cons, List.length_nil, ints_length]; rw [List.length_append] at hb; omega)]
  simp only [Option.bind_some, decide_true, Bool.not_true, parlancelaw04_UtfTexts.j0]
  rw [if_neg (by decide)]
  generalize enc rs ++ t = bs at *
  have hs := strOf_size bs
  rw [runes_at _ (by omega), refRunes_at _ (by omega)]
  simp only [Option.bind_some]
  have hlen : ∀ x : List Int × Int, x = (if validD (strOfNums (ints bs)).data.toList then (runes (strOfNums (ints bs)).data.toList, 0) else ([], 40)) → x.1.length ≤ 20000 := by
    rintro x rfl
    rw [strOf_data]
    split
    · rename_i v
      have := runes_len bs v
      simp only
      omega
    · simp
  generalize hx : (if validD (strOfNums (ints bs)).data.toList then (runes (strOfNums (ints bs)).data.toList, 0) else ([], 40) : List Int × Int) = x at *
  have hl := hlen x rfl
  rw [sameInts_eq _ _ (by omega) _ (by omega)]
  simp only [Option.bind_some, decide_true, if_true, parlancelaw04_UtfTexts.j1, bne_self_eq_false]
  rw [if_neg (by decide), utfUnits_eq _ (by omega) _ (by omega), refUnits_eq _ (by omega) _ (by omega)]
  simp only [Option.bind_some]
  have hul : (unitsAns (strOfNums (ints bs))).1.length ≤ 20000 := by
    unfold unitsAns
    rw [strOf_data]
    split
    · rename_i v
      have := runes_len bs v
      simp only
      omega
    · simp
  rw [sameInts_eq _ _ (by omega) _ (by omega)]
  simp
theorem joins : parlancelaw04_UtfJoins.Pure := by
  intro l0 _ _ hw
  obtain ⟨m, hm⟩ := big
  refine ⟨m + 3, ?_⟩
  unfold parlancelaw04_UtfJoins.f
  rw [alive_eq _ (by omega), Option.bind_some, if_pos rfl]
  by_cases hb : (l0.length : Int) > 5000
  · rw [if_pos hb]
  rw [if_neg hb, copyInts_eq _ (by omega)]
  simp only [Option.bind_some]
  rw [utfText_eq _ (by omega) _ (by omega), refText_eq _ (by omega) _ (by omega), utfJoin_eq _ (by omega) _ (by omega), refJoin_eq _ (by omega) hw _ (by omega)]
  simp only [Option.bind_some, if_true]
  have hj : ∀ (n : Nat) (xs : List Int), xs.length ≤ n → ∀ ys, joinOf xs = some ys → ys.length ≤ xs.length := by
    intro n
    induction n with
    | zero =>
      intro xs hn ys h
      obtain rfl : xs = [] := List.eq_nil_of_length_eq_zero (by omega)
      rw [joinOf_nil] at h
      cases h
      simp
    | succ n ih =>
      intro xs hn ys h
      match xs with
      | [] => rw [joinOf_nil] at h; cases h; simp
      | u :: l =>
        by_cases c : hiU u
        · match l with
          | [] => rw [joinOf_end u c] at h; cases h
          | v :: l =>
            by_cases cl : loU v
            · rw [joinOf_two u v l c cl, Option.map_eq_some_iff] at h
              obtain ⟨zs, hz, rfl⟩ := h
              simp only [List.length_cons] at hn ⊢
              have := ih l (by omega) zs hz
              omega
            · rw [joinOf_half u v l c cl] at h; cases h
        · by_cases cr : okR u ∧ u < 65536
          · rw [joinOf_one u l c cr, Option.map_eq_some_iff] at h
            obtain ⟨zs, hz, rfl⟩ := h
            simp only [List.length_cons] at hn ⊢
            have := ih l (by omega) zs hz
            omega
          · rw [joinOf_bad u l c cr] at h; cases h
  have hl : (joinAns [] (joinOf l0)).1.length ≤ 5000 := by
    cases h : joinOf l0 with
    | none => simp [joinAns]
    | some ys =>
      have := hj _ l0 (Nat.le_refl _) ys h
      simp only [joinAns, List.nil_append]
      omega
  rw [sameInts_eq _ _ (by omega) _ (by omega)]
  simp only [Option.bind_some, decide_true, if_true]
  rw [sameInts_eq _ _ (by omega) _ (by omega)]
  simp
theorem placesLaw : parlancelaw04_UtfPlaces.Pure := by
  intro s n _ _
  obtain ⟨m, hm⟩ := big
  refine ⟨m + 3, ?_⟩
  unfold parlancelaw04_UtfPlaces.f
  rw [alive_eq _ (by omega), Option.bind_some, if_pos rfl]
  by_cases hb : (s.size : Int) > 5000
  · rw [if_pos hb]
  rw [if_neg hb, offset_at _ _ (by omega), refOffset_eq _ _ (by omega) _ (by omega), unit_at _ _ (by omega), refUnitAt_eq _ _ (by omega) _ (by omega)]
  simp
theorem there : parlancelaw04_UtfThere.Pure := by
  intro s n q _ _ _
  obtain ⟨m, hm⟩ := big
  refine ⟨m + 3, ?_⟩
  unfold parlancelaw04_UtfThere.f
  rw [alive_eq _ (by omega), Option.bind_some, if_pos rfl]
  by_cases hb : (s.size : Int) > 5000
  · rw [if_pos hb]
  have hs := size_data s
  rw [if_neg hb, offset_at _ _ (by omega), offset_at _ _ (by omega)]
  simp only [Option.bind_some]
  by_cases v : validD s.data.toList = true
  case neg =>
    have e : ∀ x, offsetAns s x = (0, 40) := fun x => by unfold offsetAns; rw [if_neg v]
    rw [e n]
    simp
  have e : ∀ x, offsetAns s x = offsetOf s.data.toList x := fun x => by unfold offsetAns; rw [if_pos v]
  have e2 : ∀ x, unitAns s x = unitOf s.data.toList x := fun x => by unfold unitAns; rw [if_pos v]
  rw [e n, e q]
  have hp := places_of_text _ v
  obtain ⟨et, ha⟩ := text_enc _ v
  have hle : ∀ p ∈ places s.data.toList, p.1 ≤ s.size := by
    intro p h
    rw [hp] at h
    have := placesR_le _ _ _ p h
    rw [← et] at this
    omega
  have hrise : ∀ p r, p ∈ places s.data.toList → r ∈ places s.data.toList → (p = r) ∨ (p.1 < r.1 ∧ p.2 < r.2) ∨ (r.1 < p.1 ∧ r.2 < p.2) := by
    intro p r h1 h2
    rw [hp] at h1 h2
    exact placesR_rise _ _ _ p r h1 h2
  rcases offsetOf_some s.data.toList n with ⟨p, hpm, hpn, hpe⟩ | ⟨_, hpe⟩
  case inr => rw [hpe]; simp
  rw [hpe]
  simp only [if_true]
  rw [unit_at _ _ (by omega), e2]
  simp only [Option.bind_some]
  have hpl := hle p hpm
  rcases unitOf_some s.data.toList (p.1 : Int) with ⟨r, hrm, hrn, hre⟩ | ⟨hno, _⟩
  case inr => exact absurd rfl (hno p hpm)
  have hpr : p = r := by
    rcases hrise p r hpm hrm with h | h | h
    · exact h
    · omega
    · omega
  subst hpr
  rw [hre]
  simp only [if_true]
  rw [if_pos hpn, if_neg (by omega), if_neg (by omega)]
  rcases offsetOf_some s.data.toList q with ⟨r, hrm, hrn, hre2⟩ | ⟨_, hre2⟩
  case inr => rw [hre2]; simp
  rw [hre2]
  simp only [if_true]
  have key : ((p.1 : Int) < (r.1 : Int) ↔ n < q) ∧ ((p.1 : Int) = (r.1 : Int) ↔ n = q) := by
    rcases hrise p r hpm hrm with h | h | h
    · subst h; omega
    · omega
    · omega
  rw [if_pos (show (decide ((p.1 : Int) < (r.1 : Int)) == decide (n < q)) = true by rw [decide_eq_decide.2 key.1]; exact beq_self_eq_true _)]
  congr 1
  rw [beq_iff_eq]
  by_cases c : n = q
  · have := key.2.2 c
    simp [c, this]
  · have : ¬ (p.1 : Int) = (r.1 : Int) := fun z => c (key.2.1 z)
    rw [beq_eq_false_iff_ne.2 this, beq_eq_false_iff_ne.2 c]
theorem counted : parlancelaw04_UtfCounts.Pure := by
  intro s _
  obtain ⟨m, hm⟩ := big
  refine ⟨m + 3, ?_⟩
  unfold parlancelaw04_UtfCounts.f
  rw [alive_eq _ (by omega), Option.bind_some, if_pos rfl]
  by_cases hb : (s.size : Int) > 20000
  · rw [if_pos hb]
  have hs := size_data s
  rw [if_neg hb, runes_at _ (by omega), utfUnits_eq _ (by omega) _ (by omega)]
  unfold unitsAns
  by_cases v : validD s.data.toList = true
  case neg => simp [v]
  obtain ⟨et, ha⟩ := text_enc _ v
  have hc := counts _ ha
  rw [← et] at hc
  simp only [v, if_true, Option.bind_some]
  rw [if_pos (by omega), if_pos (by omega), w64 _ (by omega), decide_eq_true (by omega)]
theorem joined : parlancelaw04_UtfJoined.Pure := by
  intro s t _ _
  obtain ⟨m, hm⟩ := big
  refine ⟨m + 3, ?_⟩
  unfold parlancelaw04_UtfJoined.f
  rw [alive_eq _ (by omega), Option.bind_some, if_pos rfl]
  rw [w64 _ (by omega)]
  by_cases hb : (s.size : Int) + (t.size : Int) > 5000
  · rw [if_pos hb]
  have hs := size_data s
  have ht := size_data t
  rw [if_neg hb, utfUnits_eq _ (by omega) _ (by omega), utfUnits_eq _ (by omega) _ (by omega)]
  simp only [Option.bind_some]
  unfold unitsAns
  by_cases v : validD s.data.toList = true
  case neg => simp [v, parlancelaw04_UtfJoined.j0]
  by_cases u : validD t.data.toList = true
  case neg => simp [u, v, parlancelaw04_UtfJoined.j0]
  simp only [u, v, if_true, parlancelaw04_UtfJoined.j0]
  rw [if_neg (by decide), if_pos (by omega)]
  have hsz : (s ++ t).size = s.size + t.size := ByteArray.size_append
  have hd : (s ++ t).data.toList = s.data.toList ++ t.data.toList := by simp
  rw [utfUnits_eq _ (by omega) _ (by omega)]
  simp only [Option.bind_some]
  obtain ⟨es, ha⟩ := text_enc _ v
  obtain ⟨et, hb'⟩ := text_enc _ u
  have hv : validD (s.data.toList ++ t.data.toList) = true := by
    have := valid_enc _ ha t.data.toList
    rw [← es] at this
    rw [this, u]
  have hr : runes (s.data.toList ++ t.data.toList) = runes s.data.toList ++ runes t.data.toList := by
    have := runes_enc _ ha t.data.toList
    rwa [← es] at this
  have hl1 := runes_len _ v
  have hl2 := runes_len _ u
  unfold unitsAns
  rw [hd, hv, hr, units_append]
  simp only [if_true]
  rw [if_pos (by omega), sameInts_eq _ _ (by rw [List.length_append]; omega) _ (by rw [List.length_append]; omega)]
  simp
theorem take_stuck (t : List UInt8) (ht : Stuck t) (j : Nat) (h0 : 0 < j) (hj : j ≤ t.length) : validD (t.take j) = false := by
  rcases ht with rfl | ⟨hne, hbad⟩
  · simp at hj; omega
  cases h : validD (t.take j) with
  | false => rfl
  | true =>
    exfalso
    obtain ⟨e, ha⟩ := text_enc _ h
    cases hr : runes (t.take j) with
    | nil =>
      rw [hr] at e
      have := congrArg List.length e
      rw [List.length_take, enc_nil, List.length_nil] at this
      omega
    | cons r rs =>
      rw [hr, enc_cons] at e
      rw [hr] at ha
      have e2 : t = encodeRune r ++ (enc rs ++ t.drop j) := by rw [← List.append_assoc, ← e, List.take_append_drop]
      rw [e2] at hbad
      exact encode_not_bad r (allR_cons.1 ha).1 _ hbad
theorem front_l0 (pre t : List UInt8) (ht : Stuck t) (hb : (pre ++ t).length ≤ 5000) : ∀ (d j k : Nat), j + d = 5 → 1 ≤ j → 2 * d + 2 < k → parlancelaw04_UtfFront.l0 k (ints (pre ++ t)) (pre.length : Int) ((pre.length + j : Nat) : Int) = some true
  | 0, j, k, h, h1, hk => by
    obtain ⟨k, rfl⟩ : ∃ m, k = m + 2 := ⟨k - 2, by omega⟩
    rw [List.length_append] at hb
    simp only [parlancelaw04_UtfFront.l0, parlancelaw04_UtfFront.j2]
    rw [w64 ((pre.length : Int) + 4) (by omega), decide_eq_false (by omega)]
    simp
  | d + 1, j, k, h, h1, hk => by
    obtain ⟨k, rfl⟩ : ∃ m, k = m + 2 := ⟨k - 2, by omega⟩
    rw [List.length_append] at hb
    simp only [parlancelaw04_UtfFront.l0, ints_length, List.length_append]
    by_cases c : ((pre.length + j : Nat) : Int) ≤ ((pre.length + t.length : Nat) : Int)
    · rw [if_pos c, w64 ((pre.length : Int) + 4) (by omega), decide_eq_true (by omega)]
      simp only [parlancelaw04_UtfFront.j2, if_true, ints_length, List.length_append]
      rw [if_pos (by omega), if_pos (by omega), if_pos c, Int.toNat_natCast, Int.toNat_natCast, ints_take, ints_drop, List.take_length_add_append, List.drop_left]
      have hsz := strOf_size (t.take j)
      have hlt : (t.take j).length ≤ t.length := by rw [List.length_take]; omega
      rw [runes_at _ (by omega), strOf_data, take_stuck t ht j (by omega) (by omega)]
      simp only [Option.bind_some]
      rw [w64 _ (by omega)]
      exact front_l0 pre t ht (by rw [List.length_append]; omega) d (j + 1) k (by omega) (by omega) (by omega)
    · rw [if_neg c]
      simp only [parlancelaw04_UtfFront.j2]
      rw [if_neg (by decide)]
theorem front : parlancelaw04_UtfFront.Pure := by
  intro l0 _ _ hw
  obtain ⟨m, hm⟩ := big
  refine ⟨m + 3, ?_⟩
  unfold parlancelaw04_UtfFront.f
  rw [alive_eq _ (by omega), Option.bind_some, if_pos rfl]
  by_cases hb : (l0.length : Int) > 5000
  · rw [if_pos hb]
  rw [if_neg hb]
  have e : l0 = ints (byteList l0) := (ints_byteList l0 fun x hx => byte_wf (hw x hx)).symm
  generalize byteList l0 = bs at e
  subst e
  rw [ints_length] at hb
  rw [copyBytes_eq _ (by rw [ints_length]; omega)]
  obtain ⟨rs, t, rfl, ha, ht⟩ := split_text bs
  rw [Option.bind_some, utfValid_eq rs t ha ht (by omega) _ (by omega), Option.bind_some, ints_length]
  have hlen : (enc rs ++ t).length = (enc rs).length + t.length := List.length_append
  rw [if_neg (by omega), decide_eq_false (by omega)]
  simp only [parlancelaw04_UtfFront.j0, ints_length]
  rw [if_neg (by decide), if_pos (by omega), if_pos (by omega), Int.toNat_natCast, ints_take, List.take_left]
  have hsz := strOf_size (enc rs)
  rw [runes_at _ (by omega), strOf_data, valid_enc' rs ha]
  rw [Option.bind_some, if_pos rfl, if_pos rfl, w64 _ (by omega)]
  exact front_l0 (enc rs) t ht (by omega) 4 1 _ (by omega) (by omega) (by omega)
end Go.Proofs.YtflfkbnolehpgaaDoor.F
