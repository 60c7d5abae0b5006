/-
  The law UtfRound in plain words: the printed function answers true at every input. Ahead of it: what the printed functions that it reaches answer.
-/
import Derived.Test.YtflfkbnolehpgaaDoorPUtfx1
import Derived.Test.YtflfkbnolehpgaaDoorPUtfx5
import Derived.Test.YtflfkbnolehpgaaDoorPUtfx6
import Derived.Test.YtflfkbnolehpgaaDoorPUtfx7
import Derived.Test.YtflfkbnolehpgaaDoorUtfTheory
namespace Go.Proofs.YtflfkbnolehpgaaDoor.F
open Go.RowKit Go.Lib Go.Proofs.YtflfkbnolehpgaaDoor.G Go.Proofs.YtflfkbnolehpgaaDoor.PUA Go.Proofs.YtflfkbnolehpgaaDoor.PUtf Go.Proofs.YtflfkbnolehpgaaDoorW.PrintWords Go.Proofs.YtflfkbnolehpgaaDoorW.PrintLast
theorem rd_nat (x : List Int) (i : Nat) (h : i < x.length) : rd x (i : Int) = x[i] := by
  unfold rd
  simp [List.getD_eq_getElem?_getD, h]
theorem mono_le {α : Type} (f : Nat → Option α) (hm : ∀ k, LeO (f k) (f (k + 1))) (n : Nat) : ∀ (d : Nat) (r : α), f n = some r → f (n + d) = some r
  | 0, _, h => h
  | d + 1, r, h => hm (n + d) r (mono_le f hm n d r h)
set_option maxRecDepth 100000 in
theorem alive_eq (k : Nat) (hk : 20 ≤ k) : parlancelaw04_alive.f k = some true := by
  have h : parlancelaw04_alive.f 20 = some true := by decide +kernel
  have := mono_le _ parlancelaw04_alive.mono 20 (k - 20) true h
  rwa [show 20 + (k - 20) = k by omega] at this
theorem sameInts_l0 (x y : List Int) (he : x.length = y.length) (hb : x.length ≤ 9223372036854775806) : ∀ (d i k : Nat), i + d = x.length → d < k → parlanceref00_SameInts.l0 k x y (i : Int) = some (decide (x.drop i = y.drop i))
  | 0, i, k, h, hk => by
    obtain ⟨k, rfl⟩ : ∃ m, k = m + 1 := ⟨k - 1, by omega⟩
    simp only [parlanceref00_SameInts.l0]
    rw [if_neg (by omega), List.drop_of_length_le (by omega), List.drop_of_length_le (by omega)]
    simp
  | d + 1, i, k, h, hk => by
    obtain ⟨k, rfl⟩ : ∃ m, k = m + 1 := ⟨k - 1, by omega⟩
    simp only [parlanceref00_SameInts.l0]
    have hx : i < x.length := by omega
    have hy : i < y.length := by omega
    rw [if_pos (by omega), if_pos (by omega), if_pos (by omega), w64 _ (by omega), rd_nat x i hx, rd_nat y i hy]
    rw [show ((i : Int) + 1) = ((i + 1 : Nat) : Int) from rfl, sameInts_l0 x y he hb d (i + 1) k (by omega) (by omega)]
    rw [List.drop_eq_getElem_cons hx, List.drop_eq_getElem_cons hy]
    by_cases c : x[i] = y[i]
    · rw [if_pos c]; simp only [c, List.cons.injEq, true_and]
    · rw [if_neg c]; simp only [c, List.cons.injEq, false_and, decide_false]
theorem sameInts_eq (x y : List Int) (hb : x.length ≤ 9223372036854775806) (k : Nat) (hk : x.length < k) : parlanceref00_SameInts.f k x y = some (decide (x = y)) := by
  unfold parlanceref00_SameInts.f
  split
  case isTrue h =>
    have := sameInts_l0 x y (by omega) hb x.length 0 k (by omega) hk
    simpa using this
  case isFalse h =>
    rw [decide_eq_false]
    rintro rfl
    exact h rfl
theorem copyInts_eq (x : List Int) (h : x.length < 17592186044416) : parlanceref00_CopyInts.f x = some x := by
  unfold parlanceref00_CopyInts.f
  simp [h]
theorem runes_at (s : ByteArray) (h : s.size ≤ 17592186044416) : GRunes.f s = some (if validD s.data.toList then (runes s.data.toList, 0) else ([], 40)) := if_pos h
theorem size_data (s : ByteArray) : s.size = s.data.toList.length := Array.length_toList.symm
theorem runes_len (l : List UInt8) (h : validD l = true) : (runes l).length ≤ l.length ∧ (units (runes l)).length ≤ l.length := by
  obtain ⟨e, ha⟩ := text_enc l h
  have := counts (runes l) ha
  rw [← e] at this
  omega
theorem tdiv_pos (x : Int) (h : 0 ≤ x) : Int.tdiv x 1024 = x / 1024 := Int.tdiv_eq_ediv_of_nonneg h
theorem tmod_pos (x : Int) (h : 0 ≤ x) : Int.tmod x 1024 = x % 1024 := Int.tmod_eq_emod_of_nonneg h
theorem two_units (r : Int) (h : okR r) (hr : ¬ r < 65536) : ([wrap64 (55296 + (wrap64 (Int.tdiv (wrap64 (r - 65536)) 1024))), wrap64 (56320 + (Int.tmod (wrap64 (r - 65536)) 1024))] : List Int) = unitsR r := by
  obtain ⟨h0, h1, _⟩ := h
  unfold unitsR
  rw [if_neg hr, w64 (r - 65536) (by omega), tdiv_pos _ (by omega), tmod_pos _ (by omega), w64 ((r - 65536) / 1024) (by omega), w64 _ (by omega), w64 _ (by omega)]
theorem utfUnits_l0 (rs : List Int) (ha : allR rs) (hb : rs.length ≤ 1000000) : ∀ (d i k : Nat) (acc : List Int), i + d = rs.length → d < k → acc.length + 2 * d ≤ 10000000 → utf_Units.l0 k acc rs (rs.length : Int) (i : Int) = some (acc ++ units (rs.drop i), 0)
  | 0, i, k, acc, h, hk, hl => by
    obtain ⟨k, rfl⟩ : ∃ m, k = m + 1 := ⟨k - 1, by omega⟩
    simp only [utf_Units.l0]
    rw [if_neg (by omega), List.drop_of_length_le (by omega)]
    simp [units]
  | d + 1, i, k, acc, h, hk, hl => by
    obtain ⟨k, rfl⟩ : ∃ m, k = m + 1 := ⟨k - 1, by omega⟩
    simp only [utf_Units.l0]
    have hx : i < rs.length := by omega
    have hr : okR rs[i] := ha _ (List.getElem_mem hx)
    have hu := unitsR_le rs[i]
    rw [if_pos (by omega), if_pos (by omega), if_pos (by omega), rd_nat rs i hx, w64 ((i : Int) + 1) (by omega), show ((i : Int) + 1) = ((i + 1 : Nat) : Int) from rfl]
    by_cases c : rs[i] < 65536
    · rw [if_pos c, if_pos (by omega), utfUnits_l0 rs ha hb d (i + 1) k _ (by omega) (by omega) (by rw [List.length_append, List.length_singleton]; omega), List.drop_eq_getElem_cons hx, units_cons, List.append_assoc]
      unfold unitsR
      rw [if_pos c]
    · rw [if_neg c]
      simp only [Option.bind_some]
      rw [two_units _ hr c, if_pos (by omega), utfUnits_l0 rs ha hb d (i + 1) k _ (by omega) (by omega) (by rw [List.length_append]; omega), List.drop_eq_getElem_cons hx, units_cons, List.append_assoc]
/-- What Units answers. -/
def unitsAns (s : ByteArray) : List Int × Int := if validD s.data.toList then (units (runes s.data.toList), 0) else ([], 40)
theorem utfUnits_eq (s : ByteArray) (h : s.size ≤ 1000000) (k : Nat) (hk : s.size < k) : utf_Units.f k s = some (unitsAns s) := by
  unfold utf_Units.f unitsAns
  rw [runes_at s (by omega)]
  have hs := size_data s
  by_cases v : validD s.data.toList = true
  · obtain ⟨e, ha⟩ := text_enc _ v
    have hl := runes_len _ v
    simp only [v, if_true, Option.bind_some]
    have := utfUnits_l0 (runes s.data.toList) ha (by omega) (runes s.data.toList).length 0 k [] (by omega) (by omega) (by simp; omega)
    simpa using this
  · simp [v]
theorem ints_append (x y : List UInt8) : ints (x ++ y) = ints x ++ ints y := by simp [ints]
theorem decode_at (bs : List UInt8) (h : bs ≠ []) : GDecodeRune.f (ints bs) = some (((decodeL bs).1 : Int), ((decodeL bs).2 : Int)) := by
  unfold GDecodeRune.f
  rw [if_neg (by simpa [ints] using h), if_pos (fun x hx => ints_bound bs x hx), byteList_ints]
theorem utfValid_l0 (t : List UInt8) (ht : Stuck t) : ∀ (rs : List Int) (pre : List UInt8) (k : Nat), allR rs → rs.length < k → (pre ++ (enc rs ++ t)).length ≤ 1000000 → utf_Valid.l0 k (ints (pre ++ (enc rs ++ t))) (pre.length : Int) = some ((pre.length + (enc rs).length : Nat) : Int)
  | [], pre, k, ha, hk, hb => by
    obtain ⟨k, rfl⟩ : ∃ m, k = m + 1 := ⟨k - 1, by omega⟩
    simp only [utf_Valid.l0, enc_nil, List.nil_append, ints_length, List.length_append, List.length_nil] at hb ⊢
    rcases ht with rfl | ⟨hne, hbad⟩
    · rw [if_neg (by simp)]
      simp
    · have hp : 0 < t.length := List.length_pos_iff.2 hne
      rw [if_pos (by omega), if_pos (by omega), if_pos (by omega), ints_drop, Int.toNat_natCast, List.drop_left, decode_at t hne]
      simp only [Option.bind_some]
      obtain ⟨h1, h2⟩ := hbad
      rw [if_pos (by rw [h1]; rfl), if_pos (by rw [h2]; decide)]
      simp
  | r :: rs, pre, k, ha, hk, hb => by
    obtain ⟨k, rfl⟩ : ∃ m, k = m + 1 := ⟨k - 1, by omega⟩
    have hr := (allR_cons.1 ha).1
    have hl := encode_length r
    rw [enc_cons] at hb ⊢
    have e1 : pre ++ (encodeRune r ++ enc rs ++ t) = (pre ++ encodeRune r) ++ (enc rs ++ t) := by simp
    simp only [utf_Valid.l0, ints_length]
    simp only [List.length_append] at hb ⊢
    rw [if_pos (by omega), if_pos (by omega), if_pos (by omega), ints_drop, Int.toNat_natCast, List.drop_left, List.append_assoc, decode_at _ (by simp [encode_ne r])]
    have hg := encode_not_bad r hr (enc rs ++ t)
    unfold Bad at hg
    rw [decode_encode r hr] at hg ⊢
    simp only [Option.bind_some] at hg ⊢
    have ih := utfValid_l0 t ht rs (pre ++ encodeRune r) k (allR_cons.1 ha).2 (by simp at hk; omega) (by simp only [List.length_append]; omega)
    rw [← e1, List.append_assoc] at ih
    have e2 : wrap64 ((pre.length : Int) + ((encodeRune r).length : Int)) = ((pre ++ encodeRune r).length : Int) := by rw [w64 _ (by omega), List.length_append]; omega
    rw [e2, ih, List.length_append]
    have e3 : pre.length + (encodeRune r).length + (enc rs).length = pre.length + ((encodeRune r).length + (enc rs).length) := by omega
    rw [e3]
    split
    · rw [if_neg (by omega)]
    · rfl
theorem utfValid_eq (rs : List Int) (t : List UInt8) (ha : allR rs) (ht : Stuck t) (hb : (enc rs ++ t).length ≤ 1000000) (k : Nat) (hk : (enc rs ++ t).length < k) : utf_Valid.f k (ints (enc rs ++ t)) = some ((enc rs).length : Int) := by
  have hc := counts rs ha
  rw [List.length_append] at hk
  have := utfValid_l0 t ht rs [] k ha (by omega) hb
  simpa [utf_Valid.f] using this
def encZ (rs : List Int) : List Int := rs.flatMap encodeRuneZ
theorem encZ_cons (r : Int) (rs : List Int) : encZ (r :: rs) = encodeRuneZ r ++ encZ rs := by simp [encZ]
theorem utfIsRune_eq (r : Int) : utf_isRune.f r = some (decide (okR r)) := by
  unfold utf_isRune.f okR
  split
  · split
    · split
      · rw [decide_eq_true (by omega : 0 ≤ r ∧ r ≤ 1114111 ∧ ¬ (55296 ≤ r ∧ r ≤ 57343))]
      · congr 1
        exact decide_eq_decide.2 (by omega)
    · rw [decide_eq_false (by omega : ¬ (0 ≤ r ∧ r ≤ 1114111 ∧ ¬ (55296 ≤ r ∧ r ≤ 57343)))]
  · rw [decide_eq_false (by omega : ¬ (0 ≤ r ∧ r ≤ 1114111 ∧ ¬ (55296 ≤ r ∧ r ≤ 57343)))]
/-- What a making of a text answers, behind what is made already. -/
def textAns (acc xs : List Int) : ByteArray × Int := if allR xs then (strOfNums (acc ++ encZ xs), 0) else (⟨#[]⟩, 40)
theorem textAns_cons (acc : List Int) (r : Int) (rs : List Int) (h : okR r) : textAns acc (r :: rs) = textAns (acc ++ encodeRuneZ r) rs := by
  unfold textAns
  rw [encZ_cons, List.append_assoc]
  by_cases c : allR rs
  · rw [if_pos c, if_pos (allR_cons.2 ⟨h, c⟩)]
  · rw [if_neg c, if_neg (fun z => c (allR_cons.1 z).2)]
theorem textAns_bad (acc : List Int) (r : Int) (rs : List Int) (h : ¬ okR r) : textAns acc (r :: rs) = (⟨#[]⟩, 40) := if_neg (fun z => h (allR_cons.1 z).1)
theorem w32_of (x : Int) (h : okR x) : wrap32 x = x := by
  obtain ⟨h0, h1, _⟩ := h
  unfold wrap32
  omega
theorem encZ_bound (r : Int) : (encodeRuneZ r).length ≤ 4 := (encodeRuneZ_length r).2
theorem utfText_l0 (xs : List Int) (hb : xs.length ≤ 1000000) : ∀ (d i k : Nat) (acc : List Int), i + d = xs.length → d < k → acc.length + 4 * d ≤ 10000000 → utf_Text.l0 k acc xs (xs.length : Int) (i : Int) = some (textAns acc (xs.drop i))
  | 0, i, k, acc, h, hk, hl => by
    obtain ⟨k, rfl⟩ : ∃ m, k = m + 1 := ⟨k - 1, by omega⟩
    simp only [utf_Text.l0]
    rw [if_neg (by omega), List.drop_of_length_le (by omega)]
    simp [textAns, encZ, allR_nil]
  | d + 1, i, k, acc, h, hk, hl => by
    obtain ⟨k, rfl⟩ : ∃ m, k = m + 1 := ⟨k - 1, by omega⟩
    simp only [utf_Text.l0]
    have hx : i < xs.length := by omega
    rw [if_pos (by omega), if_pos (by omega), if_pos (by omega), rd_nat xs i hx, utfIsRune_eq, List.drop_eq_getElem_cons hx, w64 ((i : Int) + 1) (by omega), show ((i : Int) + 1) = ((i + 1 : Nat) : Int) from rfl]
    simp only [Option.bind_some]
    have he := encZ_bound xs[i]
    by_cases c : okR xs[i]
    · rw [if_pos (decide_eq_true c), w32_of _ c, textAns_cons _ _ _ c]
      have hg : GAppendRune.f acc xs[i] = some (acc ++ encodeRuneZ xs[i]) := if_pos (by have := c.1; have := c.2.1; omega)
      rw [hg]
      simp only [Option.bind_some]
      rw [utfText_l0 xs hb d (i + 1) k _ (by omega) (by omega) (by rw [List.length_append]; omega)]
    · rw [if_neg (by simpa using c), textAns_bad _ _ _ c]
theorem utfText_eq (xs : List Int) (hb : xs.length ≤ 1000000) (k : Nat) (hk : xs.length < k) : utf_Text.f k xs = some (textAns [] xs) := by
  have := utfText_l0 xs hb xs.length 0 k [] (by omega) hk (by simp; omega)
  simpa [utf_Text.f] using this
def joinAns (acc : List Int) : Option (List Int) → List Int × Int
  | none => ([], 40)
  | some x => (acc ++ x, 0)
theorem joinAns_map (acc : List Int) (r : Int) (o : Option (List Int)) : joinAns acc (o.map fun x => r :: x) = joinAns (acc ++ [r]) o := by
  cases o <;> simp [joinAns]
def hiU (u : Int) : Prop := 55296 ≤ u ∧ u ≤ 56319
instance (u : Int) : Decidable (hiU u) := by unfold hiU; infer_instance
def loU (u : Int) : Prop := 56320 ≤ u ∧ u ≤ 57343
instance (u : Int) : Decidable (loU u) := by unfold loU; infer_instance
def twoU (u v : Int) : Int := 65536 + (u - 55296) * 1024 + v - 56320
theorem joinOf_nil : joinOf [] = some [] := rfl
theorem joinOf_end (u : Int) (h : hiU u) : joinOf [u] = none := by
  unfold hiU at h
  simp only [joinOf]
  rw [if_pos h]
theorem joinOf_two (u v : Int) (l : List Int) (h : hiU u) (hv : loU v) : joinOf (u :: v :: l) = (joinOf l).map (fun x => twoU u v :: x) := by
  unfold hiU at h
  unfold loU at hv
  simp only [joinOf]
  rw [if_pos h, if_pos hv]
  rfl
theorem joinOf_half (u v : Int) (l : List Int) (h : hiU u) (hv : ¬ loU v) : joinOf (u :: v :: l) = none := by
  unfold hiU at h
  unfold loU at hv
  simp only [joinOf]
  rw [if_pos h, if_neg hv]
theorem joinOf_one (u : Int) (l : List Int) (h : ¬ hiU u) (hu : okR u ∧ u < 65536) : joinOf (u :: l) = (joinOf l).map (fun x => u :: x) := by
  unfold hiU at h
  cases l with
  | nil => simp only [joinOf]; rw [if_neg h, if_pos hu]; rfl
  | cons v l => simp only [joinOf]; rw [if_neg h, if_pos hu]
theorem joinOf_bad (u : Int) (l : List Int) (h : ¬ hiU u) (hu : ¬ (okR u ∧ u < 65536)) : joinOf (u :: l) = none := by
  unfold hiU at h
  cases l with
  | nil => simp only [joinOf]; rw [if_neg h, if_neg hu]
  | cons v l => simp only [joinOf]; rw [if_neg h, if_neg hu]
def waits (f : Int) : List Int := if f = -1 then [] else [f]
set_option maxHeartbeats 1000000 in
theorem utfJoin_l0 (xs : List Int) (hb : xs.length ≤ 1000000) : ∀ (d i k : Nat) (acc : List Int) (f : Int), i + d = xs.length → (f = -1 ∨ hiU f) → 3 * d < k → acc.length + d ≤ 10000000 → utf_Join.l0 k acc f xs (xs.length : Int) (i : Int) = some (joinAns acc (joinOf (waits f ++ xs.drop i)))
  | 0, i, k, acc, f, h, hf, hk, hl => by
    obtain ⟨k, rfl⟩ : ∃ m, k = m + 1 := ⟨k - 1, by omega⟩
    simp only [utf_Join.l0]
    rw [if_neg (by omega), List.drop_of_length_le (by omega), List.append_nil]
    unfold waits
    rcases hf with rfl | hf
    · rw [if_neg (by omega), if_pos rfl, joinOf_nil]
      simp [joinAns]
    · have := hf
      unfold hiU at this
      rw [if_pos (by omega), if_neg (by omega), joinOf_end f hf]
      rfl
  | d + 1, i, k, acc, f, h, hf, hk, hl => by
    obtain ⟨k, rfl⟩ : ∃ m, k = m + 3 := ⟨k - 3, by omega⟩
    have hx : i < xs.length := by omega
    have e1 : wrap64 ((i : Int) + 1) = ((i + 1 : Nat) : Int) := by rw [w64 _ (by omega)]; rfl
    simp only [utf_Join.l0]
    rw [if_pos (by omega), if_pos (by omega), if_pos (by omega), rd_nat xs i hx, List.drop_eq_getElem_cons hx]
    generalize xs[i] = u
    rcases hf with rfl | hf
    · rw [if_neg (by omega)]
      simp only [utf_Join.j1]
      rw [if_neg (by decide), if_neg (by omega)]
      have ew : waits (-1) = [] := if_pos rfl
      rw [ew, List.nil_append]
      by_cases c : hiU u
      · have hc := c
        unfold hiU at hc
        rw [if_pos (by omega)]
        simp only [utf_Join.j2]
        rw [if_pos (decide_eq_true (by omega)), e1, utfJoin_l0 xs hb d (i + 1) k acc u (by omega) (.inr c) (by omega) (by omega)]
        have ew : waits u = [u] := if_neg (by omega)
        rw [ew]
        rfl
      · have hj : (if u ≥ 55296 then utf_Join.j2 (k + 1) acc (-1) u xs (xs.length : Int) (i : Int) (decide (u < 56320)) else utf_Join.j2 (k + 1) acc (-1) u xs (xs.length : Int) (i : Int) false) = utf_Join.j2 (k + 1) acc (-1) u xs (xs.length : Int) (i : Int) false := by
          unfold hiU at c
          split
          · rw [decide_eq_false (by omega)]
          · rfl
        rw [hj]
        simp only [utf_Join.j2]
        rw [if_neg (by decide), utfIsRune_eq]
        simp only [Option.bind_some]
        by_cases cr : okR u
        · rw [if_pos (decide_eq_true cr)]
          by_cases cp : u ≥ 65536
          · rw [if_pos cp, joinOf_bad u _ c (by omega)]
            rfl
          · rw [if_neg cp, if_pos (by omega), e1, utfJoin_l0 xs hb d (i + 1) k _ (-1) (by omega) (.inl rfl) (by omega) (by rw [List.length_append, List.length_singleton]; omega), joinOf_one u _ c ⟨cr, by omega⟩, joinAns_map, ew, List.nil_append]
        · rw [if_neg (by simpa using cr), joinOf_bad u _ c (fun z => cr z.1)]
          rfl
    · have hh := hf
      unfold hiU at hh
      rw [if_pos (by omega)]
      have ew : waits f = [f] := if_neg (by omega)
      rw [ew]
      have hj : (if u < 56320 then utf_Join.j1 (k + 2) acc f u xs (xs.length : Int) (i : Int) true else utf_Join.j1 (k + 2) acc f u xs (xs.length : Int) (i : Int) (decide (u > 57343))) = utf_Join.j1 (k + 2) acc f u xs (xs.length : Int) (i : Int) (decide (¬ loU u)) := by
        unfold loU
        split
        · rw [decide_eq_true (by omega : ¬ (56320 ≤ u ∧ u ≤ 57343))]
        · congr 1
          exact decide_eq_decide.2 (by omega)
      rw [hj]
      simp only [utf_Join.j1]
      by_cases cl : loU u
      · rw [if_neg (by simpa using cl), if_pos (by omega), if_pos (by omega)]
        have hl2 := cl
        unfold loU at hl2
        rw [w64 (f - 55296) (by omega), w64 ((f - 55296) * 1024) (by omega), w64 (65536 + (f - 55296) * 1024) (by omega), w64 (65536 + (f - 55296) * 1024 + u) (by omega), w64 (65536 + (f - 55296) * 1024 + u - 56320) (by omega)]
        rw [e1, utfJoin_l0 xs hb d (i + 1) (k + 1) _ (-1) (by omega) (.inl rfl) (by omega) (by rw [List.length_append, List.length_singleton]; omega)]
        have ew2 : waits (-1) = [] := if_pos rfl
        rw [ew2, List.nil_append, List.cons_append, List.nil_append, joinOf_two f u _ hf cl, joinAns_map]
        rfl
      · rw [if_pos (by simpa using cl), List.cons_append, List.nil_append, joinOf_half f u _ hf cl]
        rfl
theorem utfJoin_eq (xs : List Int) (hb : xs.length ≤ 1000000) (k : Nat) (hk : 3 * xs.length < k) : utf_Join.f k xs = some (joinAns [] (joinOf xs)) := by
  have := utfJoin_l0 xs hb xs.length 0 k [] (-1) (by omega) (.inl rfl) hk (by simp; omega)
  simpa [utf_Join.f, waits] using this
theorem big : ∃ m : Nat, 100000 ≤ m := ⟨_, Nat.le_refl _⟩
theorem bytesOf_ints (s : ByteArray) : bytesOf s = ints s.data.toList := rfl
theorem strOf_encZ (rs : List Int) : (strOfNums (encZ rs)).data.toList = enc rs := by
  show (((encZ rs).map fun n => UInt8.ofNat n.toNat).toArray).toList = enc rs
  rw [List.toList_toArray]
  unfold encZ enc
  rw [List.map_flatMap]
  rfl
theorem join_units : ∀ (rs : List Int), allR rs → joinOf (units rs) = some rs
  | [], _ => rfl
  | r :: rs, h => by
    have hr := (allR_cons.1 h).1
    have ih := join_units rs (allR_cons.1 h).2
    obtain ⟨h0, h1, h2⟩ := hr
    rw [units_cons]
    unfold unitsR
    by_cases c : r < 65536
    · rw [if_pos c, List.cons_append, List.nil_append, joinOf_one r _ (by unfold hiU; omega) ⟨(allR_cons.1 h).1, c⟩, ih]
      rfl
    · rw [if_neg c, List.cons_append, List.cons_append, List.nil_append, joinOf_two _ _ _ (by unfold hiU; omega) (by unfold loU; omega), ih]
      have : twoU (55296 + (r - 65536) / 1024) (56320 + (r - 65536) % 1024) = r := by unfold twoU; omega
      rw [this]
      rfl
theorem utfValid_full (rs : List Int) (ha : allR rs) (hb : (enc rs).length ≤ 1000000) (k : Nat) (hk : (enc rs).length < k) : utf_Valid.f k (ints (enc rs)) = some ((enc rs).length : Int) := by
  have := utfValid_eq rs [] ha (.inl rfl) (by simpa using hb) k (by simpa using hk)
  rwa [List.append_nil] at this
theorem enc_len_le (rs : List Int) : (enc rs).length ≤ 4 * rs.length := by
  induction rs with
  | nil => simp
  | cons r rs ih => rw [enc_cons, List.length_append, List.length_cons]; have := (encode_length r).2; omega
theorem round_j1 (s : ByteArray) (hs : s.size ≤ 20000) (k : Nat) (hk : 100000 < k) : parlancelaw04_UtfRound.j1 k s = some true := by
  obtain ⟨k, rfl⟩ : ∃ m, k = m + 1 := ⟨k - 1, by omega⟩
  rw [parlancelaw04_UtfRound.j1]
  rw [runes_at _ (by omega), Option.bind_some]
  have hz := size_data s
  by_cases v : validD s.data.toList = true
  · rw [if_pos v]
    obtain ⟨e, ha⟩ := text_enc _ v
    have hl := runes_len _ v
    rw [if_pos rfl, utfText_eq _ (by dsimp only; omega) _ (by dsimp only; omega), Option.bind_some]
    have ht : textAns [] (runes s.data.toList) = (strOfNums (encZ (runes s.data.toList)), 0) := by unfold textAns; rw [if_pos ha, List.nil_append]
    rw [ht, if_pos rfl]
    have : (strOfNums (encZ (runes s.data.toList))).toList = s.toList := by
      rw [ByteArray.toList_eq, ByteArray.toList_eq, strOf_encZ, ← e]
    rw [this]
    simp
  · rw [if_neg v, if_neg (by decide), if_pos (by rfl), if_pos (by omega), bytesOf_ints]
    obtain ⟨rs, t, e, ha, ht⟩ := split_text s.data.toList
    have hlen : s.size = (enc rs).length + t.length := by rw [hz, e, List.length_append]
    have hne : t ≠ [] := by
      rintro rfl
      rw [List.append_nil] at e
      exact v (by rw [e]; exact valid_enc' rs ha)
    have hp : 0 < t.length := List.length_pos_iff.2 hne
    rw [e, utfValid_eq rs t ha ht (by rw [List.length_append]; omega) k (by rw [List.length_append]; omega), Option.bind_some, decide_eq_true (by omega)]
theorem roundLaw : parlancelaw04_UtfRound.Pure := by
  intro l0 s _ _ _ _
  obtain ⟨m, hm⟩ := big
  refine ⟨m + 3, ?_⟩
  unfold parlancelaw04_UtfRound.f
  rw [alive_eq _ (by omega), Option.bind_some, if_pos rfl]
  by_cases hb : (l0.length : Int) > 5000
  · rw [if_pos hb, parlancelaw04_UtfRound.j0, if_pos rfl]
  rw [if_neg hb]
  by_cases hc : (s.size : Int) > 20000
  · rw [decide_eq_true hc, parlancelaw04_UtfRound.j0, if_pos rfl]
  rw [decide_eq_false hc, parlancelaw04_UtfRound.j0, if_neg (by decide), copyInts_eq _ (by omega), Option.bind_some, utfText_eq _ (by omega) _ (by omega), Option.bind_some]
  have hj := round_j1 s (by omega) (m + 2) (by omega)
  by_cases ha : allR l0
  case neg =>
    have ht : textAns [] l0 = (⟨#[]⟩, 40) := by unfold textAns; rw [if_neg ha]
    rw [ht, if_neg (by decide), if_pos (by rw [ByteArray.toList_eq]), hj]
  have ht : textAns [] l0 = (strOfNums (encZ l0), 0) := by unfold textAns; rw [if_pos ha, List.nil_append]
  rw [ht, if_pos rfl]
  have hd := strOf_encZ l0
  have hsz := size_data (strOfNums (encZ l0))
  rw [hd] at hsz
  have hle := enc_len_le l0
  have hul := units_len l0
  have hr : GRunes.f (strOfNums (encZ l0)) = some (l0, 0) := by
    rw [runes_at _ (by omega), hd, if_pos (valid_enc' l0 ha), runes_enc' l0 ha]
  have hu : utf_Units.f (m + 2) (strOfNums (encZ l0)) = some (units l0, 0) := by
    rw [utfUnits_eq _ (by omega) _ (by omega)]
    unfold unitsAns
    rw [hd, if_pos (valid_enc' l0 ha), runes_enc' l0 ha]
  have hjo : utf_Join.f (m + 2) (units l0) = some (l0, 0) := by
    rw [utfJoin_eq _ (by omega) _ (by omega), join_units l0 ha]
    rfl
  rw [hr, Option.bind_some, hu, Option.bind_some, hjo, Option.bind_some, if_pos rfl, if_pos rfl, if_pos rfl, sameInts_eq _ _ (by dsimp only; omega) _ (by dsimp only; omega), Option.bind_some, if_pos (decide_eq_true rfl), Option.bind_some, if_pos (decide_eq_true rfl)]
  rw [if_pos (by dsimp only; omega), bytesOf_ints, hd, utfValid_full l0 ha (by omega) _ (by omega), Option.bind_some, if_pos (by dsimp only; omega), hj]
end Go.Proofs.YtflfkbnolehpgaaDoor.F
