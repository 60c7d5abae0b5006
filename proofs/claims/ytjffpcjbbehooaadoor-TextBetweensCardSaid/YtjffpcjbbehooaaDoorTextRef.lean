/-
  What the document's printed functions of lines and places answer, in plain words.
-/
import Derived.Test.YtjffpcjbbehooaaDoorPRefx1
import Derived.Test.YtjffpcjbbehooaaDoorTextFns
namespace Go.Proofs.YtjffpcjbbehooaaDoor.F
open Go.RowKit Go.Lib Go.Proofs.YtjffpcjbbehooaaDoor.G Go.Proofs.YtjffpcjbbehooaaDoor.PUA Go.Proofs.YtjffpcjbbehooaaDoor.PFn Go.Proofs.YtjffpcjbbehooaaDoor.PRef Go.Proofs.YtjffpcjbbehooaaDoorW.PrintWords Go.Proofs.YtjffpcjbbehooaaDoorW.PrintLast
theorem refRunes_at (s : ByteArray) (h : s.size ≤ 17592186044416) : GRefRunes.f s = some (if validD s.data.toList then (runes s.data.toList, 0) else ([], 40)) := if_pos h
theorem refUnit_eq (r : Int) (h : okR r) : parlanceref04_units.f r = some (unitsR r) := by
  unfold parlanceref04_units.f
  split
  case isTrue c => unfold unitsR; rw [if_pos c]
  case isFalse c => rw [two_units r h c]
theorem refUnits_l0 (rs : List Int) (ha : allR rs) (hb : rs.length ≤ 1000000) : ∀ (d i k : Nat) (acc : List Int), i + d = rs.length → d < k → acc.length + 2 * d ≤ 10000000 → parlanceref04_Units.l0 k rs acc (i : Int) = some (acc ++ units (rs.drop i), 0)
  | 0, i, k, acc, h, hk, hl => by
    obtain ⟨k, rfl⟩ : ∃ m, k = m + 1 := ⟨k - 1, by omega⟩
    simp only [parlanceref04_Units.l0]
    rw [if_neg (by omega), List.drop_of_length_le (by omega)]
    simp [units]
  | d + 1, i, k, acc, h, hk, hl => by
    obtain ⟨k, rfl⟩ : ∃ m, k = m + 1 := ⟨k - 1, by omega⟩
    simp only [parlanceref04_Units.l0]
    have hx : i < rs.length := by omega
    have hr : okR rs[i] := ha _ (List.getElem_mem hx)
    have hu := unitsR_le rs[i]
    rw [if_pos (by omega), if_pos (by omega), rd_nat rs i hx, refUnit_eq _ hr, w64 _ (by omega)]
    simp only [Option.bind_some]
    rw [if_pos (by omega), show ((i : Int) + 1) = ((i + 1 : Nat) : Int) from rfl, refUnits_l0 rs ha hb d (i + 1) k _ (by omega) (by omega) (by rw [List.length_append]; omega), List.drop_eq_getElem_cons hx, units_cons, List.append_assoc]
theorem refUnits_eq (s : ByteArray) (h : s.size ≤ 1000000) (k : Nat) (hk : s.size < k) : parlanceref04_Units.f k s = some (unitsAns s) := by
  unfold parlanceref04_Units.f unitsAns
  rw [refRunes_at s (by omega)]
  have hs := size_data s
  by_cases v : validD s.data.toList = true
  · obtain ⟨e, ha⟩ := text_enc _ v
    have hl := runes_len _ v
    simp only [v, if_true, Option.bind_some]
    have := refUnits_l0 (runes s.data.toList) ha (by omega) (runes s.data.toList).length 0 k [] (by omega) (by omega) (by simp; omega)
    simpa using this
  · simp [v]
theorem refValid_l0 (t : List UInt8) (ht : Stuck t) : ∀ (rs : List Int) (pre : List UInt8) (k : Nat), allR rs → rs.length + 20 < k → (pre ++ (enc rs ++ t)).length ≤ 1000000 → parlanceref04_Valid.l0 k (ints (pre ++ (enc rs ++ t))) (pre.length : Int) = some ((pre.length + (enc rs).length : Nat) : Int)
  | [], pre, k, ha, hk, hb => by
    obtain ⟨k, rfl⟩ : ∃ m, k = m + 1 := ⟨k - 1, by omega⟩
    simp only [parlanceref04_Valid.l0, enc_nil, List.nil_append, ints_length, List.length_append, List.length_nil] at hb hk ⊢
    rcases ht with rfl | ⟨hne, hbad⟩
    · rw [if_neg (by simp)]
      simp
    · have hp : 0 < t.length := List.length_pos_iff.2 hne
      rw [if_pos (by omega), if_pos (by omega), if_pos (by omega), ints_drop, Int.toNat_natCast, List.drop_left, first_eq t k (by omega)]
      have hf : firstOf t = (0, 0) := if_pos (.inr hbad)
      rw [hf]
      simp
  | r :: rs, pre, k, ha, hk, hb => by
    obtain ⟨k, rfl⟩ : ∃ m, k = m + 1 := ⟨k - 1, by omega⟩
    have hr := (allR_cons.1 ha).1
    have hl := encode_length r
    rw [enc_cons] at hb ⊢
    have e1 : pre ++ (encodeRune r ++ enc rs ++ t) = (pre ++ encodeRune r) ++ (enc rs ++ t) := by simp
    simp only [List.length_cons] at hk
    simp only [parlanceref04_Valid.l0, ints_length]
    simp only [List.length_append] at hb ⊢
    rw [if_pos (by omega), if_pos (by omega), if_pos (by omega), ints_drop, Int.toNat_natCast, List.drop_left, List.append_assoc, first_eq _ k (by omega)]
    have hg := encode_not_bad r hr (enc rs ++ t)
    have hf : firstOf (encodeRune r ++ (enc rs ++ t)) = (((decodeL (encodeRune r ++ (enc rs ++ t))).1 : Int), ((decodeL (encodeRune r ++ (enc rs ++ t))).2 : Int)) := if_neg (by simp [hg, encode_ne r])
    rw [hf, decode_encode r hr]
    simp only [Option.bind_some]
    have ih := refValid_l0 t ht rs (pre ++ encodeRune r) k (allR_cons.1 ha).2 (by omega) (by simp only [List.length_append]; omega)
    rw [← e1, List.append_assoc] at ih
    have e2 : wrap64 ((pre.length : Int) + ((encodeRune r).length : Int)) = ((pre ++ encodeRune r).length : Int) := by rw [w64 _ (by omega), List.length_append]; omega
    rw [e2, ih, List.length_append, if_neg (by omega)]
    have e3 : pre.length + (encodeRune r).length + (enc rs).length = pre.length + ((encodeRune r).length + (enc rs).length) := by omega
    rw [e3]
theorem refValid_eq (rs : List Int) (t : List UInt8) (ha : allR rs) (ht : Stuck t) (hb : (enc rs ++ t).length ≤ 1000000) (k : Nat) (hk : (enc rs ++ t).length + 20 < k) : parlanceref04_Valid.f k (ints (enc rs ++ t)) = some ((enc rs).length : Int) := by
  have hc := counts rs ha
  rw [List.length_append] at hk
  have := refValid_l0 t ht rs [] k ha (by omega) hb
  simpa [parlanceref04_Valid.f] using this
def offR (ps : List (Nat × Nat)) (x : Int) : Int × Int := match ps.find? (fun p => (p.2 : Int) == x) with
  | some p => (p.1, 0)
  | none => (0, 70)
theorem offR_here (p : Nat × Nat) (ps : List (Nat × Nat)) (x : Int) (h : (p.2 : Int) = x) : offR (p :: ps) x = ((p.1 : Int), 0) := by
  unfold offR; rw [List.find?_cons_of_pos (by simpa using h)]
theorem offR_on (p : Nat × Nat) (ps : List (Nat × Nat)) (x : Int) (h : ¬ (p.2 : Int) = x) : offR (p :: ps) x = offR ps x := by
  unfold offR; rw [List.find?_cons_of_neg (by simpa using h)]
theorem refOffset_l0 (rs : List Int) (ha : allR rs) (hb : rs.length ≤ 1000000) (x : Int) : ∀ (d i k a u : Nat), i + d = rs.length → d + 1 < k → a + 4 * d ≤ 10000000 → u + 2 * d ≤ 10000000 → parlanceref04_Offset.l0 k x rs (u : Int) (a : Int) (i : Int) = some (offR (placesR a u (rs.drop i)) x)
  | 0, i, k, a, u, h, hk, hl, hm => by
    obtain ⟨k, rfl⟩ : ∃ m, k = m + 2 := ⟨k - 2, by omega⟩
    simp only [parlanceref04_Offset.l0]
    rw [if_pos (by omega), List.drop_of_length_le (by omega), w64 ((i : Int) + 1) (by omega), if_neg (by omega : ¬ (i : Int) < (rs.length : Int)), if_neg (by omega : ¬ (i : Int) + 1 ≤ (rs.length : Int))]
    simp only [placesR]
    by_cases c : (u : Int) = x
    · rw [if_pos c, offR_here _ _ _ c]
    · rw [if_neg c, offR_on _ _ _ c]
      rfl
  | d + 1, i, k, a, u, h, hk, hl, hm => by
    obtain ⟨k, rfl⟩ : ∃ m, k = m + 1 := ⟨k - 1, by omega⟩
    have hx : i < rs.length := by omega
    have hr : okR rs[i] := ha _ (List.getElem_mem hx)
    have h1 := (encode_length rs[i]).2
    have h2 := (unitsR_le rs[i]).2
    simp only [parlanceref04_Offset.l0]
    rw [if_pos (by omega), List.drop_eq_getElem_cons hx, rd_nat rs i hx, refUnit_eq _ hr, bytes_eq _ hr, w64 ((i : Int) + 1) (by omega), if_pos (by omega : (i : Int) < (rs.length : Int)), if_pos (by omega : (0 : Int) ≤ (i : Int))]
    simp only [Option.bind_some, placesR]
    by_cases c : (u : Int) = x
    · rw [if_pos c, offR_here _ _ _ c]
    · rw [if_neg c, offR_on _ _ _ c, encodeZ_len, w64 _ (by omega), w64 _ (by omega)]
      exact refOffset_l0 rs ha hb x d (i + 1) k (a + (encodeRune rs[i]).length) (u + (unitsR rs[i]).length) (by omega) (by omega) (by omega) (by omega)
def offsetAns (s : ByteArray) (x : Int) : Int × Int := if validD s.data.toList then offsetOf s.data.toList x else (0, 40)
theorem offset_at (s : ByteArray) (x : Int) (h : s.size ≤ 17592186044416) : GOffset.f s x = some (offsetAns s x) := if_pos h
theorem refOffset_eq (s : ByteArray) (x : Int) (h : s.size ≤ 1000000) (k : Nat) (hk : s.size + 1 < k) : parlanceref04_Offset.f k s x = some (offsetAns s x) := by
  unfold parlanceref04_Offset.f offsetAns
  rw [refRunes_at s (by omega)]
  have hs := size_data s
  by_cases v : validD s.data.toList = true
  · obtain ⟨e, ha⟩ := text_enc _ v
    have hl := runes_len _ v
    simp only [v, if_true, Option.bind_some]
    have := refOffset_l0 (runes s.data.toList) ha (by omega) x (runes s.data.toList).length 0 k 0 0 (by omega) (by omega) (by omega) (by omega)
    rw [List.drop_zero, ← places_of_text _ v] at this
    exact this
  · simp [v]
/-! ### the document's lines -/
theorem seg_all (s : ByteArray) (a : Nat) : ofL (((s.data.toList.take s.size).drop a)) = s.extract a s.size := by
  rw [← ofL_of (s.extract a s.size), G.extract_data]
def headOn (x : List UInt8) : List (List UInt8) → List (List UInt8)
  | [] => [x]
  | h :: t => (x ++ h) :: t
theorem bt_nat' (s : ByteArray) (i : Nat) (h : i < s.data.toList.length) : bt s (i : Int) = ((s.data.toList[i]).toNat : Int) := bt_nat s i h
theorem refSplit_l0 (s : ByteArray) (hb : s.size ≤ 1000000) : ∀ (d i a k : Nat) (acc : List ByteArray), i + d = s.size → a ≤ i → d < k → acc.length ≤ i →
    parlanceref07_Split.l0 k s acc (a : Int) (i : Int) = some (acc ++ (headOn ((s.data.toList.take i).drop a) (splitL (s.data.toList.drop i))).map ofL)
  | 0, i, a, k, acc, h, ha, hk, hl => by
    obtain ⟨k, rfl⟩ : ∃ m, k = m + 1 := ⟨k - 1, by omega⟩
    have hz := size_data s
    obtain rfl : i = s.size := by omega
    rw [parlanceref07_Split.l0, if_neg (by omega), if_pos (by omega), if_pos (by omega), if_pos (by omega), Int.toNat_natCast, show s.data.toList.drop s.size = [] from List.drop_of_length_le (by omega), ← seg_all]
    simp [splitL, headOn]
  | d + 1, i, a, k, acc, h, ha, hk, hl => by
    obtain ⟨k, rfl⟩ : ∃ m, k = m + 1 := ⟨k - 1, by omega⟩
    have hz := size_data s
    have hi : i < s.data.toList.length := by omega
    have hdrop : s.data.toList.drop i = s.data.toList[i] :: s.data.toList.drop (i + 1) := List.drop_eq_getElem_cons hi
    have htake : s.data.toList.take (i + 1) = s.data.toList.take i ++ [s.data.toList[i]] := by rw [List.take_add_one, List.getElem?_eq_getElem hi]; rfl
    have hseg : ofL ((s.data.toList.take i).drop a) = s.extract a i := by rw [← ofL_of (s.extract a i), G.extract_data]
    rw [parlanceref07_Split.l0, if_pos (by omega), if_pos (by omega), bt_nat s i hi, w64 ((i : Int) + 1) (by omega), show ((i : Int) + 1) = ((i + 1 : Nat) : Int) from rfl, hdrop, splitL_cons]
    by_cases c : s.data.toList[i] = 10
    · rw [if_pos (by rw [c]; rfl), if_pos (by omega), if_pos (by omega), if_pos (by omega), if_pos (by omega), Int.toNat_natCast, Int.toNat_natCast, if_pos c,
        refSplit_l0 s hb d (i + 1) (i + 1) k _ (by omega) (Nat.le_refl _) (by omega) (by rw [List.length_append, List.length_singleton]; omega)]
      have e0 : (s.data.toList.take (i + 1)).drop (i + 1) = [] := List.drop_of_length_le (by rw [List.length_take]; omega)
      rw [e0, headOn, List.append_nil, List.map_cons, hseg, List.append_assoc]
      cases hsp : splitL (s.data.toList.drop (i + 1)) with
      | nil => exact absurd hsp (splitL_ne _)
      | cons h t => simp [headOn]
    · rw [if_neg (by
        intro h2
        apply c
        apply UInt8.toNat_inj.1
        show _ = 10
        omega), if_neg c, refSplit_l0 s hb d (i + 1) a k acc (by omega) (by omega) (by omega) (by omega), htake, List.drop_append_of_le_length (by rw [List.length_take]; omega)]
      cases hsp : splitL (s.data.toList.drop (i + 1)) with
      | nil => exact absurd hsp (splitL_ne _)
      | cons h t => simp [headOn]
theorem refSplit_eq (s : ByteArray) (hb : s.size ≤ 1000000) (k : Nat) (hk : s.size < k) : parlanceref07_Split.f k s = some (splitB s) := by
  have := refSplit_l0 s hb s.size 0 0 k [] (by omega) (Nat.le_refl _) hk (by simp)
  unfold parlanceref07_Split.f splitB
  rw [show ((0 : Nat) : Int) = 0 from rfl] at this
  rw [this, List.nil_append]
  obtain ⟨h, t, e⟩ : ∃ h t, splitL s.data.toList = h :: t := by
    cases e : splitL s.data.toList with
    | nil => exact absurd e (splitL_ne _)
    | cons h t => exact ⟨h, t, rfl⟩
  simp [e, headOn]
theorem refValid_at (s : ByteArray) (hb : s.size ≤ 1000000) (k : Nat) (hk : s.size + 20 < k) : ∃ n : Nat, parlanceref04_Valid.f k (bytesOf s) = some (n : Int) ∧ (validD s.data.toList = true → n = s.size) ∧ (validD s.data.toList = false → n < s.size) := by
  obtain ⟨rs, tl, hte, hra, hst⟩ := split_text s.data.toList
  have hz := size_data s
  rw [hte] at hz
  refine ⟨(enc rs).length, ?_, ?_, ?_⟩
  · rw [bytesOf_ints, hte, refValid_eq rs tl hra hst (by omega) _ (by omega)]
  · intro hv
    rw [hte, valid_enc _ hra] at hv
    obtain rfl := (valid_stuck hst).1 hv
    rw [hz, List.append_nil]
  · intro hv
    rw [hte, valid_enc _ hra] at hv
    have hne : tl ≠ [] := by
      intro h
      subst h
      rw [valid_nil] at hv
      cases hv
    have hpos : 0 < tl.length := List.length_pos_iff.2 hne
    rw [hz, List.length_append]
    omega
theorem linesAt_get : ∀ (xs : List ByteArray) (o a : Nat) (h : a < xs.length), (linesAt o xs)[a]? = some (o + span (xs.take a), xs[a])
  | [], o, a, h => absurd h (by simp)
  | x :: xs, o, 0, h => by simp [linesAt, span]
  | x :: xs, o, a + 1, h => by
    have ih := linesAt_get xs (o + (x.size + 1)) a (by simpa using h)
    simp only [linesAt, List.getElem?_cons_succ, List.take_succ_cons, List.getElem_cons_succ]
    rw [ih]
    simp only [span, List.map_cons, List.sum_cons]
    congr 2
    omega
theorem span_take_le (xs : List ByteArray) (i : Nat) : span (xs.take i) ≤ span xs := span_le (List.take_prefix i xs)
theorem span_succ (xs : List ByteArray) (i : Nat) (h : i < xs.length) : span (xs.take (i + 1)) = span (xs.take i) + (xs[i].size + 1) := by
  rw [List.take_add_one, List.getElem?_eq_getElem h, span_append]
  simp [span]
theorem rdOf_nat (xs : List ByteArray) (i : Nat) (h : i < xs.length) : rdOf ByteArray.empty xs (i : Int) = xs[i] := by
  unfold rdOf
  simp [List.getD_eq_getElem?_getD, h]
theorem refOff_l0 (xs : List ByteArray) (a : Nat) (ha : a < xs.length) (n : Nat) (hb : n + span xs ≤ 1000000) (hl : xs.length ≤ 1000000) : ∀ (d i k : Nat), i + d = a → d < k →
    parlanceref07_Offset.l0 k (a : Int) xs ((n + span (xs.take i) : Nat) : Int) (i : Int) = some (((n + span (xs.take a) : Nat) : Int), 0)
  | 0, i, k, h, hk => by
    obtain ⟨k, rfl⟩ : ∃ m, k = m + 1 := ⟨k - 1, by omega⟩
    obtain rfl : i = a := by omega
    rw [parlanceref07_Offset.l0, if_neg (by omega)]
  | d + 1, i, k, h, hk => by
    obtain ⟨k, rfl⟩ : ∃ m, k = m + 1 := ⟨k - 1, by omega⟩
    have hi : i < xs.length := by omega
    have hs := span_succ xs i hi
    have hle := span_take_le xs (i + 1)
    rw [parlanceref07_Offset.l0, if_pos (by omega), if_pos (by omega), if_pos (by omega), rdOf_nat xs i hi, w64 ((xs[i].size : Int) + 1) (by omega), w64 _ (by omega), w64 ((i : Int) + 1) (by omega)]
    have ih := refOff_l0 xs a ha n hb hl d (i + 1) k (by omega) (by omega)
    rw [hs] at ih
    rw [← ih]
    congr 1
    omega
theorem uOff_ans (x : ByteArray) (c : Int) : uOff x c = offsetAns x c := rfl
theorem splitB_size (s : ByteArray) (x : ByteArray) (h : x ∈ splitB s) : x.size ≤ s.size := by
  have h1 := splitB_sum s
  obtain ⟨xs, ys, e⟩ := List.append_of_mem h
  rw [e] at h1
  simp only [List.map_append, List.map_cons, List.sum_append, List.sum_cons] at h1
  omega
theorem splitB_span (s : ByteArray) : span (splitB s) = s.size + 1 := splitB_sum s
theorem splitB_len (s : ByteArray) : (splitB s).length ≤ s.size + 1 := by
  have := splitL_length s.data.toList
  unfold splitB
  rw [List.length_map, size_data]
  exact this
theorem refOff_eq (s : ByteArray) (a b : Int) (hb : s.size ≤ 100000) (k : Nat) (hk : s.size + 40 < k) : parlanceref07_Offset.f k s a b = some (textOffAns s a b) := by
  obtain ⟨n, hn, h1, h2⟩ := refValid_at s (by omega) k (by omega)
  obtain ⟨k, rfl⟩ : ∃ m, k = m + 1 := ⟨k - 1, by omega⟩
  have hlen := splitB_len s
  have hspan := splitB_span s
  unfold parlanceref07_Offset.f textOffAns
  rw [if_pos (by omega), hn, Option.bind_some]
  by_cases hv : validD s.data.toList = true
  case neg =>
    have := h2 (by simpa using hv)
    rw [if_pos (by omega), if_neg hv]
  have hn2 := h1 hv
  rw [if_neg (by omega), if_pos hv, refSplit_eq s (by omega) _ (by omega), Option.bind_some]
  by_cases h0 : a < 0
  · rw [if_pos h0, parlanceref07_Offset.j0, if_pos rfl, lineOff_none _ _ _ (by omega)]
  rw [if_neg h0]
  by_cases h3 : a ≥ ((splitB s).length : Int)
  · rw [parlanceref07_Offset.j0, if_pos (by simpa using h3), lineOff_none _ _ _ (by rw [linesAt_length]; omega)]
  obtain ⟨a', rfl⟩ : ∃ a' : Nat, a = a' := ⟨a.toNat, by omega⟩
  have ha : a' < (splitB s).length := by omega
  have hsz := splitB_size s _ (List.getElem_mem ha)
  rw [parlanceref07_Offset.j0, if_neg (by simp; omega), if_pos (by omega), if_pos (by omega), rdOf_nat _ _ ha, refOffset_eq _ _ (by omega) _ (by omega), Option.bind_some]
  have hlo : lineOff (linesAt 0 (splitB s)) (a' : Int) b = if (uOff (splitB s)[a'] b).2 = 0 then (((span ((splitB s).take a') : Nat) : Int) + (uOff (splitB s)[a'] b).1, 0) else (0, 70) := by
    unfold lineOff
    rw [if_pos (by omega), Int.toNat_natCast, linesAt_get _ _ _ ha, Nat.zero_add]
  rw [hlo, uOff_ans]
  by_cases h4 : (offsetAns (splitB s)[a'] b).2 = 0
  case neg => rw [if_neg h4, if_neg h4]
  rw [if_pos h4, if_pos h4]
  have hr : 0 ≤ (offsetAns (splitB s)[a'] b).1 ∧ (offsetAns (splitB s)[a'] b).1 ≤ (splitB s)[a'].size := by
    unfold offsetAns
    split
    · exact ⟨offset_range _ _, by rw [size_data]; exact offset_le _ _⟩
    · simp
  obtain ⟨q, hq⟩ : ∃ q : Nat, (offsetAns (splitB s)[a'] b).1 = q := ⟨(offsetAns (splitB s)[a'] b).1.toNat, by omega⟩
  rw [hq] at hr ⊢
  have := refOff_l0 (splitB s) a' ha q (by omega) (by omega) a' 0 k (by omega) (by omega)
  rw [List.take_zero, show span [] = 0 from rfl, Nat.add_zero, show ((0 : Nat) : Int) = 0 from rfl] at this
  rw [this]
  simp only [Option.some.injEq, Prod.mk.injEq, and_true]
  omega
theorem stepA_split : ∀ (rs : List Int) (c u : Nat) (h : List Int) (t : List (List Int)), splitR rs = h :: t → stepA (c, u) rs = (c + t.length, match t.getLast? with | none => u + (units h).length | some x => (units x).length)
  | [], c, u, h, t, e => by
    simp [splitR] at e
    obtain ⟨rfl, rfl⟩ := e
    simp [stepA, units]
  | r :: rs, c, u, h, t, e => by
    obtain ⟨hd, tl, e2⟩ := splitR_some rs
    rw [splitR_cons] at e
    by_cases c10 : r = 10
    · rw [if_pos c10, e2] at e
      simp only [List.cons.injEq] at e
      obtain ⟨rfl, rfl⟩ := e
      rw [stepA, if_pos c10, stepA_split rs _ _ hd tl e2]
      cases tl with
      | nil => simp
      | cons y ys =>
        simp only [List.length_cons, List.getLast?_cons_cons, Prod.mk.injEq]
        refine ⟨by omega, ?_⟩
        cases hq : (y :: ys).getLast? with
        | none => simp at hq
        | some z => simp
    · rw [if_neg c10, e2] at e
      simp only [List.cons.injEq] at e
      obtain ⟨rfl, rfl⟩ := e
      rw [stepA, if_neg c10, stepA_split rs _ _ hd tl e2]
      cases hq : tl.getLast? with
      | none => simp only [units_cons, List.length_append, Prod.mk.injEq, true_and]; omega
      | some z => rfl
theorem refPlace_eq (s : ByteArray) (x : Int) (hb : s.size ≤ 100000) (k : Nat) (hk : s.size + 40 < k) : parlanceref07_Place.f k s x = some (placeAns s x) := by
  have hz := size_data s
  obtain ⟨n, hn, h1, h2⟩ := refValid_at s (by omega) k (by omega)
  obtain ⟨k, rfl⟩ : ∃ m, k = m + 1 := ⟨k - 1, by omega⟩
  unfold parlanceref07_Place.f
  rw [if_pos (by omega), hn, Option.bind_some]
  rcases place_cases s x with ⟨hv, e⟩ | ⟨hv, hx, e⟩ | ⟨pre, post, ha, hs, rfl, e⟩
  · have := h2 hv
    rw [e, if_pos (by omega)]
  · have := h1 hv
    rw [e, if_neg (by omega)]
    by_cases h0 : x < 0
    · rw [if_pos h0, parlanceref07_Place.j0, if_pos rfl]
    rw [if_neg h0]
    by_cases h3 : x > (s.size : Int)
    · rw [if_pos h3, parlanceref07_Place.j0, if_pos rfl]
    have h4 : validD (s.data.toList.take x.toNat) = false := by
      rcases hx with h | h | h
      · omega
      · omega
      · exact h
    have hfz : (s.extract 0 x.toNat).size = x.toNat := by rw [size_data, front_data, List.length_take]; omega
    obtain ⟨m, hm, _, h5⟩ := refValid_at (s.extract 0 x.toNat) (by omega) (k + 1) (by omega)
    have h6 := h5 (by rw [front_data]; exact h4)
    rw [if_neg h3, if_pos (by omega), if_pos (by omega), if_pos (by omega), hm, Option.bind_some, parlanceref07_Place.j0, if_pos (by simp; omega)]
  · have hv : validD s.data.toList = true := by rw [hs]; exact valid_enc' _ ha
    have := h1 hv
    have hpa := (allR_append.1 ha).1
    rw [hs, enc_append, List.length_append] at hz
    have hf : (s.extract 0 (enc pre).length).data.toList = enc pre := by rw [front_data, hs, enc_append, List.take_left]
    have hfz : (s.extract 0 (enc pre).length).size = (enc pre).length := by rw [size_data, hf]
    obtain ⟨m, hm, h5, _⟩ := refValid_at (s.extract 0 (enc pre).length) (by omega) (k + 1) (by omega)
    have h6 := h5 (by rw [hf]; exact valid_enc' _ hpa)
    rw [e, if_neg (by omega), if_neg (by omega), if_neg (by omega), if_pos (by omega), if_pos (by omega), Int.toNat_natCast, if_pos (by omega), hm, Option.bind_some, parlanceref07_Place.j0, if_neg (by simp; omega), if_pos (by omega), if_pos (by omega), Int.toNat_natCast,
      refSplit_eq _ (by omega) _ (by omega), Option.bind_some, splitB_enc pre hpa _ hf]
    obtain ⟨h, t, es⟩ := splitR_some pre
    have hst := stepA_split pre 0 0 h t es
    have hll := splitB_len (s.extract 0 (enc pre).length)
    rw [splitB_enc pre hpa _ hf, es, List.length_map, List.length_cons] at hll
    rw [es, List.length_map, List.length_cons, w64 _ (by omega), show (((t.length + 1 : Nat) : Int) - 1) = ((t.length : Nat) : Int) by omega, if_pos (by omega), if_pos (by omega)]
    obtain ⟨L, hL, hLa, hLu⟩ : ∃ L, rdOf ByteArray.empty (List.map (fun R => ofL (enc R)) (h :: t)) ((t.length : Nat) : Int) = ofL (enc L) ∧ L ∈ splitR pre ∧ (stepA (0, 0) pre).2 = (units L).length := by
      rw [hst]
      cases hq : t.getLast? with
      | none =>
        obtain rfl : t = [] := by simpa using hq
        exact ⟨h, by simp [rdOf], by rw [es]; simp, by simp⟩
      | some z =>
        refine ⟨z, ?_, by rw [es]; exact List.mem_cons_of_mem _ (List.mem_of_getLast? hq), rfl⟩
        rw [List.getLast?_eq_getElem?] at hq
        have hp : 0 < t.length := by
          cases t with
          | nil => simp at hq
          | cons a b => simp
        unfold rdOf
        rw [Int.toNat_natCast, List.getD_eq_getElem?_getD, List.getElem?_map]
        obtain ⟨j, hj⟩ : ∃ j, t.length = j + 1 := ⟨t.length - 1, by omega⟩
        rw [hj, List.getElem?_cons_succ]
        rw [hj, Nat.add_sub_cancel] at hq
        rw [hq]
        rfl
    have hLR := splitR_allR pre hpa L hLa
    have hLs : (ofL (enc L)).size ≤ (enc pre).length := by
      have := splitB_size (s.extract 0 (enc pre).length) (ofL (enc L)) (by rw [splitB_enc pre hpa _ hf]; exact List.mem_map.2 ⟨L, hLa, rfl⟩)
      omega
    rw [hL, refUnits_eq _ (by omega) _ (by omega), Option.bind_some, unitsAns, ofL_data, if_pos (valid_enc' _ hLR), runes_enc' _ hLR, hLu, hst]
    simp
theorem feeds_split : ∀ l : List UInt8, (splitL l).length = l.count 10 + 1
  | [] => rfl
  | c :: l => by
    have ih := feeds_split l
    rw [splitL_cons, List.count_cons]
    by_cases h : c = 10
    · subst h
      simp [ih]
    · rw [if_neg h]
      cases e : splitL l with
      | nil => exact absurd e (splitL_ne l)
      | cons x t =>
        rw [e] at ih
        have : (c == 10) = false := by simpa using h
        simp [this] at ih ⊢
        omega
end Go.Proofs.YtjffpcjbbehooaaDoor.F
