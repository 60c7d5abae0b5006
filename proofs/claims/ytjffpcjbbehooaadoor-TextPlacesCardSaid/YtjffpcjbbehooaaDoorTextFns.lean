/-
  What the printed functions of package text answer, in plain words.
-/
import Derived.Test.YtjffpcjbbehooaaDoorPTextx4
import Derived.Test.YtjffpcjbbehooaaDoorTextLines
import Derived.Test.YtjffpcjbbehooaaDoorTextTheory
namespace Go.Proofs.YtjffpcjbbehooaaDoor.F
open Go.RowKit Go.Lib Go.Proofs.YtjffpcjbbehooaaDoor.G Go.Proofs.YtjffpcjbbehooaaDoor.PUA Go.Proofs.YtjffpcjbbehooaaDoor.PText Go.Proofs.YtjffpcjbbehooaaDoorW.PrintWords Go.Proofs.YtjffpcjbbehooaaDoorW.PrintLast
theorem rd_nat (x : List Int) (i : Nat) (h : i < x.length) : rd x (i : Int) = x[i] := by
  unfold rd
  simp [List.getD_eq_getElem?_getD, h]
theorem runes_at (s : ByteArray) (h : s.size ≤ 17592186044416) : GRunes.f s = some (if validD s.data.toList then (runes s.data.toList, 0) else ([], 40)) := if_pos h
theorem refRunes_at (s : ByteArray) (h : s.size ≤ 17592186044416) : GRefRunes.f s = some (if validD s.data.toList then (runes s.data.toList, 0) else ([], 40)) := if_pos h
theorem size_data (s : ByteArray) : s.size = s.data.toList.length := Array.length_toList.symm
theorem runes_len (l : List UInt8) (h : validD l = true) : (runes l).length ≤ l.length ∧ (units (runes l)).length ≤ l.length := by
  obtain ⟨e, ha⟩ := text_enc l h
  have := counts (runes l) ha
  rw [← e] at this
  omega
theorem tdiv_pos (x : Int) (h : 0 ≤ x) : Int.tdiv x 1024 = x / 1024 := Int.tdiv_eq_ediv_of_nonneg h
theorem tmod_pos (x : Int) (h : 0 ≤ x) : Int.tmod x 1024 = x % 1024 := Int.tmod_eq_emod_of_nonneg h
theorem two_units (r : Int) (h : okR r) (hr : ¬ r < 65536) : ([wrap64 (55296 + (wrap64 (Int.tdiv (wrap64 (r - 65536)) 1024))), wrap64 (56320 + (Int.tmod (wrap64 (r - 65536)) 1024))] : List Int) = unitsR r := by
  obtain ⟨h0, h1, _⟩ := h
  unfold unitsR
  rw [if_neg hr, w64 (r - 65536) (by omega), tdiv_pos _ (by omega), tmod_pos _ (by omega), w64 ((r - 65536) / 1024) (by omega), w64 _ (by omega), w64 _ (by omega)]
theorem refUnit_eq (r : Int) (h : okR r) : parlanceref04_units.f r = some (unitsR r) := by
  unfold parlanceref04_units.f
  split
  case isTrue c => unfold unitsR; rw [if_pos c]
  case isFalse c => rw [two_units r h c]
theorem refUnits_l0 (rs : List Int) (ha : allR rs) (hb : rs.length ≤ 1000000) : ∀ (d i k : Nat) (acc : List Int), i + d = rs.length → d < k → acc.length + 2 * d ≤ 10000000 → parlanceref04_Units.l0 k rs acc (i : Int) = some (acc ++ units (rs.drop i), 0)
  | 0, i, k, acc, h, hk, hl => by
    obtain ⟨k, rfl⟩ : ∃ m, k = m + 1 := ⟨k - 1, by omega⟩
    simp only [parlanceref04_Units.l0]
    rw [if_neg (by omega), List.drop_of_length_le (by omega)]
    simp [units]
  | d + 1, i, k, acc, h, hk, hl => by
    obtain ⟨k, rfl⟩ : ∃ m, k = m + 1 := ⟨k - 1, by omega⟩
    simp only [parlanceref04_Units.l0]
    have hx : i < rs.length := by omega
    have hr : okR rs[i] := ha _ (List.getElem_mem hx)
    have hu := unitsR_le rs[i]
    rw [if_pos (by omega), if_pos (by omega), rd_nat rs i hx, refUnit_eq _ hr, w64 _ (by omega)]
    simp only [Option.bind_some]
    rw [if_pos (by omega), show ((i : Int) + 1) = ((i + 1 : Nat) : Int) from rfl, refUnits_l0 rs ha hb d (i + 1) k _ (by omega) (by omega) (by rw [List.length_append]; omega), List.drop_eq_getElem_cons hx, units_cons, List.append_assoc]
theorem utfUnits_l0 (rs : List Int) (ha : allR rs) (hb : rs.length ≤ 1000000) : ∀ (d i k : Nat) (acc : List Int), i + d = rs.length → d < k → acc.length + 2 * d ≤ 10000000 → utf_Units.l0 k acc rs (rs.length : Int) (i : Int) = some (acc ++ units (rs.drop i), 0)
  | 0, i, k, acc, h, hk, hl => by
    obtain ⟨k, rfl⟩ : ∃ m, k = m + 1 := ⟨k - 1, by omega⟩
    simp only [utf_Units.l0]
    rw [if_neg (by omega), List.drop_of_length_le (by omega)]
    simp [units]
  | d + 1, i, k, acc, h, hk, hl => by
    obtain ⟨k, rfl⟩ : ∃ m, k = m + 1 := ⟨k - 1, by omega⟩
    simp only [utf_Units.l0]
    have hx : i < rs.length := by omega
    have hr : okR rs[i] := ha _ (List.getElem_mem hx)
    have hu := unitsR_le rs[i]
    rw [if_pos (by omega), if_pos (by omega), if_pos (by omega), rd_nat rs i hx, w64 ((i : Int) + 1) (by omega), show ((i : Int) + 1) = ((i + 1 : Nat) : Int) from rfl]
    by_cases c : rs[i] < 65536
    · rw [if_pos c, if_pos (by omega), utfUnits_l0 rs ha hb d (i + 1) k _ (by omega) (by omega) (by rw [List.length_append, List.length_singleton]; omega), List.drop_eq_getElem_cons hx, units_cons, List.append_assoc]
      unfold unitsR
      rw [if_pos c]
    · rw [if_neg c]
      simp only [Option.bind_some]
      rw [two_units _ hr c, if_pos (by omega), utfUnits_l0 rs ha hb d (i + 1) k _ (by omega) (by omega) (by rw [List.length_append]; omega), List.drop_eq_getElem_cons hx, units_cons, List.append_assoc]
/-- What Units answers. -/
def unitsAns (s : ByteArray) : List Int × Int := if validD s.data.toList then (units (runes s.data.toList), 0) else ([], 40)
theorem utfUnits_eq (s : ByteArray) (h : s.size ≤ 1000000) (k : Nat) (hk : s.size < k) : utf_Units.f k s = some (unitsAns s) := by
  unfold utf_Units.f unitsAns
  rw [runes_at s (by omega)]
  have hs := size_data s
  by_cases v : validD s.data.toList = true
  · obtain ⟨e, ha⟩ := text_enc _ v
    have hl := runes_len _ v
    simp only [v, if_true, Option.bind_some]
    have := utfUnits_l0 (runes s.data.toList) ha (by omega) (runes s.data.toList).length 0 k [] (by omega) (by omega) (by simp; omega)
    simpa using this
  · simp [v]
theorem refUnits_eq (s : ByteArray) (h : s.size ≤ 1000000) (k : Nat) (hk : s.size < k) : parlanceref04_Units.f k s = some (unitsAns s) := by
  unfold parlanceref04_Units.f unitsAns
  rw [refRunes_at s (by omega)]
  have hs := size_data s
  by_cases v : validD s.data.toList = true
  · obtain ⟨e, ha⟩ := text_enc _ v
    have hl := runes_len _ v
    simp only [v, if_true, Option.bind_some]
    have := refUnits_l0 (runes s.data.toList) ha (by omega) (runes s.data.toList).length 0 k [] (by omega) (by omega) (by simp; omega)
    simpa using this
  · simp [v]
theorem ints_append (x y : List UInt8) : ints (x ++ y) = ints x ++ ints y := by simp [ints]
theorem decode_at (bs : List UInt8) (h : bs ≠ []) : GDecodeRune.f (ints bs) = some (((decodeL bs).1 : Int), ((decodeL bs).2 : Int)) := by
  unfold GDecodeRune.f
  rw [if_neg (by simpa [ints] using h), if_pos (fun x hx => ints_bound bs x hx), byteList_ints]
theorem utfValid_l0 (t : List UInt8) (ht : Stuck t) : ∀ (rs : List Int) (pre : List UInt8) (k : Nat), allR rs → rs.length < k → (pre ++ (enc rs ++ t)).length ≤ 1000000 → utf_Valid.l0 k (ints (pre ++ (enc rs ++ t))) (pre.length : Int) = some ((pre.length + (enc rs).length : Nat) : Int)
  | [], pre, k, ha, hk, hb => by
    obtain ⟨k, rfl⟩ : ∃ m, k = m + 1 := ⟨k - 1, by omega⟩
    simp only [utf_Valid.l0, enc_nil, List.nil_append, ints_length, List.length_append, List.length_nil] at hb ⊢
    rcases ht with rfl | ⟨hne, hbad⟩
    · rw [if_neg (by simp)]
      simp
    · have hp : 0 < t.length := List.length_pos_iff.2 hne
      rw [if_pos (by omega), if_pos (by omega), if_pos (by omega), ints_drop, Int.toNat_natCast, List.drop_left, decode_at t hne]
      simp only [Option.bind_some]
      obtain ⟨h1, h2⟩ := hbad
      rw [if_pos (by rw [h1]; rfl), if_pos (by rw [h2]; decide)]
      simp
  | r :: rs, pre, k, ha, hk, hb => by
    obtain ⟨k, rfl⟩ : ∃ m, k = m + 1 := ⟨k - 1, by omega⟩
    have hr := (allR_cons.1 ha).1
    have hl := encode_length r
    rw [enc_cons] at hb ⊢
    have e1 : pre ++ (encodeRune r ++ enc rs ++ t) = (pre ++ encodeRune r) ++ (enc rs ++ t) := by simp
    simp only [utf_Valid.l0, ints_length]
    simp only [List.length_append] at hb ⊢
    rw [if_pos (by omega), if_pos (by omega), if_pos (by omega), ints_drop, Int.toNat_natCast, List.drop_left, List.append_assoc, decode_at _ (by simp [encode_ne r])]
    have hg := encode_not_bad r hr (enc rs ++ t)
    unfold Bad at hg
    rw [decode_encode r hr] at hg ⊢
    simp only [Option.bind_some] at hg ⊢
    have ih := utfValid_l0 t ht rs (pre ++ encodeRune r) k (allR_cons.1 ha).2 (by simp at hk; omega) (by simp only [List.length_append]; omega)
    rw [← e1, List.append_assoc] at ih
    have e2 : wrap64 ((pre.length : Int) + ((encodeRune r).length : Int)) = ((pre ++ encodeRune r).length : Int) := by rw [w64 _ (by omega), List.length_append]; omega
    rw [e2, ih, List.length_append]
    have e3 : pre.length + (encodeRune r).length + (enc rs).length = pre.length + ((encodeRune r).length + (enc rs).length) := by omega
    rw [e3]
    split
    · rw [if_neg (by omega)]
    · rfl
theorem utfValid_eq (rs : List Int) (t : List UInt8) (ha : allR rs) (ht : Stuck t) (hb : (enc rs ++ t).length ≤ 1000000) (k : Nat) (hk : (enc rs ++ t).length < k) : utf_Valid.f k (ints (enc rs ++ t)) = some ((enc rs).length : Int) := by
  have hc := counts rs ha
  rw [List.length_append] at hk
  have := utfValid_l0 t ht rs [] k ha (by omega) hb
  simpa [utf_Valid.f] using this
theorem refValid_l0 (t : List UInt8) (ht : Stuck t) : ∀ (rs : List Int) (pre : List UInt8) (k : Nat), allR rs → rs.length + 20 < k → (pre ++ (enc rs ++ t)).length ≤ 1000000 → parlanceref04_Valid.l0 k (ints (pre ++ (enc rs ++ t))) (pre.length : Int) = some ((pre.length + (enc rs).length : Nat) : Int)
  | [], pre, k, ha, hk, hb => by
    obtain ⟨k, rfl⟩ : ∃ m, k = m + 1 := ⟨k - 1, by omega⟩
    simp only [parlanceref04_Valid.l0, enc_nil, List.nil_append, ints_length, List.length_append, List.length_nil] at hb hk ⊢
    rcases ht with rfl | ⟨hne, hbad⟩
    · rw [if_neg (by simp)]
      simp
    · have hp : 0 < t.length := List.length_pos_iff.2 hne
      rw [if_pos (by omega), if_pos (by omega), if_pos (by omega), ints_drop, Int.toNat_natCast, List.drop_left, first_eq t k (by omega)]
      have hf : firstOf t = (0, 0) := if_pos (.inr hbad)
      rw [hf]
      simp
  | r :: rs, pre, k, ha, hk, hb => by
    obtain ⟨k, rfl⟩ : ∃ m, k = m + 1 := ⟨k - 1, by omega⟩
    have hr := (allR_cons.1 ha).1
    have hl := encode_length r
    rw [enc_cons] at hb ⊢
    have e1 : pre ++ (encodeRune r ++ enc rs ++ t) = (pre ++ encodeRune r) ++ (enc rs ++ t) := by simp
    simp only [List.length_cons] at hk
    simp only [parlanceref04_Valid.l0, ints_length]
    simp only [List.length_append] at hb ⊢
    rw [if_pos (by omega), if_pos (by omega), if_pos (by omega), ints_drop, Int.toNat_natCast, List.drop_left, List.append_assoc, first_eq _ k (by omega)]
    have hg := encode_not_bad r hr (enc rs ++ t)
    have hf : firstOf (encodeRune r ++ (enc rs ++ t)) = (((decodeL (encodeRune r ++ (enc rs ++ t))).1 : Int), ((decodeL (encodeRune r ++ (enc rs ++ t))).2 : Int)) := if_neg (by simp [hg, encode_ne r])
    rw [hf, decode_encode r hr]
    simp only [Option.bind_some]
    have ih := refValid_l0 t ht rs (pre ++ encodeRune r) k (allR_cons.1 ha).2 (by omega) (by simp only [List.length_append]; omega)
    rw [← e1, List.append_assoc] at ih
    have e2 : wrap64 ((pre.length : Int) + ((encodeRune r).length : Int)) = ((pre ++ encodeRune r).length : Int) := by rw [w64 _ (by omega), List.length_append]; omega
    rw [e2, ih, List.length_append, if_neg (by omega)]
    have e3 : pre.length + (encodeRune r).length + (enc rs).length = pre.length + ((encodeRune r).length + (enc rs).length) := by omega
    rw [e3]
theorem refValid_eq (rs : List Int) (t : List UInt8) (ha : allR rs) (ht : Stuck t) (hb : (enc rs ++ t).length ≤ 1000000) (k : Nat) (hk : (enc rs ++ t).length + 20 < k) : parlanceref04_Valid.f k (ints (enc rs ++ t)) = some ((enc rs).length : Int) := by
  have hc := counts rs ha
  rw [List.length_append] at hk
  have := refValid_l0 t ht rs [] k ha (by omega) hb
  simpa [parlanceref04_Valid.f] using this
def offR (ps : List (Nat × Nat)) (x : Int) : Int × Int := match ps.find? (fun p => (p.2 : Int) == x) with
  | some p => (p.1, 0)
  | none => (0, 70)
theorem offR_here (p : Nat × Nat) (ps : List (Nat × Nat)) (x : Int) (h : (p.2 : Int) = x) : offR (p :: ps) x = ((p.1 : Int), 0) := by
  unfold offR; rw [List.find?_cons_of_pos (by simpa using h)]
theorem offR_on (p : Nat × Nat) (ps : List (Nat × Nat)) (x : Int) (h : ¬ (p.2 : Int) = x) : offR (p :: ps) x = offR ps x := by
  unfold offR; rw [List.find?_cons_of_neg (by simpa using h)]
theorem refOffset_l0 (rs : List Int) (ha : allR rs) (hb : rs.length ≤ 1000000) (x : Int) : ∀ (d i k a u : Nat), i + d = rs.length → d + 1 < k → a + 4 * d ≤ 10000000 → u + 2 * d ≤ 10000000 → parlanceref04_Offset.l0 k x rs (u : Int) (a : Int) (i : Int) = some (offR (placesR a u (rs.drop i)) x)
  | 0, i, k, a, u, h, hk, hl, hm => by
    obtain ⟨k, rfl⟩ : ∃ m, k = m + 2 := ⟨k - 2, by omega⟩
    simp only [parlanceref04_Offset.l0]
    rw [if_pos (by omega), List.drop_of_length_le (by omega), w64 ((i : Int) + 1) (by omega), if_neg (by omega : ¬ (i : Int) < (rs.length : Int)), if_neg (by omega : ¬ (i : Int) + 1 ≤ (rs.length : Int))]
    simp only [placesR]
    by_cases c : (u : Int) = x
    · rw [if_pos c, offR_here _ _ _ c]
    · rw [if_neg c, offR_on _ _ _ c]
      rfl
  | d + 1, i, k, a, u, h, hk, hl, hm => by
    obtain ⟨k, rfl⟩ : ∃ m, k = m + 1 := ⟨k - 1, by omega⟩
    have hx : i < rs.length := by omega
    have hr : okR rs[i] := ha _ (List.getElem_mem hx)
    have h1 := (encode_length rs[i]).2
    have h2 := (unitsR_le rs[i]).2
    simp only [parlanceref04_Offset.l0]
    rw [if_pos (by omega), List.drop_eq_getElem_cons hx, rd_nat rs i hx, refUnit_eq _ hr, bytes_eq _ hr, w64 ((i : Int) + 1) (by omega), if_pos (by omega : (i : Int) < (rs.length : Int)), if_pos (by omega : (0 : Int) ≤ (i : Int))]
    simp only [Option.bind_some, placesR]
    by_cases c : (u : Int) = x
    · rw [if_pos c, offR_here _ _ _ c]
    · rw [if_neg c, offR_on _ _ _ c, encodeZ_len, w64 _ (by omega), w64 _ (by omega)]
      exact refOffset_l0 rs ha hb x d (i + 1) k (a + (encodeRune rs[i]).length) (u + (unitsR rs[i]).length) (by omega) (by omega) (by omega) (by omega)
def offsetAns (s : ByteArray) (x : Int) : Int × Int := if validD s.data.toList then offsetOf s.data.toList x else (0, 40)
theorem offset_at (s : ByteArray) (x : Int) (h : s.size ≤ 17592186044416) : GOffset.f s x = some (offsetAns s x) := if_pos h
theorem refOffset_eq (s : ByteArray) (x : Int) (h : s.size ≤ 1000000) (k : Nat) (hk : s.size + 1 < k) : parlanceref04_Offset.f k s x = some (offsetAns s x) := by
  unfold parlanceref04_Offset.f offsetAns
  rw [refRunes_at s (by omega)]
  have hs := size_data s
  by_cases v : validD s.data.toList = true
  · obtain ⟨e, ha⟩ := text_enc _ v
    have hl := runes_len _ v
    simp only [v, if_true, Option.bind_some]
    have := refOffset_l0 (runes s.data.toList) ha (by omega) x (runes s.data.toList).length 0 k 0 0 (by omega) (by omega) (by omega) (by omega)
    rw [List.drop_zero, ← places_of_text _ v] at this
    exact this
  · simp [v]
/-! ### the last line of a front -/
/-- Runes, as what stands up to the last line feed, and what stands behind it. -/
theorem last_line : ∀ (pre : List Int), ∃ p1 last, pre = p1 ++ last ∧ (10 : Int) ∉ last ∧ (p1 = [] ∨ ∃ q, p1 = q ++ [10])
  | [] => ⟨[], [], rfl, by simp, .inl rfl⟩
  | r :: pre => by
    obtain ⟨p1, last, rfl, hn, h⟩ := last_line pre
    rcases h with rfl | ⟨q, rfl⟩
    · by_cases c : r = 10
      · subst c
        exact ⟨[10], last, rfl, hn, .inr ⟨[], rfl⟩⟩
      · exact ⟨[], r :: last, rfl, by simp [hn, Ne.symm c], .inl rfl⟩
    · exact ⟨r :: (q ++ [10]), last, rfl, hn, .inr ⟨r :: q, rfl⟩⟩
theorem stepA_plain : ∀ (last : List Int) (p : Nat × Nat), (10 : Int) ∉ last → stepA p last = (p.1, p.2 + (units last).length)
  | [], p, _ => by simp [stepA, units]
  | r :: last, p, h => by
    have h1 : ¬ r = 10 := fun e => h (by rw [e]; exact List.mem_cons_self ..)
    rw [stepA, if_neg h1, stepA_plain last _ (fun z => h (List.mem_cons_of_mem _ z)), units_cons, List.length_append]
    simp only [Prod.mk.injEq, true_and]
    omega
theorem stepA_count : ∀ (pre : List Int) (p : Nat × Nat), (stepA p pre).1 = p.1 + pre.count 10
  | [], p => by simp [stepA]
  | r :: pre, p => by
    rw [stepA, stepA_count pre, List.count_cons]
    by_cases c : r = 10
    · subst c; simp; omega
    · rw [if_neg c]
      simp only
      have : (r == 10) = false := by simpa using c
      rw [this]
      simp
theorem feeds_enc : ∀ (pre : List Int), allR pre → (enc pre).count 10 = pre.count 10
  | [], _ => rfl
  | r :: pre, h => by
    rw [enc_cons, List.count_append, feeds_enc pre (allR_cons.1 h).2, List.count_cons]
    by_cases c : r = 10
    · subst c
      rw [encode_feed]
      simp
      omega
    · rw [List.count_eq_zero.2 (encode_nofeed r (allR_cons.1 h).1 c)]
      have : (r == 10) = false := by simpa using c
      rw [this]
      simp
theorem enc_nofeed : ∀ (last : List Int), allR last → (10 : Int) ∉ last → (10 : UInt8) ∉ enc last
  | [], _, _ => by simp
  | r :: last, h, hn => by
    rw [enc_cons, List.mem_append]
    rintro (z | z)
    · exact encode_nofeed r (allR_cons.1 h).1 (fun e => hn (by rw [e]; exact List.mem_cons_self ..)) z
    · exact enc_nofeed last (allR_cons.1 h).2 (fun w => hn (List.mem_cons_of_mem _ w)) z
theorem byte_at (f : ByteArray) (j : Nat) (L : List UInt8) (h : f.data.toList = L) (hj : j < L.length) : f.data[j]! = L[j] := by
  subst h
  rw [getElem!_pos f.data j (by rw [← Array.length_toList]; exact hj), Array.getElem_toList]
theorem lastIndex_at (f : ByteArray) (A T : List UInt8) (h : f.data.toList = A ++ T) (hT : (10 : UInt8) ∉ T) (hA : A = [] ∨ ∃ B, A = B ++ [10]) : Lib.lastIndexByte f 10 = (A.length : Int) - 1 := by
  have hz : f.size = (A ++ T).length := by rw [← h, Array.length_toList]; rfl
  rw [List.length_append] at hz
  have inT : ∀ j, A.length ≤ j → j < f.size → ¬ ((f.data[j]!).toNat : Int) = 10 := by
    intro j h1 h2 e
    rw [byte_at f j _ h (by rw [List.length_append]; omega), List.getElem_append_right h1] at e
    apply hT
    have : T[j - A.length]'(by omega) = 10 := by
      apply UInt8.toNat_inj.1
      show _ = 10
      omega
    rw [← this]
    exact List.getElem_mem _
  have atB : ∀ B, A = B ++ [10] → ((f.data[B.length]!).toNat : Int) = 10 := by
    intro B e
    have hl : A.length = B.length + 1 := by rw [e]; simp
    rw [byte_at f B.length _ h (by rw [List.length_append]; omega)]
    simp [e]
  show Lib.lastIdx f 10 f.size = _
  rcases Lib.lastIdx_spec f 10 f.size with ⟨h1, h2⟩ | ⟨i, hi, h1, h2, h3⟩
  · rw [h1]
    rcases hA with rfl | ⟨B, e⟩
    · rfl
    · exact absurd (atB B e) (h2 B.length (by rw [e] at hz; simp at hz; omega))
  · rw [h1]
    rcases hA with rfl | ⟨B, e⟩
    · exact absurd h2 (inT i (by simp) hi)
    · have hl : A.length = B.length + 1 := by rw [e]; simp
      have : i = B.length := by
        rcases Nat.lt_trichotomy i B.length with hlt | heq | hgt
        · exact absurd (atB B e) (h3 B.length hlt (by omega))
        · exact heq
        · exact absurd h2 (inT i (by omega) hi)
      omega
/-! ### text.Place -/
theorem valid_at (s : ByteArray) (h : s.size ≤ 9223372036854775807) : GValidString.f s = some (validD s.data.toList) := if_pos h
theorem front_data (s : ByteArray) (n : Nat) : (s.extract 0 n).data.toList = s.data.toList.take n := by
  rw [G.extract_data, List.drop_zero]
set_option maxHeartbeats 1000000 in
theorem place_front (s : ByteArray) (pre post : List Int) (ha : allR (pre ++ post)) (hs : s.data.toList = enc (pre ++ post)) (hb : s.size ≤ 1000000) (k : Nat) (hk : s.size + 1 < k) :
    text_Place.f k s ((enc pre).length : Int) = some (((stepA (0, 0) pre).1 : Int), ((stepA (0, 0) pre).2 : Int), 0) := by
  obtain ⟨k, rfl⟩ : ∃ m, k = m + 1 := ⟨k - 1, by omega⟩
  have hz := size_data s
  rw [hs, enc_append, List.length_append] at hz
  have hv : validD s.data.toList = true := by rw [hs]; exact valid_enc' _ ha
  have hpa := (allR_append.1 ha).1
  have hf : (s.extract 0 (enc pre).length).data.toList = enc pre := by rw [front_data, hs, enc_append, List.take_left]
  have hfz : (s.extract 0 (enc pre).length).size = (enc pre).length := by rw [size_data, hf]
  unfold text_Place.f
  rw [valid_at s (by omega), Option.bind_some, if_pos hv, if_neg (by omega), if_neg (by omega), if_pos (by omega), if_pos (by omega), Int.toNat_natCast, valid_at _ (by omega), hf, valid_enc' _ hpa, Option.bind_some]
  rw [text_Place.j0, if_neg (by decide), if_pos (by omega), if_pos (by omega), Int.toNat_natCast]
  obtain ⟨p1, last, e, hn, hp⟩ := last_line pre
  have hl := hpa
  rw [e] at hl
  have hA : enc p1 = [] ∨ ∃ B, enc p1 = B ++ [10] := by
    rcases hp with rfl | ⟨q, rfl⟩
    · exact .inl rfl
    · exact .inr ⟨enc q, by rw [enc_append, enc_cons, enc_nil, List.append_nil, encode_feed]⟩
  have hle : (enc pre).length = (enc p1).length + (enc last).length := by rw [e, enc_append, List.length_append]
  have hli : GLastIndex.f (s.extract 0 (enc pre).length) (⟨#[10]⟩ : ByteArray) = some (((enc p1).length : Int) - 1) := by
    have := lastIndex_at (s.extract 0 (enc pre).length) (enc p1) (enc last) (by rw [hf, e, enc_append]) (enc_nofeed last (allR_append.1 hl).2 hn) hA
    rw [← this]
    exact if_pos ⟨rfl, by omega⟩
  have hw : wrap64 (((enc p1).length : Int) - 1 + 1) = ((enc p1).length : Int) := by rw [w64 _ (by omega)]; omega
  rw [hli, Option.bind_some, hw, if_pos (by omega), if_pos (by omega), Int.toNat_natCast]
  have hd : ((s.extract 0 (enc pre).length).extract (enc p1).length (enc pre).length).data.toList = enc last := by
    rw [G.extract_data, hf, List.take_of_length_le (Nat.le_refl _), e, enc_append, List.drop_left]
  have hdz : ((s.extract 0 (enc pre).length).extract (enc p1).length (enc pre).length).size = (enc last).length := by rw [size_data, hd]
  have hu : utf_Units.f k ((s.extract 0 (enc pre).length).extract (enc p1).length (enc pre).length) = some (units last, 0) := by
    rw [utfUnits_eq _ (by omega) _ (by omega)]
    unfold unitsAns
    rw [hd, if_pos (valid_enc' _ (allR_append.1 hl).2), runes_enc' _ (allR_append.1 hl).2]
  have hc : GCount.f (s.extract 0 (enc pre).length) (⟨#[10]⟩ : ByteArray) = some ((pre.count 10 : Nat) : Int) := by
    have e2 : GCount.f (s.extract 0 (enc pre).length) (⟨#[10]⟩ : ByteArray) = some ((Lib.countByte (s.extract 0 (enc pre).length).data.toList 10 : Nat) : Int) := if_pos rfl
    rw [e2, hf, Lib.countByte, feeds_enc pre hpa]
  rw [hu, Option.bind_some, hc, Option.bind_some]
  have h1 := stepA_count pre (0, 0)
  have h2 : (stepA (0, 0) pre).2 = (units last).length := by
    rw [e, stepA_append, stepA_plain last _ hn]
    simp only
    rcases hp with rfl | ⟨q, rfl⟩
    · simp [stepA]
    · rw [stepA_append]
      simp [stepA]
  rw [h1, h2]
  simp
theorem i64_wf {x : Int} (h : (Lit.int .i64 x).wf = true) : -9223372036854775808 ≤ x ∧ x ≤ 9223372036854775807 := by
  simp [Lit.wf, IntKind.min, IntKind.max, IntKind.signed, IntKind.bits] at h
  omega
theorem take_front (rs : List Int) (ha : allR rs) (n : Nat) (hn : n ≤ (enc rs).length) (hv : validD ((enc rs).take n) = true) : ∃ pre post, rs = pre ++ post ∧ n = (enc pre).length := by
  obtain ⟨e, hp⟩ := text_enc _ hv
  have h1 : enc rs = enc (runes ((enc rs).take n)) ++ (enc rs).drop n := by rw [← e, List.take_append_drop]
  have h2 : rs = runes ((enc rs).take n) ++ runes ((enc rs).drop n) := by
    have := congrArg runes h1
    rwa [runes_enc' rs ha, runes_enc _ hp] at this
  refine ⟨_, _, h2, ?_⟩
  rw [← e, List.length_take]
  omega
/-- What text.Place answers. -/
def placeAns (s : ByteArray) (x : Int) : Int × Int × Int :=
  if validD s.data.toList = true then
    (if 0 ≤ x ∧ x ≤ (s.size : Int) ∧ validD (s.data.toList.take x.toNat) = true then
      (((stepA (0, 0) (runes (s.data.toList.take x.toNat))).1 : Int), ((stepA (0, 0) (runes (s.data.toList.take x.toNat))).2 : Int), 0)
     else (0, 0, 70))
  else (0, 0, 40)
theorem placeAns_front (s : ByteArray) (pre post : List Int) (ha : allR (pre ++ post)) (hs : s.data.toList = enc (pre ++ post)) : placeAns s ((enc pre).length : Int) = (((stepA (0, 0) pre).1 : Int), ((stepA (0, 0) pre).2 : Int), 0) := by
  have hz := size_data s
  rw [hs, enc_append, List.length_append] at hz
  have ht : s.data.toList.take (enc pre).length = enc pre := by rw [hs, enc_append, List.take_left]
  unfold placeAns
  rw [if_pos (by rw [hs]; exact valid_enc' _ ha), Int.toNat_natCast, ht, if_pos ⟨by omega, by omega, valid_enc' _ (allR_append.1 ha).1⟩, runes_enc' _ (allR_append.1 ha).1]
theorem place_cases (s : ByteArray) (x : Int) :
    (validD s.data.toList = false ∧ placeAns s x = (0, 0, 40)) ∨
    (validD s.data.toList = true ∧ (x < 0 ∨ (s.size : Int) < x ∨ validD (s.data.toList.take x.toNat) = false) ∧ placeAns s x = (0, 0, 70)) ∨
    (∃ pre post, allR (pre ++ post) ∧ s.data.toList = enc (pre ++ post) ∧ x = ((enc pre).length : Int) ∧ placeAns s x = (((stepA (0, 0) pre).1 : Int), ((stepA (0, 0) pre).2 : Int), 0)) := by
  have hz := size_data s
  by_cases hv : validD s.data.toList = true
  case neg => exact .inl ⟨by simpa using hv, if_neg hv⟩
  right
  by_cases hx : 0 ≤ x ∧ x ≤ (s.size : Int) ∧ validD (s.data.toList.take x.toNat) = true
  · right
    obtain ⟨e, ha⟩ := text_enc _ hv
    obtain ⟨pre, post, h1, h2⟩ := take_front (runes s.data.toList) ha x.toNat (by rw [← e]; omega) (by rw [← e]; exact hx.2.2)
    rw [h1] at ha e
    have hx' : x = ((enc pre).length : Int) := by omega
    exact ⟨pre, post, ha, e, hx', by rw [hx']; exact placeAns_front s pre post ha e⟩
  · left
    refine ⟨hv, ?_, by unfold placeAns; rw [if_pos hv, if_neg hx]⟩
    by_cases h0 : x < 0
    · exact .inl h0
    by_cases h1 : (s.size : Int) < x
    · exact .inr (.inl h1)
    refine .inr (.inr ?_)
    cases h2 : validD (s.data.toList.take x.toNat) with
    | false => rfl
    | true => exact absurd ⟨by omega, by omega, h2⟩ hx
theorem place_eq (s : ByteArray) (x : Int) (hb : s.size ≤ 1000000) (k : Nat) (hk : s.size + 1 < k) : text_Place.f k s x = some (placeAns s x) := by
  have hz := size_data s
  rcases place_cases s x with ⟨hv, e⟩ | ⟨hv, hx, e⟩ | ⟨pre, post, ha, hs, rfl, e⟩
  · rw [e]
    unfold text_Place.f
    rw [valid_at s (by omega), Option.bind_some, hv]
    rfl
  · obtain ⟨k, rfl⟩ : ∃ m, k = m + 1 := ⟨k - 1, by omega⟩
    rw [e]
    unfold text_Place.f
    rw [valid_at s (by omega), Option.bind_some, if_pos hv]
    by_cases h0 : x < 0
    · rw [if_pos h0, text_Place.j0, if_pos rfl]
    rw [if_neg h0]
    by_cases h1 : x > (s.size : Int)
    · rw [if_pos h1, text_Place.j0, if_pos rfl]
    have h2 : validD (s.data.toList.take x.toNat) = false := by
      rcases hx with h | h | h
      · omega
      · omega
      · exact h
    have hfz : (s.extract 0 x.toNat).size ≤ s.size := by rw [size_data, front_data, List.length_take]; omega
    rw [if_neg h1, if_pos (by omega), if_pos (by omega), valid_at _ (by omega), front_data, h2, Option.bind_some, text_Place.j0, if_pos (by rfl)]
  · rw [e]
    exact place_front s pre post ha hs hb k hk
/-- What text.Offset answers. -/
def textOffAns (s : ByteArray) (a b : Int) : Int × Int := if validD s.data.toList = true then lineOff (linesAt 0 (splitB s)) a b else (0, 40)
theorem textOffset_at (s : ByteArray) (a b : Int) (h : s.size ≤ 17592186044416) (ha : (Lit.int .i64 a).wf = true) : GTextOffset.f s a b = some (textOffAns s a b) :=
  if_pos ⟨h, i64_wf ha⟩
/-! ### TextThere -/
theorem there : parlancelaw07_TextThere.Pure := by
  intro s a b c d hs ha hb hc hd
  refine ⟨s.size + 30, ?_⟩
  unfold parlancelaw07_TextThere.f
  rw [alive_eq _ (by omega), Option.bind_some, if_pos rfl]
  by_cases hz : (s.size : Int) > 20000
  · rw [if_pos hz]
  rw [if_neg hz, textOffset_at s a b (by omega) ha, Option.bind_some, textOffAns]
  by_cases hv : validD s.data.toList = true
  case neg => rw [if_neg hv, if_neg (by decide)]; rfl
  obtain ⟨e, hall⟩ := text_enc _ hv
  have hsz := size_data s
  rw [if_pos hv]
  rcases lineOff_cases (runes s.data.toList) hall s e a b with ⟨a', b', n, rfl, rfl, hm, ho⟩ | ⟨_, ho⟩
  case inr => rw [ho, if_neg (by decide)]; rfl
  obtain ⟨pre, post, h1, h2⟩ := (fronts_mem _ 0 0 0 _).1 hm
  simp only [Prod.mk.injEq, Nat.zero_add] at h2
  obtain ⟨h2a, h2b⟩ := h2
  have hp := place_front s pre post (by rw [← h1]; exact hall) (by rw [← h1]; exact e) (by omega) (s.size + 30) (by omega)
  have hle : (enc pre).length ≤ s.size := by rw [hsz, e, h1, enc_append, List.length_append]; omega
  rw [← h2a, ← h2b] at hp
  rw [ho, if_pos rfl]
  dsimp only
  rw [hp, Option.bind_some, if_pos rfl, if_pos rfl, if_pos rfl, if_neg (by omega), if_neg (by omega), textOffset_at s c d (by omega) hc, Option.bind_some, textOffAns, if_pos hv]
  rcases lineOff_cases (runes s.data.toList) hall s e c d with ⟨c', d', m, rfl, rfl, hm2, ho2⟩ | ⟨_, ho2⟩
  case inr => rw [ho2, if_neg (by decide)]
  rw [ho2, if_pos rfl]
  dsimp only
  have hr := fronts_rise _ 0 0 0 _ _ hm hm2
  unfold lexLt at hr
  simp only [Prod.mk.injEq] at hr
  by_cases q1 : (a' : Int) < c'
  · rw [if_pos q1]
    simp only [Option.some.injEq, beq_iff_eq, decide_eq_true_eq]
    omega
  rw [if_neg q1]
  by_cases q2 : (a' : Int) = c'
  · rw [if_pos q2]
    simp only [Option.some.injEq, beq_iff_eq, decide_eq_decide]
    omega
  · rw [if_neg q2]
    simp only [Option.some.injEq, beq_iff_eq, decide_eq_false_iff_not]
    omega
/-! ### TextFront -/
theorem bytesOf_ints (s : ByteArray) : bytesOf s = ints s.data.toList := rfl
theorem append_data (s t : ByteArray) : (s ++ t).data.toList = s.data.toList ++ t.data.toList := by simp
theorem front : parlancelaw07_TextFront.Pure := by
  intro s t x hs ht hx
  refine ⟨s.size + t.size + 40, ?_⟩
  unfold parlancelaw07_TextFront.f
  rw [alive_eq _ (by omega), Option.bind_some, if_pos rfl, w64 _ (by omega)]
  by_cases hz : (s.size : Int) + (t.size : Int) > 20000
  · rw [if_pos hz]
  have hst : (s ++ t).size = s.size + t.size := ByteArray.size_append
  rw [if_neg hz, place_eq s x (by omega) _ (by omega), Option.bind_some, if_pos (by omega), place_eq (s ++ t) x (by omega) _ (by omega), Option.bind_some]
  have hd := append_data s t
  rcases place_cases s x with ⟨hv, e⟩ | ⟨hv, hx, e⟩ | ⟨pre, post, ha, hs2, rfl, e⟩
  · rw [e, if_neg (by decide), if_pos rfl]
    rfl
  · rw [e, if_neg (by decide), if_pos rfl]
    rfl
  rw [e, if_pos rfl]
  by_cases hv : validD (s ++ t).data.toList = true
  · have hvt : validD t.data.toList = true := by rwa [hd, hs2, valid_enc _ ha] at hv
    obtain ⟨et, hat⟩ := text_enc _ hvt
    have hd2 : (s ++ t).data.toList = enc (pre ++ (post ++ runes t.data.toList)) := by rw [hd, hs2, ← List.append_assoc, enc_append _ (runes _), ← et]
    have e2 := placeAns_front (s ++ t) pre (post ++ runes t.data.toList) (by rw [← List.append_assoc]; exact allR_append.2 ⟨ha, hat⟩) hd2
    rw [e2, if_pos rfl, if_pos rfl]
    simp
  · have e2 : placeAns (s ++ t) ((enc pre).length : Int) = (0, 0, 40) := if_neg hv
    rw [e2, if_neg (by decide), if_pos rfl, if_pos (by omega)]
    obtain ⟨rs, tl, hte, hra, hst2⟩ := split_text t.data.toList
    have htz := size_data t
    have hne : tl ≠ [] := by
      intro h
      subst h
      apply hv
      rw [hd, hs2, valid_enc _ ha, hte, List.append_nil]
      exact valid_enc' _ hra
    have hpos : 0 < tl.length := List.length_pos_iff.2 hne
    rw [hte] at htz
    rw [bytesOf_ints, hte, utfValid_eq rs tl hra hst2 (by omega) _ (by omega), Option.bind_some]
    rw [List.length_append] at htz
    simp only [Option.some.injEq, decide_eq_true_eq]
    omega
/-! ### the document's lines -/
theorem seg_all (s : ByteArray) (a : Nat) : ofL (((s.data.toList.take s.size).drop a)) = s.extract a s.size := by
  rw [← ofL_of (s.extract a s.size), G.extract_data]
def headOn (x : List UInt8) : List (List UInt8) → List (List UInt8)
  | [] => [x]
  | h :: t => (x ++ h) :: t
theorem bt_nat' (s : ByteArray) (i : Nat) (h : i < s.data.toList.length) : bt s (i : Int) = ((s.data.toList[i]).toNat : Int) := bt_nat s i h
theorem refSplit_l0 (s : ByteArray) (hb : s.size ≤ 1000000) : ∀ (d i a k : Nat) (acc : List ByteArray), i + d = s.size → a ≤ i → d < k → acc.length ≤ i →
    parlanceref07_Split.l0 k s acc (a : Int) (i : Int) = some (acc ++ (headOn ((s.data.toList.take i).drop a) (splitL (s.data.toList.drop i))).map ofL)
  | 0, i, a, k, acc, h, ha, hk, hl => by
    obtain ⟨k, rfl⟩ : ∃ m, k = m + 1 := ⟨k - 1, by omega⟩
    have hz := size_data s
    obtain rfl : i = s.size := by omega
    rw [parlanceref07_Split.l0, if_neg (by omega), if_pos (by omega), if_pos (by omega), if_pos (by omega), Int.toNat_natCast, show s.data.toList.drop s.size = [] from List.drop_of_length_le (by omega), ← seg_all]
    simp [splitL, headOn]
  | d + 1, i, a, k, acc, h, ha, hk, hl => by
    obtain ⟨k, rfl⟩ : ∃ m, k = m + 1 := ⟨k - 1, by omega⟩
    have hz := size_data s
    have hi : i < s.data.toList.length := by omega
    have hdrop : s.data.toList.drop i = s.data.toList[i] :: s.data.toList.drop (i + 1) := List.drop_eq_getElem_cons hi
    have htake : s.data.toList.take (i + 1) = s.data.toList.take i ++ [s.data.toList[i]] := by rw [List.take_add_one, List.getElem?_eq_getElem hi]; rfl
    have hseg : ofL ((s.data.toList.take i).drop a) = s.extract a i := by rw [← ofL_of (s.extract a i), G.extract_data]
    rw [parlanceref07_Split.l0, if_pos (by omega), if_pos (by omega), bt_nat s i hi, w64 ((i : Int) + 1) (by omega), show ((i : Int) + 1) = ((i + 1 : Nat) : Int) from rfl, hdrop, splitL_cons]
    by_cases c : s.data.toList[i] = 10
    · rw [if_pos (by rw [c]; rfl), if_pos (by omega), if_pos (by omega), if_pos (by omega), if_pos (by omega), Int.toNat_natCast, Int.toNat_natCast, if_pos c,
        refSplit_l0 s hb d (i + 1) (i + 1) k _ (by omega) (Nat.le_refl _) (by omega) (by rw [List.length_append, List.length_singleton]; omega)]
      have e0 : (s.data.toList.take (i + 1)).drop (i + 1) = [] := List.drop_of_length_le (by rw [List.length_take]; omega)
      rw [e0, headOn, List.append_nil, List.map_cons, hseg, List.append_assoc]
      cases hsp : splitL (s.data.toList.drop (i + 1)) with
      | nil => exact absurd hsp (splitL_ne _)
      | cons h t => simp [headOn]
    · rw [if_neg (by
        intro h2
        apply c
        apply UInt8.toNat_inj.1
        show _ = 10
        omega), if_neg c, refSplit_l0 s hb d (i + 1) a k acc (by omega) (by omega) (by omega) (by omega), htake, List.drop_append_of_le_length (by rw [List.length_take]; omega)]
      cases hsp : splitL (s.data.toList.drop (i + 1)) with
      | nil => exact absurd hsp (splitL_ne _)
      | cons h t => simp [headOn]
theorem refSplit_eq (s : ByteArray) (hb : s.size ≤ 1000000) (k : Nat) (hk : s.size < k) : parlanceref07_Split.f k s = some (splitB s) := by
  have := refSplit_l0 s hb s.size 0 0 k [] (by omega) (Nat.le_refl _) hk (by simp)
  unfold parlanceref07_Split.f splitB
  rw [show ((0 : Nat) : Int) = 0 from rfl] at this
  rw [this, List.nil_append]
  obtain ⟨h, t, e⟩ : ∃ h t, splitL s.data.toList = h :: t := by
    cases e : splitL s.data.toList with
    | nil => exact absurd e (splitL_ne _)
    | cons h t => exact ⟨h, t, rfl⟩
  simp [e, headOn]
theorem refValid_at (s : ByteArray) (hb : s.size ≤ 1000000) (k : Nat) (hk : s.size + 20 < k) : ∃ n : Nat, parlanceref04_Valid.f k (bytesOf s) = some (n : Int) ∧ (validD s.data.toList = true → n = s.size) ∧ (validD s.data.toList = false → n < s.size) := by
  obtain ⟨rs, tl, hte, hra, hst⟩ := split_text s.data.toList
  have hz := size_data s
  rw [hte] at hz
  refine ⟨(enc rs).length, ?_, ?_, ?_⟩
  · rw [bytesOf_ints, hte, refValid_eq rs tl hra hst (by omega) _ (by omega)]
  · intro hv
    rw [hte, valid_enc _ hra] at hv
    obtain rfl := (valid_stuck hst).1 hv
    rw [hz, List.append_nil]
  · intro hv
    rw [hte, valid_enc _ hra] at hv
    have hne : tl ≠ [] := by
      intro h
      subst h
      rw [valid_nil] at hv
      cases hv
    have hpos : 0 < tl.length := List.length_pos_iff.2 hne
    rw [hz, List.length_append]
    omega
theorem linesAt_get : ∀ (xs : List ByteArray) (o a : Nat) (h : a < xs.length), (linesAt o xs)[a]? = some (o + span (xs.take a), xs[a])
  | [], o, a, h => absurd h (by simp)
  | x :: xs, o, 0, h => by simp [linesAt, span]
  | x :: xs, o, a + 1, h => by
    have ih := linesAt_get xs (o + (x.size + 1)) a (by simpa using h)
    simp only [linesAt, List.getElem?_cons_succ, List.take_succ_cons, List.getElem_cons_succ]
    rw [ih]
    simp only [span, List.map_cons, List.sum_cons]
    congr 2
    omega
theorem span_take_le (xs : List ByteArray) (i : Nat) : span (xs.take i) ≤ span xs := span_le (List.take_prefix i xs)
theorem span_succ (xs : List ByteArray) (i : Nat) (h : i < xs.length) : span (xs.take (i + 1)) = span (xs.take i) + (xs[i].size + 1) := by
  rw [List.take_add_one, List.getElem?_eq_getElem h, span_append]
  simp [span]
theorem rdOf_nat (xs : List ByteArray) (i : Nat) (h : i < xs.length) : rdOf ByteArray.empty xs (i : Int) = xs[i] := by
  unfold rdOf
  simp [List.getD_eq_getElem?_getD, h]
theorem refOff_l0 (xs : List ByteArray) (a : Nat) (ha : a < xs.length) (n : Nat) (hb : n + span xs ≤ 1000000) (hl : xs.length ≤ 1000000) : ∀ (d i k : Nat), i + d = a → d < k →
    parlanceref07_Offset.l0 k (a : Int) xs ((n + span (xs.take i) : Nat) : Int) (i : Int) = some (((n + span (xs.take a) : Nat) : Int), 0)
  | 0, i, k, h, hk => by
    obtain ⟨k, rfl⟩ : ∃ m, k = m + 1 := ⟨k - 1, by omega⟩
    obtain rfl : i = a := by omega
    rw [parlanceref07_Offset.l0, if_neg (by omega)]
  | d + 1, i, k, h, hk => by
    obtain ⟨k, rfl⟩ : ∃ m, k = m + 1 := ⟨k - 1, by omega⟩
    have hi : i < xs.length := by omega
    have hs := span_succ xs i hi
    have hle := span_take_le xs (i + 1)
    rw [parlanceref07_Offset.l0, if_pos (by omega), if_pos (by omega), if_pos (by omega), rdOf_nat xs i hi, w64 ((xs[i].size : Int) + 1) (by omega), w64 _ (by omega), w64 ((i : Int) + 1) (by omega)]
    have ih := refOff_l0 xs a ha n hb hl d (i + 1) k (by omega) (by omega)
    rw [hs] at ih
    rw [← ih]
    congr 1
    omega
theorem uOff_ans (x : ByteArray) (c : Int) : uOff x c = offsetAns x c := rfl
theorem splitB_size (s : ByteArray) (x : ByteArray) (h : x ∈ splitB s) : x.size ≤ s.size := by
  have h1 := splitB_sum s
  obtain ⟨xs, ys, e⟩ := List.append_of_mem h
  rw [e] at h1
  simp only [List.map_append, List.map_cons, List.sum_append, List.sum_cons] at h1
  omega
theorem splitB_span (s : ByteArray) : span (splitB s) = s.size + 1 := splitB_sum s
theorem splitB_len (s : ByteArray) : (splitB s).length ≤ s.size + 1 := by
  have := splitL_length s.data.toList
  unfold splitB
  rw [List.length_map, size_data]
  exact this
theorem refOff_eq (s : ByteArray) (a b : Int) (hb : s.size ≤ 100000) (k : Nat) (hk : s.size + 40 < k) : parlanceref07_Offset.f k s a b = some (textOffAns s a b) := by
  obtain ⟨n, hn, h1, h2⟩ := refValid_at s (by omega) k (by omega)
  obtain ⟨k, rfl⟩ : ∃ m, k = m + 1 := ⟨k - 1, by omega⟩
  have hlen := splitB_len s
  have hspan := splitB_span s
  unfold parlanceref07_Offset.f textOffAns
  rw [if_pos (by omega), hn, Option.bind_some]
  by_cases hv : validD s.data.toList = true
  case neg =>
    have := h2 (by simpa using hv)
    rw [if_pos (by omega), if_neg hv]
  have hn2 := h1 hv
  rw [if_neg (by omega), if_pos hv, refSplit_eq s (by omega) _ (by omega), Option.bind_some]
  by_cases h0 : a < 0
  · rw [if_pos h0, parlanceref07_Offset.j0, if_pos rfl, lineOff_none _ _ _ (by omega)]
  rw [if_neg h0]
  by_cases h3 : a ≥ ((splitB s).length : Int)
  · rw [parlanceref07_Offset.j0, if_pos (by simpa using h3), lineOff_none _ _ _ (by rw [linesAt_length]; omega)]
  obtain ⟨a', rfl⟩ : ∃ a' : Nat, a = a' := ⟨a.toNat, by omega⟩
  have ha : a' < (splitB s).length := by omega
  have hsz := splitB_size s _ (List.getElem_mem ha)
  rw [parlanceref07_Offset.j0, if_neg (by simp; omega), if_pos (by omega), if_pos (by omega), rdOf_nat _ _ ha, refOffset_eq _ _ (by omega) _ (by omega), Option.bind_some]
  have hlo : lineOff (linesAt 0 (splitB s)) (a' : Int) b = if (uOff (splitB s)[a'] b).2 = 0 then (((span ((splitB s).take a') : Nat) : Int) + (uOff (splitB s)[a'] b).1, 0) else (0, 70) := by
    unfold lineOff
    rw [if_pos (by omega), Int.toNat_natCast, linesAt_get _ _ _ ha, Nat.zero_add]
  rw [hlo, uOff_ans]
  by_cases h4 : (offsetAns (splitB s)[a'] b).2 = 0
  case neg => rw [if_neg h4, if_neg h4]
  rw [if_pos h4, if_pos h4]
  have hr : 0 ≤ (offsetAns (splitB s)[a'] b).1 ∧ (offsetAns (splitB s)[a'] b).1 ≤ (splitB s)[a'].size := by
    unfold offsetAns
    split
    · exact ⟨offset_range _ _, by rw [size_data]; exact offset_le _ _⟩
    · simp
  obtain ⟨q, hq⟩ : ∃ q : Nat, (offsetAns (splitB s)[a'] b).1 = q := ⟨(offsetAns (splitB s)[a'] b).1.toNat, by omega⟩
  rw [hq] at hr ⊢
  have := refOff_l0 (splitB s) a' ha q (by omega) (by omega) a' 0 k (by omega) (by omega)
  rw [List.take_zero, show span [] = 0 from rfl, Nat.add_zero, show ((0 : Nat) : Int) = 0 from rfl] at this
  rw [this]
  simp only [Option.some.injEq, Prod.mk.injEq, and_true]
  omega
theorem stepA_split : ∀ (rs : List Int) (c u : Nat) (h : List Int) (t : List (List Int)), splitR rs = h :: t → stepA (c, u) rs = (c + t.length, match t.getLast? with | none => u + (units h).length | some x => (units x).length)
  | [], c, u, h, t, e => by
    simp [splitR] at e
    obtain ⟨rfl, rfl⟩ := e
    simp [stepA, units]
  | r :: rs, c, u, h, t, e => by
    obtain ⟨hd, tl, e2⟩ := splitR_some rs
    rw [splitR_cons] at e
    by_cases c10 : r = 10
    · rw [if_pos c10, e2] at e
      simp only [List.cons.injEq] at e
      obtain ⟨rfl, rfl⟩ := e
      rw [stepA, if_pos c10, stepA_split rs _ _ hd tl e2]
      cases tl with
      | nil => simp
      | cons y ys =>
        simp only [List.length_cons, List.getLast?_cons_cons, Prod.mk.injEq]
        refine ⟨by omega, ?_⟩
        cases hq : (y :: ys).getLast? with
        | none => simp at hq
        | some z => simp
    · rw [if_neg c10, e2] at e
      simp only [List.cons.injEq] at e
      obtain ⟨rfl, rfl⟩ := e
      rw [stepA, if_neg c10, stepA_split rs _ _ hd tl e2]
      cases hq : tl.getLast? with
      | none => simp only [units_cons, List.length_append, Prod.mk.injEq, true_and]; omega
      | some z => rfl
theorem refPlace_eq (s : ByteArray) (x : Int) (hb : s.size ≤ 100000) (k : Nat) (hk : s.size + 40 < k) : parlanceref07_Place.f k s x = some (placeAns s x) := by
  have hz := size_data s
  obtain ⟨n, hn, h1, h2⟩ := refValid_at s (by omega) k (by omega)
  obtain ⟨k, rfl⟩ : ∃ m, k = m + 1 := ⟨k - 1, by omega⟩
  unfold parlanceref07_Place.f
  rw [if_pos (by omega), hn, Option.bind_some]
  rcases place_cases s x with ⟨hv, e⟩ | ⟨hv, hx, e⟩ | ⟨pre, post, ha, hs, rfl, e⟩
  · have := h2 hv
    rw [e, if_pos (by omega)]
  · have := h1 hv
    rw [e, if_neg (by omega)]
    by_cases h0 : x < 0
    · rw [if_pos h0, parlanceref07_Place.j0, if_pos rfl]
    rw [if_neg h0]
    by_cases h3 : x > (s.size : Int)
    · rw [if_pos h3, parlanceref07_Place.j0, if_pos rfl]
    have h4 : validD (s.data.toList.take x.toNat) = false := by
      rcases hx with h | h | h
      · omega
      · omega
      · exact h
    have hfz : (s.extract 0 x.toNat).size = x.toNat := by rw [size_data, front_data, List.length_take]; omega
    obtain ⟨m, hm, _, h5⟩ := refValid_at (s.extract 0 x.toNat) (by omega) (k + 1) (by omega)
    have h6 := h5 (by rw [front_data]; exact h4)
    rw [if_neg h3, if_pos (by omega), if_pos (by omega), if_pos (by omega), hm, Option.bind_some, parlanceref07_Place.j0, if_pos (by simp; omega)]
  · have hv : validD s.data.toList = true := by rw [hs]; exact valid_enc' _ ha
    have := h1 hv
    have hpa := (allR_append.1 ha).1
    rw [hs, enc_append, List.length_append] at hz
    have hf : (s.extract 0 (enc pre).length).data.toList = enc pre := by rw [front_data, hs, enc_append, List.take_left]
    have hfz : (s.extract 0 (enc pre).length).size = (enc pre).length := by rw [size_data, hf]
    obtain ⟨m, hm, h5, _⟩ := refValid_at (s.extract 0 (enc pre).length) (by omega) (k + 1) (by omega)
    have h6 := h5 (by rw [hf]; exact valid_enc' _ hpa)
    rw [e, if_neg (by omega), if_neg (by omega), if_neg (by omega), if_pos (by omega), if_pos (by omega), Int.toNat_natCast, if_pos (by omega), hm, Option.bind_some, parlanceref07_Place.j0, if_neg (by simp; omega), if_pos (by omega), if_pos (by omega), Int.toNat_natCast,
      refSplit_eq _ (by omega) _ (by omega), Option.bind_some, splitB_enc pre hpa _ hf]
    obtain ⟨h, t, es⟩ := splitR_some pre
    have hst := stepA_split pre 0 0 h t es
    have hll := splitB_len (s.extract 0 (enc pre).length)
    rw [splitB_enc pre hpa _ hf, es, List.length_map, List.length_cons] at hll
    rw [es, List.length_map, List.length_cons, w64 _ (by omega), show (((t.length + 1 : Nat) : Int) - 1) = ((t.length : Nat) : Int) by omega, if_pos (by omega), if_pos (by omega)]
    obtain ⟨L, hL, hLa, hLu⟩ : ∃ L, rdOf ByteArray.empty (List.map (fun R => ofL (enc R)) (h :: t)) ((t.length : Nat) : Int) = ofL (enc L) ∧ L ∈ splitR pre ∧ (stepA (0, 0) pre).2 = (units L).length := by
      rw [hst]
      cases hq : t.getLast? with
      | none =>
        obtain rfl : t = [] := by simpa using hq
        exact ⟨h, by simp [rdOf], by rw [es]; simp, by simp⟩
      | some z =>
        refine ⟨z, ?_, by rw [es]; exact List.mem_cons_of_mem _ (List.mem_of_getLast? hq), rfl⟩
        rw [List.getLast?_eq_getElem?] at hq
        have hp : 0 < t.length := by
          cases t with
          | nil => simp at hq
          | cons a b => simp
        unfold rdOf
        rw [Int.toNat_natCast, List.getD_eq_getElem?_getD, List.getElem?_map]
        obtain ⟨j, hj⟩ : ∃ j, t.length = j + 1 := ⟨t.length - 1, by omega⟩
        rw [hj, List.getElem?_cons_succ]
        rw [hj, Nat.add_sub_cancel] at hq
        rw [hq]
        rfl
    have hLR := splitR_allR pre hpa L hLa
    have hLs : (ofL (enc L)).size ≤ (enc pre).length := by
      have := splitB_size (s.extract 0 (enc pre).length) (ofL (enc L)) (by rw [splitB_enc pre hpa _ hf]; exact List.mem_map.2 ⟨L, hLa, rfl⟩)
      omega
    rw [hL, refUnits_eq _ (by omega) _ (by omega), Option.bind_some, unitsAns, ofL_data, if_pos (valid_enc' _ hLR), runes_enc' _ hLR, hLu, hst]
    simp
theorem feeds_split : ∀ l : List UInt8, (splitL l).length = l.count 10 + 1
  | [] => rfl
  | c :: l => by
    have ih := feeds_split l
    rw [splitL_cons, List.count_cons]
    by_cases h : c = 10
    · subst h
      simp [ih]
    · rw [if_neg h]
      cases e : splitL l with
      | nil => exact absurd e (splitL_ne l)
      | cons x t =>
        rw [e] at ih
        have : (c == 10) = false := by simpa using h
        simp [this] at ih ⊢
        omega
/-! ### TextPlaces -/
theorem places : parlancelaw07_TextPlaces.Pure := by
  intro s a b x hs ha hb hx
  refine ⟨s.size + 60, ?_⟩
  unfold parlancelaw07_TextPlaces.f
  rw [alive_eq _ (by omega), Option.bind_some, if_pos rfl]
  by_cases hz : (s.size : Int) > 20000
  · rw [if_pos hz]
  have hl : ((feeds s : Int) + 1) = ((splitB s).length : Int) := by
    have := feeds_split s.data.toList
    unfold feeds splitB
    rw [List.length_map]
    omega
  rw [if_neg hz, textOffset_at s a b (by omega) ha, Option.bind_some, refOff_eq s a b (by omega) _ (by omega), Option.bind_some, lines_eq s (by omega), Option.bind_some, refSplit_eq s (by omega) _ (by omega), Option.bind_some, if_pos hl, if_pos rfl, parlancelaw07_TextPlaces.j0, if_neg (by simp),
    place_eq s x (by omega) _ (by omega), Option.bind_some, refPlace_eq s x (by omega) _ (by omega), Option.bind_some, if_pos rfl, if_pos rfl]
  simp
end Go.Proofs.YtjffpcjbbehooaaDoor.F
