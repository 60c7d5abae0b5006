/-
  What the printed functions of package text answer, in plain words.
-/
import Derived.Test.YtjffpcjbbehooaaDoorPFnx1
import Derived.Test.YtjffpcjbbehooaaDoorTextTheory
namespace Go.Proofs.YtjffpcjbbehooaaDoor.F
open Go.RowKit Go.Lib Go.Proofs.YtjffpcjbbehooaaDoor.G Go.Proofs.YtjffpcjbbehooaaDoor.PFn Go.Proofs.YtjffpcjbbehooaaDoorW.PrintWords Go.Proofs.YtjffpcjbbehooaaDoorW.PrintLast
theorem mono_le {α : Type} (f : Nat → Option α) (hm : ∀ k, LeO (f k) (f (k + 1))) (n : Nat) : ∀ (d : Nat) (r : α), f n = some r → f (n + d) = some r
  | 0, _, h => h
  | d + 1, r, h => hm (n + d) r (mono_le f hm n d r h)
set_option maxRecDepth 100000 in
theorem alive_eq (k : Nat) (hk : 20 ≤ k) : parlancelaw07_alive.f k = some true := by
  have h : parlancelaw07_alive.f 20 = some true := by decide +kernel
  have := mono_le _ parlancelaw07_alive.mono 20 (k - 20) true h
  rwa [show 20 + (k - 20) = k by omega] at this
def feeds (s : ByteArray) : Nat := s.data.toList.count 10
theorem feeds_le (s : ByteArray) : feeds s ≤ s.size := by
  have h : s.data.toList.length = s.size := Array.length_toList
  have := List.count_le_length (a := (10 : UInt8)) (l := s.data.toList)
  unfold feeds
  omega
theorem lines_eq (s : ByteArray) (h : s.size ≤ 9223372036854775806) : text_Lines.f s = some ((feeds s : Int) + 1) := by
  have hle := feeds_le s
  unfold text_Lines.f
  have e : GCount.f s (⟨#[10]⟩ : ByteArray) = some ((feeds s : Nat) : Int) := if_pos rfl
  rw [e, Option.bind_some, w64 _ (by omega)]
theorem feeds_append (s t : ByteArray) : feeds (s ++ t) = feeds s + feeds t := by
  unfold feeds
  rw [show (s ++ t).data.toList = s.data.toList ++ t.data.toList by simp, List.count_append]
theorem bt_nat (s : ByteArray) (i : Nat) (h : i < s.data.toList.length) : bt s (i : Int) = ((s.data.toList[i]).toNat : Int) := by
  have hz : i < s.size := by
    have : s.data.toList.length = s.size := Array.length_toList
    omega
  unfold bt
  simp only [Int.toNat_natCast]
  rw [dif_pos hz, Array.getElem_toList]
  rfl
theorem rd_nat (x : List Int) (i : Nat) (h : i < x.length) : rd x (i : Int) = x[i] := by
  unfold rd
  simp [List.getD_eq_getElem?_getD, h]
theorem runes_at (s : ByteArray) (h : s.size ≤ 17592186044416) : GRunes.f s = some (if validD s.data.toList then (runes s.data.toList, 0) else ([], 40)) := if_pos h
theorem size_data (s : ByteArray) : s.size = s.data.toList.length := Array.length_toList.symm
theorem runes_len (l : List UInt8) (h : validD l = true) : (runes l).length ≤ l.length ∧ (units (runes l)).length ≤ l.length := by
  obtain ⟨e, ha⟩ := text_enc l h
  have := counts (runes l) ha
  rw [← e] at this
  omega
theorem tdiv_pos (x : Int) (h : 0 ≤ x) : Int.tdiv x 1024 = x / 1024 := Int.tdiv_eq_ediv_of_nonneg h
theorem tmod_pos (x : Int) (h : 0 ≤ x) : Int.tmod x 1024 = x % 1024 := Int.tmod_eq_emod_of_nonneg h
theorem two_units (r : Int) (h : okR r) (hr : ¬ r < 65536) : ([wrap64 (55296 + (wrap64 (Int.tdiv (wrap64 (r - 65536)) 1024))), wrap64 (56320 + (Int.tmod (wrap64 (r - 65536)) 1024))] : List Int) = unitsR r := by
  obtain ⟨h0, h1, _⟩ := h
  unfold unitsR
  rw [if_neg hr, w64 (r - 65536) (by omega), tdiv_pos _ (by omega), tmod_pos _ (by omega), w64 ((r - 65536) / 1024) (by omega), w64 _ (by omega), w64 _ (by omega)]
theorem utfUnits_l0 (rs : List Int) (ha : allR rs) (hb : rs.length ≤ 1000000) : ∀ (d i k : Nat) (acc : List Int), i + d = rs.length → d < k → acc.length + 2 * d ≤ 10000000 → utf_Units.l0 k acc rs (rs.length : Int) (i : Int) = some (acc ++ units (rs.drop i), 0)
  | 0, i, k, acc, h, hk, hl => by
    obtain ⟨k, rfl⟩ : ∃ m, k = m + 1 := ⟨k - 1, by omega⟩
    simp only [utf_Units.l0]
    rw [if_neg (by omega), List.drop_of_length_le (by omega)]
    simp [units]
  | d + 1, i, k, acc, h, hk, hl => by
    obtain ⟨k, rfl⟩ : ∃ m, k = m + 1 := ⟨k - 1, by omega⟩
    simp only [utf_Units.l0]
    have hx : i < rs.length := by omega
    have hr : okR rs[i] := ha _ (List.getElem_mem hx)
    have hu := unitsR_le rs[i]
    rw [if_pos (by omega), if_pos (by omega), if_pos (by omega), rd_nat rs i hx, w64 ((i : Int) + 1) (by omega), show ((i : Int) + 1) = ((i + 1 : Nat) : Int) from rfl]
    by_cases c : rs[i] < 65536
    · rw [if_pos c, if_pos (by omega), utfUnits_l0 rs ha hb d (i + 1) k _ (by omega) (by omega) (by rw [List.length_append, List.length_singleton]; omega), List.drop_eq_getElem_cons hx, units_cons, List.append_assoc]
      unfold unitsR
      rw [if_pos c]
    · rw [if_neg c]
      simp only [Option.bind_some]
      rw [two_units _ hr c, if_pos (by omega), utfUnits_l0 rs ha hb d (i + 1) k _ (by omega) (by omega) (by rw [List.length_append]; omega), List.drop_eq_getElem_cons hx, units_cons, List.append_assoc]
/-- What Units answers. -/
def unitsAns (s : ByteArray) : List Int × Int := if validD s.data.toList then (units (runes s.data.toList), 0) else ([], 40)
theorem utfUnits_eq (s : ByteArray) (h : s.size ≤ 1000000) (k : Nat) (hk : s.size < k) : utf_Units.f k s = some (unitsAns s) := by
  unfold utf_Units.f unitsAns
  rw [runes_at s (by omega)]
  have hs := size_data s
  by_cases v : validD s.data.toList = true
  · obtain ⟨e, ha⟩ := text_enc _ v
    have hl := runes_len _ v
    simp only [v, if_true, Option.bind_some]
    have := utfUnits_l0 (runes s.data.toList) ha (by omega) (runes s.data.toList).length 0 k [] (by omega) (by omega) (by simp; omega)
    simpa using this
  · simp [v]
theorem ints_append (x y : List UInt8) : ints (x ++ y) = ints x ++ ints y := by simp [ints]
theorem decode_at (bs : List UInt8) (h : bs ≠ []) : GDecodeRune.f (ints bs) = some (((decodeL bs).1 : Int), ((decodeL bs).2 : Int)) := by
  unfold GDecodeRune.f
  rw [if_neg (by simpa [ints] using h), if_pos (fun x hx => ints_bound bs x hx), byteList_ints]
theorem utfValid_l0 (t : List UInt8) (ht : Stuck t) : ∀ (rs : List Int) (pre : List UInt8) (k : Nat), allR rs → rs.length < k → (pre ++ (enc rs ++ t)).length ≤ 1000000 → utf_Valid.l0 k (ints (pre ++ (enc rs ++ t))) (pre.length : Int) = some ((pre.length + (enc rs).length : Nat) : Int)
  | [], pre, k, ha, hk, hb => by
    obtain ⟨k, rfl⟩ : ∃ m, k = m + 1 := ⟨k - 1, by omega⟩
    simp only [utf_Valid.l0, enc_nil, List.nil_append, ints_length, List.length_append, List.length_nil] at hb ⊢
    rcases ht with rfl | ⟨hne, hbad⟩
    · rw [if_neg (by simp)]
      simp
    · have hp : 0 < t.length := List.length_pos_iff.2 hne
      rw [if_pos (by omega), if_pos (by omega), if_pos (by omega), ints_drop, Int.toNat_natCast, List.drop_left, decode_at t hne]
      simp only [Option.bind_some]
      obtain ⟨h1, h2⟩ := hbad
      rw [if_pos (by rw [h1]; rfl), if_pos (by rw [h2]; decide)]
      simp
  | r :: rs, pre, k, ha, hk, hb => by
    obtain ⟨k, rfl⟩ : ∃ m, k = m + 1 := ⟨k - 1, by omega⟩
    have hr := (allR_cons.1 ha).1
    have hl := encode_length r
    rw [enc_cons] at hb ⊢
    have e1 : pre ++ (encodeRune r ++ enc rs ++ t) = (pre ++ encodeRune r) ++ (enc rs ++ t) := by simp
    simp only [utf_Valid.l0, ints_length]
    simp only [List.length_append] at hb ⊢
    rw [if_pos (by omega), if_pos (by omega), if_pos (by omega), ints_drop, Int.toNat_natCast, List.drop_left, List.append_assoc, decode_at _ (by simp [encode_ne r])]
    have hg := encode_not_bad r hr (enc rs ++ t)
    unfold Bad at hg
    rw [decode_encode r hr] at hg ⊢
    simp only [Option.bind_some] at hg ⊢
    have ih := utfValid_l0 t ht rs (pre ++ encodeRune r) k (allR_cons.1 ha).2 (by simp at hk; omega) (by simp only [List.length_append]; omega)
    rw [← e1, List.append_assoc] at ih
    have e2 : wrap64 ((pre.length : Int) + ((encodeRune r).length : Int)) = ((pre ++ encodeRune r).length : Int) := by rw [w64 _ (by omega), List.length_append]; omega
    rw [e2, ih, List.length_append]
    have e3 : pre.length + (encodeRune r).length + (enc rs).length = pre.length + ((encodeRune r).length + (enc rs).length) := by omega
    rw [e3]
    split
    · rw [if_neg (by omega)]
    · rfl
theorem utfValid_eq (rs : List Int) (t : List UInt8) (ha : allR rs) (ht : Stuck t) (hb : (enc rs ++ t).length ≤ 1000000) (k : Nat) (hk : (enc rs ++ t).length < k) : utf_Valid.f k (ints (enc rs ++ t)) = some ((enc rs).length : Int) := by
  have hc := counts rs ha
  rw [List.length_append] at hk
  have := utfValid_l0 t ht rs [] k ha (by omega) hb
  simpa [utf_Valid.f] using this
/-! ### the last line of a front -/
/-- Runes, as what stands up to the last line feed, and what stands behind it. -/
theorem last_line : ∀ (pre : List Int), ∃ p1 last, pre = p1 ++ last ∧ (10 : Int) ∉ last ∧ (p1 = [] ∨ ∃ q, p1 = q ++ [10])
  | [] => ⟨[], [], rfl, by simp, .inl rfl⟩
  | r :: pre => by
    obtain ⟨p1, last, rfl, hn, h⟩ := last_line pre
    rcases h with rfl | ⟨q, rfl⟩
    · by_cases c : r = 10
      · subst c
        exact ⟨[10], last, rfl, hn, .inr ⟨[], rfl⟩⟩
      · exact ⟨[], r :: last, rfl, by simp [hn, Ne.symm c], .inl rfl⟩
    · exact ⟨r :: (q ++ [10]), last, rfl, hn, .inr ⟨r :: q, rfl⟩⟩
theorem stepA_plain : ∀ (last : List Int) (p : Nat × Nat), (10 : Int) ∉ last → stepA p last = (p.1, p.2 + (units last).length)
  | [], p, _ => by simp [stepA, units]
  | r :: last, p, h => by
    have h1 : ¬ r = 10 := fun e => h (by rw [e]; exact List.mem_cons_self ..)
    rw [stepA, if_neg h1, stepA_plain last _ (fun z => h (List.mem_cons_of_mem _ z)), units_cons, List.length_append]
    simp only [Prod.mk.injEq, true_and]
    omega
theorem stepA_count : ∀ (pre : List Int) (p : Nat × Nat), (stepA p pre).1 = p.1 + pre.count 10
  | [], p => by simp [stepA]
  | r :: pre, p => by
    rw [stepA, stepA_count pre, List.count_cons]
    by_cases c : r = 10
    · subst c; simp; omega
    · rw [if_neg c]
      simp only
      have : (r == 10) = false := by simpa using c
      rw [this]
      simp
theorem feeds_enc : ∀ (pre : List Int), allR pre → (enc pre).count 10 = pre.count 10
  | [], _ => rfl
  | r :: pre, h => by
    rw [enc_cons, List.count_append, feeds_enc pre (allR_cons.1 h).2, List.count_cons]
    by_cases c : r = 10
    · subst c
      rw [encode_feed]
      simp
      omega
    · rw [List.count_eq_zero.2 (encode_nofeed r (allR_cons.1 h).1 c)]
      have : (r == 10) = false := by simpa using c
      rw [this]
      simp
theorem enc_nofeed : ∀ (last : List Int), allR last → (10 : Int) ∉ last → (10 : UInt8) ∉ enc last
  | [], _, _ => by simp
  | r :: last, h, hn => by
    rw [enc_cons, List.mem_append]
    rintro (z | z)
    · exact encode_nofeed r (allR_cons.1 h).1 (fun e => hn (by rw [e]; exact List.mem_cons_self ..)) z
    · exact enc_nofeed last (allR_cons.1 h).2 (fun w => hn (List.mem_cons_of_mem _ w)) z
theorem byte_at (f : ByteArray) (j : Nat) (L : List UInt8) (h : f.data.toList = L) (hj : j < L.length) : f.data[j]! = L[j] := by
  subst h
  rw [getElem!_pos f.data j (by rw [← Array.length_toList]; exact hj), Array.getElem_toList]
theorem lastIndex_at (f : ByteArray) (A T : List UInt8) (h : f.data.toList = A ++ T) (hT : (10 : UInt8) ∉ T) (hA : A = [] ∨ ∃ B, A = B ++ [10]) : Lib.lastIndexByte f 10 = (A.length : Int) - 1 := by
  have hz : f.size = (A ++ T).length := by rw [← h, Array.length_toList]; rfl
  rw [List.length_append] at hz
  have inT : ∀ j, A.length ≤ j → j < f.size → ¬ ((f.data[j]!).toNat : Int) = 10 := by
    intro j h1 h2 e
    rw [byte_at f j _ h (by rw [List.length_append]; omega), List.getElem_append_right h1] at e
    apply hT
    have : T[j - A.length]'(by omega) = 10 := by
      apply UInt8.toNat_inj.1
      show _ = 10
      omega
    rw [← this]
    exact List.getElem_mem _
  have atB : ∀ B, A = B ++ [10] → ((f.data[B.length]!).toNat : Int) = 10 := by
    intro B e
    have hl : A.length = B.length + 1 := by rw [e]; simp
    rw [byte_at f B.length _ h (by rw [List.length_append]; omega)]
    simp [e]
  show Lib.lastIdx f 10 f.size = _
  rcases Lib.lastIdx_spec f 10 f.size with ⟨h1, h2⟩ | ⟨i, hi, h1, h2, h3⟩
  · rw [h1]
    rcases hA with rfl | ⟨B, e⟩
    · rfl
    · exact absurd (atB B e) (h2 B.length (by rw [e] at hz; simp at hz; omega))
  · rw [h1]
    rcases hA with rfl | ⟨B, e⟩
    · exact absurd h2 (inT i (by simp) hi)
    · have hl : A.length = B.length + 1 := by rw [e]; simp
      have : i = B.length := by
        rcases Nat.lt_trichotomy i B.length with hlt | heq | hgt
        · exact absurd (atB B e) (h3 B.length hlt (by omega))
        · exact heq
        · exact absurd h2 (inT i (by omega) hi)
      omega
/-! ### text.Place -/
theorem valid_at (s : ByteArray) (h : s.size ≤ 9223372036854775807) : GValidString.f s = some (validD s.data.toList) := if_pos h
theorem front_data (s : ByteArray) (n : Nat) : (s.extract 0 n).data.toList = s.data.toList.take n := by
  rw [G.extract_data, List.drop_zero]
set_option maxHeartbeats 1000000 in
theorem place_front (s : ByteArray) (pre post : List Int) (ha : allR (pre ++ post)) (hs : s.data.toList = enc (pre ++ post)) (hb : s.size ≤ 1000000) (k : Nat) (hk : s.size + 1 < k) :
    text_Place.f k s ((enc pre).length : Int) = some (((stepA (0, 0) pre).1 : Int), ((stepA (0, 0) pre).2 : Int), 0) := by
  obtain ⟨k, rfl⟩ : ∃ m, k = m + 1 := ⟨k - 1, by omega⟩
  have hz := size_data s
  rw [hs, enc_append, List.length_append] at hz
  have hv : validD s.data.toList = true := by rw [hs]; exact valid_enc' _ ha
  have hpa := (allR_append.1 ha).1
  have hf : (s.extract 0 (enc pre).length).data.toList = enc pre := by rw [front_data, hs, enc_append, List.take_left]
  have hfz : (s.extract 0 (enc pre).length).size = (enc pre).length := by rw [size_data, hf]
  unfold text_Place.f
  rw [valid_at s (by omega), Option.bind_some, if_pos hv, if_neg (by omega), if_neg (by omega), if_pos (by omega), if_pos (by omega), Int.toNat_natCast, valid_at _ (by omega), hf, valid_enc' _ hpa, Option.bind_some]
  rw [text_Place.j0, if_neg (by decide), if_pos (by omega), if_pos (by omega), Int.toNat_natCast]
  obtain ⟨p1, last, e, hn, hp⟩ := last_line pre
  have hl := hpa
  rw [e] at hl
  have hA : enc p1 = [] ∨ ∃ B, enc p1 = B ++ [10] := by
    rcases hp with rfl | ⟨q, rfl⟩
    · exact .inl rfl
    · exact .inr ⟨enc q, by rw [enc_append, enc_cons, enc_nil, List.append_nil, encode_feed]⟩
  have hle : (enc pre).length = (enc p1).length + (enc last).length := by rw [e, enc_append, List.length_append]
  have hli : GLastIndex.f (s.extract 0 (enc pre).length) (⟨#[10]⟩ : ByteArray) = some (((enc p1).length : Int) - 1) := by
    have := lastIndex_at (s.extract 0 (enc pre).length) (enc p1) (enc last) (by rw [hf, e, enc_append]) (enc_nofeed last (allR_append.1 hl).2 hn) hA
    rw [← this]
    exact if_pos ⟨rfl, by omega⟩
  have hw : wrap64 (((enc p1).length : Int) - 1 + 1) = ((enc p1).length : Int) := by rw [w64 _ (by omega)]; omega
  rw [hli, Option.bind_some, hw, if_pos (by omega), if_pos (by omega), Int.toNat_natCast]
  have hd : ((s.extract 0 (enc pre).length).extract (enc p1).length (enc pre).length).data.toList = enc last := by
    rw [G.extract_data, hf, List.take_of_length_le (Nat.le_refl _), e, enc_append, List.drop_left]
  have hdz : ((s.extract 0 (enc pre).length).extract (enc p1).length (enc pre).length).size = (enc last).length := by rw [size_data, hd]
  have hu : utf_Units.f k ((s.extract 0 (enc pre).length).extract (enc p1).length (enc pre).length) = some (units last, 0) := by
    rw [utfUnits_eq _ (by omega) _ (by omega)]
    unfold unitsAns
    rw [hd, if_pos (valid_enc' _ (allR_append.1 hl).2), runes_enc' _ (allR_append.1 hl).2]
  have hc : GCount.f (s.extract 0 (enc pre).length) (⟨#[10]⟩ : ByteArray) = some ((pre.count 10 : Nat) : Int) := by
    have e2 : GCount.f (s.extract 0 (enc pre).length) (⟨#[10]⟩ : ByteArray) = some ((Lib.countByte (s.extract 0 (enc pre).length).data.toList 10 : Nat) : Int) := if_pos rfl
    rw [e2, hf, Lib.countByte, feeds_enc pre hpa]
  rw [hu, Option.bind_some, hc, Option.bind_some]
  have h1 := stepA_count pre (0, 0)
  have h2 : (stepA (0, 0) pre).2 = (units last).length := by
    rw [e, stepA_append, stepA_plain last _ hn]
    simp only
    rcases hp with rfl | ⟨q, rfl⟩
    · simp [stepA]
    · rw [stepA_append]
      simp [stepA]
  rw [h1, h2]
  simp
theorem i64_wf {x : Int} (h : (Lit.int .i64 x).wf = true) : -9223372036854775808 ≤ x ∧ x ≤ 9223372036854775807 := by
  simp [Lit.wf, IntKind.min, IntKind.max, IntKind.signed, IntKind.bits] at h
  omega
theorem take_front (rs : List Int) (ha : allR rs) (n : Nat) (hn : n ≤ (enc rs).length) (hv : validD ((enc rs).take n) = true) : ∃ pre post, rs = pre ++ post ∧ n = (enc pre).length := by
  obtain ⟨e, hp⟩ := text_enc _ hv
  have h1 : enc rs = enc (runes ((enc rs).take n)) ++ (enc rs).drop n := by rw [← e, List.take_append_drop]
  have h2 : rs = runes ((enc rs).take n) ++ runes ((enc rs).drop n) := by
    have := congrArg runes h1
    rwa [runes_enc' rs ha, runes_enc _ hp] at this
  refine ⟨_, _, h2, ?_⟩
  rw [← e, List.length_take]
  omega
/-- What text.Place answers. -/
def placeAns (s : ByteArray) (x : Int) : Int × Int × Int :=
  if validD s.data.toList = true then
    (if 0 ≤ x ∧ x ≤ (s.size : Int) ∧ validD (s.data.toList.take x.toNat) = true then
      (((stepA (0, 0) (runes (s.data.toList.take x.toNat))).1 : Int), ((stepA (0, 0) (runes (s.data.toList.take x.toNat))).2 : Int), 0)
     else (0, 0, 70))
  else (0, 0, 40)
theorem placeAns_front (s : ByteArray) (pre post : List Int) (ha : allR (pre ++ post)) (hs : s.data.toList = enc (pre ++ post)) : placeAns s ((enc pre).length : Int) = (((stepA (0, 0) pre).1 : Int), ((stepA (0, 0) pre).2 : Int), 0) := by
  have hz := size_data s
  rw [hs, enc_append, List.length_append] at hz
  have ht : s.data.toList.take (enc pre).length = enc pre := by rw [hs, enc_append, List.take_left]
  unfold placeAns
  rw [if_pos (by rw [hs]; exact valid_enc' _ ha), Int.toNat_natCast, ht, if_pos ⟨by omega, by omega, valid_enc' _ (allR_append.1 ha).1⟩, runes_enc' _ (allR_append.1 ha).1]
theorem place_cases (s : ByteArray) (x : Int) :
    (validD s.data.toList = false ∧ placeAns s x = (0, 0, 40)) ∨
    (validD s.data.toList = true ∧ (x < 0 ∨ (s.size : Int) < x ∨ validD (s.data.toList.take x.toNat) = false) ∧ placeAns s x = (0, 0, 70)) ∨
    (∃ pre post, allR (pre ++ post) ∧ s.data.toList = enc (pre ++ post) ∧ x = ((enc pre).length : Int) ∧ placeAns s x = (((stepA (0, 0) pre).1 : Int), ((stepA (0, 0) pre).2 : Int), 0)) := by
  have hz := size_data s
  by_cases hv : validD s.data.toList = true
  case neg => exact .inl ⟨by simpa using hv, if_neg hv⟩
  right
  by_cases hx : 0 ≤ x ∧ x ≤ (s.size : Int) ∧ validD (s.data.toList.take x.toNat) = true
  · right
    obtain ⟨e, ha⟩ := text_enc _ hv
    obtain ⟨pre, post, h1, h2⟩ := take_front (runes s.data.toList) ha x.toNat (by rw [← e]; omega) (by rw [← e]; exact hx.2.2)
    rw [h1] at ha e
    have hx' : x = ((enc pre).length : Int) := by omega
    exact ⟨pre, post, ha, e, hx', by rw [hx']; exact placeAns_front s pre post ha e⟩
  · left
    refine ⟨hv, ?_, by unfold placeAns; rw [if_pos hv, if_neg hx]⟩
    by_cases h0 : x < 0
    · exact .inl h0
    by_cases h1 : (s.size : Int) < x
    · exact .inr (.inl h1)
    refine .inr (.inr ?_)
    cases h2 : validD (s.data.toList.take x.toNat) with
    | false => rfl
    | true => exact absurd ⟨by omega, by omega, h2⟩ hx
theorem place_eq (s : ByteArray) (x : Int) (hb : s.size ≤ 1000000) (k : Nat) (hk : s.size + 1 < k) : text_Place.f k s x = some (placeAns s x) := by
  have hz := size_data s
  rcases place_cases s x with ⟨hv, e⟩ | ⟨hv, hx, e⟩ | ⟨pre, post, ha, hs, rfl, e⟩
  · rw [e]
    unfold text_Place.f
    rw [valid_at s (by omega), Option.bind_some, hv]
    rfl
  · obtain ⟨k, rfl⟩ : ∃ m, k = m + 1 := ⟨k - 1, by omega⟩
    rw [e]
    unfold text_Place.f
    rw [valid_at s (by omega), Option.bind_some, if_pos hv]
    by_cases h0 : x < 0
    · rw [if_pos h0, text_Place.j0, if_pos rfl]
    rw [if_neg h0]
    by_cases h1 : x > (s.size : Int)
    · rw [if_pos h1, text_Place.j0, if_pos rfl]
    have h2 : validD (s.data.toList.take x.toNat) = false := by
      rcases hx with h | h | h
      · omega
      · omega
      · exact h
    have hfz : (s.extract 0 x.toNat).size ≤ s.size := by rw [size_data, front_data, List.length_take]; omega
    rw [if_neg h1, if_pos (by omega), if_pos (by omega), valid_at _ (by omega), front_data, h2, Option.bind_some, text_Place.j0, if_pos (by rfl)]
  · rw [e]
    exact place_front s pre post ha hs hb k hk
/-- What text.Offset answers. -/
def textOffAns (s : ByteArray) (a b : Int) : Int × Int := if validD s.data.toList = true then lineOff (linesAt 0 (splitB s)) a b else (0, 40)
theorem textOffset_at (s : ByteArray) (a b : Int) (h : s.size ≤ 17592186044416) (ha : (Lit.int .i64 a).wf = true) : GTextOffset.f s a b = some (textOffAns s a b) :=
  if_pos ⟨h, i64_wf ha⟩
theorem bytesOf_ints (s : ByteArray) : bytesOf s = ints s.data.toList := rfl
theorem append_data (s t : ByteArray) : (s ++ t).data.toList = s.data.toList ++ t.data.toList := by simp
end Go.Proofs.YtjffpcjbbehooaaDoor.F
