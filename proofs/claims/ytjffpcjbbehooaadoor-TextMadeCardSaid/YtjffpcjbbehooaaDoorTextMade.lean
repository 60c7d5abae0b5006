/-
  The law TextMade in plain words.
-/
import Derived.Test.YtjffpcjbbehooaaDoorPMadex
import Derived.Test.YtjffpcjbbehooaaDoorTextFns
namespace Go.Proofs.YtjffpcjbbehooaaDoor.F
open Go.RowKit Go.Lib Go.Proofs.YtjffpcjbbehooaaDoor.G Go.Proofs.YtjffpcjbbehooaaDoor.PFn Go.Proofs.YtjffpcjbbehooaaDoor.PMade Go.Proofs.YtjffpcjbbehooaaDoorW.PrintWords Go.Proofs.YtjffpcjbbehooaaDoorW.PrintLast
theorem lcp_parts : ∀ (x y : List Int), ∃ p x' y', x = p ++ x' ∧ y = p ++ y' ∧ lcp x' y' = 0
  | [], y => ⟨[], [], y, rfl, rfl, lcp_nil_left _⟩
  | a :: x, [] => ⟨[], a :: x, [], rfl, rfl, lcp_nil_right _⟩
  | a :: x, b :: y => by
    by_cases h : a = b
    · obtain ⟨p, x', y', rfl, rfl, e⟩ := lcp_parts x y
      exact ⟨a :: p, x', y', rfl, by rw [h]; rfl, e⟩
    · exact ⟨[], a :: x, b :: y, rfl, rfl, by rw [lcp_cons, if_neg h]⟩
theorem between_parts (rs us : List Int) : ∃ pre x y suf, rs = pre ++ (x ++ suf) ∧ us = pre ++ (y ++ suf) ∧ lcp (x ++ suf) (y ++ suf) = 0 ∧ lcs x y = 0 := by
  obtain ⟨pre, X, Y, rfl, rfl, h0⟩ := lcp_parts rs us
  obtain ⟨p, x', y', e1, e2, h1⟩ := lcp_parts X.reverse Y.reverse
  have f1 : X = x'.reverse ++ p.reverse := by rw [← List.reverse_append, ← e1, List.reverse_reverse]
  have f2 : Y = y'.reverse ++ p.reverse := by rw [← List.reverse_append, ← e2, List.reverse_reverse]
  refine ⟨pre, x'.reverse, y'.reverse, p.reverse, by rw [f1], by rw [f2], by rw [← f1, ← f2]; exact h0, ?_⟩
  unfold lcs
  rw [List.reverse_reverse, List.reverse_reverse]
  exact h1
theorem lcp_self : ∀ (x : List Int), lcp x x = x.length
  | [] => rfl
  | a :: x => by rw [lcp_cons, if_pos rfl, lcp_self x]; rfl
theorem lcs_self (x : List Int) : lcs x x = x.length := by unfold lcs; rw [lcp_self, List.length_reverse]
theorem enc_len_zero (x : List Int) (h : (enc x).length = 0) : x = [] := by
  cases x with
  | nil => rfl
  | cons r x =>
    have := encode_length r
    rw [enc_cons, List.length_append] at h
    omega
/-- The place of a front is told back as how many bytes it has. -/
theorem off_front (s : ByteArray) (pre post : List Int) (ha : allR (pre ++ post)) (hs : s.data.toList = enc (pre ++ post)) (hb : s.size ≤ 1000000) :
    GTextOffset.f s (((stepA (0, 0) pre).1 : Nat) : Int) (((stepA (0, 0) pre).2 : Nat) : Int) = some (((enc pre).length : Int), 0) := by
  have hz := size_data s
  have hpa := (allR_append.1 ha).1
  have hc : (stepA (0, 0) pre).1 ≤ s.size := by
    rw [stepA_count pre (0, 0)]
    have h1 := List.count_le_length (a := (10 : Int)) (l := pre)
    have h2 := counts pre hpa
    rw [hs, enc_append, List.length_append] at hz
    simp only
    omega
  have hv : validD s.data.toList = true := by rw [hs]; exact valid_enc' _ ha
  have e : GTextOffset.f s (((stepA (0, 0) pre).1 : Nat) : Int) (((stepA (0, 0) pre).2 : Nat) : Int) = some (lineOff (linesAt 0 (splitB s)) (((stepA (0, 0) pre).1 : Nat) : Int) (((stepA (0, 0) pre).2 : Nat) : Int)) := by
    unfold GTextOffset.f
    rw [if_pos ⟨by omega, by omega, by omega⟩, if_pos hv]
  rw [e]
  have hm : (stepA (0, 0) pre, (enc pre).length) ∈ fronts 0 0 0 (pre ++ post) := (fronts_mem _ 0 0 0 _).2 ⟨pre, post, rfl, by rw [Nat.zero_add]⟩
  rcases lineOff_cases (pre ++ post) ha s hs (((stepA (0, 0) pre).1 : Nat) : Int) (((stepA (0, 0) pre).2 : Nat) : Int) with ⟨a', b', n, h1, h2, hn, ho⟩ | ⟨hno, _⟩
  · rw [ho]
    have hab : (a', b') = stepA (0, 0) pre := Prod.ext (by simp only; omega) (by simp only; omega)
    rw [hab] at hn
    rcases fronts_rise _ 0 0 0 _ _ hm hn with h | ⟨h, _⟩ | ⟨h, _⟩
    · simp only [Prod.mk.injEq, true_and] at h
      rw [h]
    · exfalso; unfold lexLt at h; simp only at h; omega
    · exfalso; unfold lexLt at h; simp only at h; omega
  · exact absurd hm (hno _ _ _ rfl rfl)
theorem place_inj (pre x post : List Int) (h : stepA (0, 0) pre = stepA (0, 0) (pre ++ x)) : x = [] := by
  have m1 : (stepA (0, 0) pre, (enc pre).length) ∈ fronts 0 0 0 (pre ++ (x ++ post)) := (fronts_mem _ 0 0 0 _).2 ⟨pre, x ++ post, rfl, by rw [Nat.zero_add]⟩
  have m2 : (stepA (0, 0) (pre ++ x), (enc (pre ++ x)).length) ∈ fronts 0 0 0 (pre ++ (x ++ post)) := (fronts_mem _ 0 0 0 _).2 ⟨pre ++ x, post, by simp, by rw [Nat.zero_add]⟩
  rcases fronts_rise _ 0 0 0 _ _ m1 m2 with e | ⟨e, _⟩ | ⟨e, _⟩
  · have := congrArg Prod.snd e
    simp only [enc_append, List.length_append] at this
    exact enc_len_zero x (by omega)
  · exfalso; unfold lexLt at e; rw [h] at e; simp only at e; omega
  · exfalso; unfold lexLt at e; rw [h] at e; simp only at e; omega
theorem toList_data (s : ByteArray) : s.toList = s.data.toList := Lib.toList_data s
theorem rd_one (x : S31) : rd_T31 [x] 0 = x := rfl
theorem ext_toList {s t : ByteArray} (h : s.data.toList = t.data.toList) : s = t := by
  have := congrArg ofL h
  rwa [ofL_of, ofL_of] at this
set_option maxHeartbeats 1000000 in
theorem made : parlancelaw07_TextMade.Pure := by
  intro s t hs ht
  refine ⟨s.size + t.size + 40, ?_⟩
  obtain ⟨k, hk⟩ : ∃ k, s.size + t.size + 40 = k + 2 := ⟨s.size + t.size + 38, by omega⟩
  unfold parlancelaw07_TextMade.f
  rw [alive_eq _ (by omega), Option.bind_some, if_pos rfl, w64 _ (by omega)]
  by_cases hz : (s.size : Int) + (t.size : Int) > 50000
  · rw [if_pos hz]
  rw [if_neg hz]
  have hB : GBetween.f s t = some (if (validD s.data.toList && validD t.data.toList) = true then betweenAns s t else (0, 0, 0, 0, ⟨#[]⟩, 40)) := if_pos ⟨by omega, by omega⟩
  rw [hB, Option.bind_some]
  by_cases hv : (validD s.data.toList && validD t.data.toList) = true
  case neg =>
    rw [if_neg hv, if_neg (by decide), if_pos rfl, if_pos (by omega)]
    have key : ∀ x : ByteArray, x.size ≤ 50000 → ∃ n : Nat, (utf_Valid.f (s.size + t.size + 40) (bytesOf x) = some (n : Int) ∨ ¬ x.size < s.size + t.size + 40) ∧ n ≤ x.size ∧ (validD x.data.toList = false → n < x.size) ∧ (validD x.data.toList = true → n = x.size) := by
      intro x hx
      obtain ⟨rs, tl, hte, hra, hst⟩ := split_text x.data.toList
      have hxz := size_data x
      rw [hte] at hxz
      refine ⟨(enc rs).length, ?_, by rw [hxz, List.length_append]; omega, ?_, ?_⟩
      · by_cases hlt : x.size < s.size + t.size + 40
        · left
          rw [bytesOf_ints, hte, utfValid_eq rs tl hra hst (by omega) _ (by omega)]
        · exact .inr hlt
      · intro hv
        rw [hte, valid_enc _ hra] at hv
        have hne : tl ≠ [] := by
          intro h
          subst h
          rw [valid_nil] at hv
          cases hv
        have hpos : 0 < tl.length := List.length_pos_iff.2 hne
        rw [hxz, List.length_append]
        omega
      · intro hv
        rw [hte, valid_enc _ hra] at hv
        obtain rfl := (valid_stuck hst).1 hv
        rw [hxz, List.append_nil]
    obtain ⟨n, h1, h2, h3, h4⟩ := key s (by omega)
    obtain ⟨m, g1, g2, g3, g4⟩ := key t (by omega)
    have h1' := h1.resolve_right (by omega)
    have g1' := g1.resolve_right (by omega)
    rw [h1', Option.bind_some]
    cases hvs : validD s.data.toList with
    | false =>
      have := h3 hvs
      rw [if_pos (by omega)]
    | true =>
      have e1 := h4 hvs
      rw [hvs, Bool.true_and] at hv
      have := g3 (by simpa using hv)
      rw [if_neg (by omega), if_pos (by omega), g1', Option.bind_some]
      simp only [Option.some.injEq, decide_eq_true_eq]
      omega
  rw [if_pos hv]
  rw [Bool.and_eq_true] at hv
  obtain ⟨pre, x, y, suf, e1, e2, h0, h1⟩ := between_parts (runes s.data.toList) (runes t.data.toList)
  obtain ⟨f1, f2⟩ := text_enc _ hv.1
  obtain ⟨f3, f4⟩ := text_enc _ hv.2
  rw [betweenAns_of s t pre x y suf e1 e2 h0 h1]
  rw [e1] at f1 f2
  rw [e2] at f3 f4
  dsimp only
  rw [if_pos rfl]
  have hsz := size_data s
  have htz := size_data t
  rw [f1, enc_append, enc_append, List.length_append, List.length_append] at hsz
  rw [f3, enc_append, enc_append, List.length_append, List.length_append] at htz
  have hay : allR y := (allR_append.1 (allR_append.1 f4).2).1
  have hyz : (ofL (enc y)).size = (enc y).length := ofL_size _
  have o1 := off_front s pre (x ++ suf) f2 f1 (by omega)
  have o2 := off_front s (pre ++ x) suf (by rw [List.append_assoc]; exact f2) (by rw [List.append_assoc]; exact f1) (by omega)
  have hl : ((enc (pre ++ x)).length : Int) = ((enc pre).length : Int) + ((enc x).length : Int) := by rw [enc_append, List.length_append]; rfl
  -- the text behind the edit
  have hap : text_Apply.f (s.size + t.size + 40) s [(⟨((stepA (0, 0) pre).1 : Int), ((stepA (0, 0) pre).2 : Int), ((stepA (0, 0) (pre ++ x)).1 : Int), ((stepA (0, 0) (pre ++ x)).2 : Int), ofL (enc y)⟩ : S31)] = some (if t.size > 32768 then (⟨#[]⟩, 52) else (t, 0)) := by
    rw [hk]
    unfold text_Apply.f
    rw [valid_at s (by omega), Option.bind_some, if_pos hv.1, text_Apply.l0, if_pos (by simp), if_pos (by omega), if_pos (by simp), rd_one]
    dsimp only
    unfold text_apply.f
    rw [valid_at _ (by omega), ofL_data, valid_enc' _ hay, Option.bind_some, if_pos rfl, o1, Option.bind_some, if_pos rfl]
    dsimp only
    rw [o2, Option.bind_some, if_pos rfl]
    dsimp only
    rw [hl, if_neg (by omega), w64 (((enc pre).length : Int) + ((enc x).length : Int) - ((enc pre).length : Int)) (by omega), w64 ((s.size : Int) - (((enc pre).length : Int) + ((enc x).length : Int) - ((enc pre).length : Int))) (by omega), w64 _ (by omega)]
    by_cases hbig : t.size > 32768
    · rw [if_pos (by omega), Option.bind_some, if_neg (by decide), if_pos hbig]
    · have hT : ((s.extract 0 ((enc pre).length : Int).toNat ++ ofL (enc y)) ++ s.extract (((enc pre).length : Int) + ((enc x).length : Int)).toNat s.size) = t := by
        apply ext_toList
        have hA : (s.extract 0 (enc pre).length).data.toList = enc pre := by rw [front_data, f1, enc_append, List.take_left]
        have hC : (s.extract ((enc pre).length + (enc x).length) s.size).data.toList = enc suf := by
          rw [G.extract_data, List.take_of_length_le (l := s.data.toList) (i := s.size) (by rw [← size_data]; exact Nat.le_refl _), f1, ← List.append_assoc, enc_append, enc_append, ← List.length_append, List.drop_left]
        rw [append_data, append_data, ofL_data, Int.toNat_natCast, show ((((enc pre).length : Int) + ((enc x).length : Int)).toNat) = (enc pre).length + (enc x).length by omega, hA, hC, f3, enc_append, enc_append, List.append_assoc]
      rw [if_neg (by omega), if_pos (by omega), if_pos (by omega), if_pos (by omega), if_pos (by omega), if_pos (by omega), if_pos (by omega), hT, Option.bind_some, if_pos rfl, w64 _ (by omega), text_Apply.l0, if_neg (by simp), if_neg hbig]
  rw [hap, Option.bind_some]
  by_cases hbig : t.size > 32768
  · rw [if_pos hbig, if_pos (by omega), if_pos rfl, toList_data]
    rfl
  rw [if_neg hbig, if_neg (by omega)]
  dsimp only
  -- is it the empty edit?
  have hst : (s.toList == t.toList) = decide (x = [] ∧ y = []) := by
    rw [toList_data, toList_data]
    by_cases c : x = [] ∧ y = []
    · obtain ⟨rfl, rfl⟩ := c
      rw [f1, f3]
      simp
    · have : s.data.toList ≠ t.data.toList := by
        intro e
        have er := congrArg runes e
        rw [e1, e2, List.append_cancel_left_eq, List.append_cancel_right_eq] at er
        subst er
        rw [lcs_self] at h1
        exact c ⟨List.eq_nil_of_length_eq_zero h1, List.eq_nil_of_length_eq_zero h1⟩
      rw [decide_eq_false c]
      simpa using this
  rw [hst, toList_data, ofL_data]
  by_cases cy : y = []
  · subst cy
    rw [if_pos (by rfl)]
    by_cases c1 : (((stepA (0, 0) pre).1 : Nat) : Int) = (((stepA (0, 0) (pre ++ x)).1 : Nat) : Int)
    · rw [if_pos c1, if_pos rfl, if_pos rfl]
      by_cases c2 : (stepA (0, 0) pre).2 = (stepA (0, 0) (pre ++ x)).2
      · have hx := place_inj pre x suf (Prod.ext (by omega) c2)
        subst hx
        simp
      · have hx : x ≠ [] := by
          rintro rfl
          simp at c2
        have : ((((stepA (0, 0) pre).2 : Nat) : Int) == (((stepA (0, 0) (pre ++ x)).2 : Nat) : Int)) = false := by rw [beq_eq_false_iff_ne]; omega
        rw [this]
        simp [hx]
    · have hx : x ≠ [] := by
        rintro rfl
        simp at c1
      rw [if_neg c1, if_pos rfl, if_pos rfl]
      simp [hx]
  · have hy : ¬ enc y = [] := fun h => cy (enc_len_zero y (by rw [h]; rfl))
    rw [if_neg hy, if_pos rfl, if_pos rfl]
    simp [cy]
end Go.Proofs.YtjffpcjbbehooaaDoor.F
