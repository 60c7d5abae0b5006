/-
  Plain facts: what an edit makes of a text, and edits one after the other.
-/
import Derived.Test.YtjffpcjbbehooaaDoorPEdx1
import Derived.Test.YtjffpcjbbehooaaDoorTextFns
namespace Go.Proofs.YtjffpcjbbehooaaDoor.F
open Go.RowKit Go.Lib Go.Proofs.YtjffpcjbbehooaaDoor.G Go.Proofs.YtjffpcjbbehooaaDoor.PFn Go.Proofs.YtjffpcjbbehooaaDoor.PEd Go.Proofs.YtjffpcjbbehooaaDoorW.PrintWords Go.Proofs.YtjffpcjbbehooaaDoorW.PrintLast
/-- An edit of a valid text. -/
def applyAns (s : ByteArray) (x : S31) : ByteArray × Int :=
  if validD x.f4.data.toList = true then
    (if (textOffAns s x.f0 x.f1).2 = 0 then
      (if (textOffAns s x.f2 x.f3).2 = 0 then
        (if (textOffAns s x.f2 x.f3).1 < (textOffAns s x.f0 x.f1).1 then (⟨#[]⟩, 71)
        else if (s.extract 0 (textOffAns s x.f0 x.f1).1.toNat ++ x.f4 ++ s.extract (textOffAns s x.f2 x.f3).1.toNat s.size).size > 32768 then (⟨#[]⟩, 52)
        else (s.extract 0 (textOffAns s x.f0 x.f1).1.toNat ++ x.f4 ++ s.extract (textOffAns s x.f2 x.f3).1.toNat s.size, 0))
      else (⟨#[]⟩, 70))
    else (⟨#[]⟩, 70))
  else (⟨#[]⟩, 40)
def applyAll (s : ByteArray) : List S31 → ByteArray × Int
  | [] => (s, 0)
  | x :: xs => if (applyAns s x).2 = 0 then applyAll (applyAns s x).1 xs else applyAns s x
theorem textOff_cases (s : ByteArray) (hv : validD s.data.toList = true) (a b : Int) :
    (∃ pre post, allR (pre ++ post) ∧ s.data.toList = enc (pre ++ post) ∧ textOffAns s a b = (((enc pre).length : Int), 0)) ∨ textOffAns s a b = (0, 70) := by
  obtain ⟨e, ha⟩ := text_enc _ hv
  unfold textOffAns
  rw [if_pos hv]
  rcases lineOff_cases (runes s.data.toList) ha s e a b with ⟨a', b', n, _, _, hm, ho⟩ | ⟨_, ho⟩
  · obtain ⟨pre, post, h1, h2⟩ := (fronts_mem _ 0 0 0 _).1 hm
    simp only [Prod.mk.injEq, Nat.zero_add] at h2
    rw [h1] at e ha
    exact .inl ⟨pre, post, ha, e, by rw [ho, h2.2]⟩
  · exact .inr ho
theorem valid_cut (s : ByteArray) (_hv : validD s.data.toList = true) (pre post : List Int) (_ha : allR (pre ++ post)) (hs : s.data.toList = enc (pre ++ post)) :
    (s.extract 0 (enc pre).length).data.toList = enc pre ∧ (s.extract (enc pre).length s.size).data.toList = enc post ∧ (enc pre).length ≤ s.size := by
  have hz := size_data s
  rw [hs, enc_append, List.length_append] at hz
  refine ⟨by rw [front_data, hs, enc_append, List.take_left], ?_, by omega⟩
  rw [G.extract_data, List.take_of_length_le (l := s.data.toList) (i := s.size) (by rw [← size_data]; exact Nat.le_refl _), hs, enc_append, List.drop_left]
theorem applyAns_good (s : ByteArray) (hv : validD s.data.toList = true) (x : S31) (h : (applyAns s x).2 = 0) : validD (applyAns s x).1.data.toList = true ∧ (applyAns s x).1.size ≤ 32768 := by
  unfold applyAns at h ⊢
  by_cases c1 : validD x.f4.data.toList = true
  case neg => rw [if_neg c1] at h; cases h
  rw [if_pos c1] at h ⊢
  by_cases c2 : (textOffAns s x.f0 x.f1).2 = 0
  case neg => rw [if_neg c2] at h; cases h
  rw [if_pos c2] at h ⊢
  by_cases c3 : (textOffAns s x.f2 x.f3).2 = 0
  case neg => rw [if_neg c3] at h; cases h
  rw [if_pos c3] at h ⊢
  by_cases c4 : (textOffAns s x.f2 x.f3).1 < (textOffAns s x.f0 x.f1).1
  · rw [if_pos c4] at h; cases h
  rw [if_neg c4] at h ⊢
  by_cases c5 : (s.extract 0 (textOffAns s x.f0 x.f1).1.toNat ++ x.f4 ++ s.extract (textOffAns s x.f2 x.f3).1.toNat s.size).size > 32768
  · rw [if_pos c5] at h; cases h
  rw [if_neg c5] at h ⊢
  refine ⟨?_, by dsimp only; omega⟩
  rcases textOff_cases s hv x.f0 x.f1 with ⟨p1, q1, a1, e1, o1⟩ | o1
  case inr => rw [o1] at c2; cases c2
  rcases textOff_cases s hv x.f2 x.f3 with ⟨p2, q2, a2, e2, o2⟩ | o2
  case inr => rw [o2] at c3; cases c3
  obtain ⟨ex, ax⟩ := text_enc _ c1
  rw [o1, o2]
  dsimp only
  rw [Int.toNat_natCast, Int.toNat_natCast, append_data, append_data, (valid_cut s hv p1 q1 a1 e1).1, (valid_cut s hv p2 q2 a2 e2).2.1, ex, ← enc_append, ← enc_append]
  exact valid_enc' _ (allR_append.2 ⟨allR_append.2 ⟨(allR_append.1 a1).1, ax⟩, (allR_append.1 a2).2⟩)
theorem applyAns_err (s : ByteArray) (x : S31) (h : ¬ (applyAns s x).2 = 0) : (applyAns s x).1 = ⟨#[]⟩ := by
  unfold applyAns at h ⊢
  by_cases c1 : validD x.f4.data.toList = true
  case neg => rw [if_neg c1]
  rw [if_pos c1] at h ⊢
  by_cases c2 : (textOffAns s x.f0 x.f1).2 = 0
  case neg => rw [if_neg c2]
  rw [if_pos c2] at h ⊢
  by_cases c3 : (textOffAns s x.f2 x.f3).2 = 0
  case neg => rw [if_neg c3]
  rw [if_pos c3] at h ⊢
  by_cases c4 : (textOffAns s x.f2 x.f3).1 < (textOffAns s x.f0 x.f1).1
  · rw [if_pos c4]
  rw [if_neg c4] at h ⊢
  by_cases c5 : (s.extract 0 (textOffAns s x.f0 x.f1).1.toNat ++ x.f4 ++ s.extract (textOffAns s x.f2 x.f3).1.toNat s.size).size > 32768
  · rw [if_pos c5]
  · rw [if_neg c5] at h
    exact absurd rfl h
def okEdit (x : S31) : Prop := (Lit.int .i64 x.f0).wf = true ∧ (Lit.int .i64 x.f1).wf = true ∧ (Lit.int .i64 x.f2).wf = true ∧ (Lit.int .i64 x.f3).wf = true ∧ x.f4.size ≤ 100000
theorem apply_eq (s : ByteArray) (hs : s.size ≤ 100000) (hv : validD s.data.toList = true) (x : S31) (hx : okEdit x) : text_apply.f s x.f0 x.f1 x.f2 x.f3 x.f4 = some (applyAns s x) := by
  obtain ⟨h0, h1, h2, h3, h4⟩ := hx
  unfold text_apply.f applyAns
  rw [valid_at _ (by omega), Option.bind_some]
  by_cases c1 : validD x.f4.data.toList = true
  case neg => rw [if_neg c1, if_neg c1]
  rw [if_pos c1, if_pos c1, textOffset_at s _ _ (by omega) h0, Option.bind_some]
  rcases textOff_cases s hv x.f0 x.f1 with ⟨p1, q1, a1, e1, o1⟩ | o1
  case inr => rw [o1, if_neg (by decide), if_neg (by decide)]
  rw [o1, if_pos rfl, if_pos rfl, textOffset_at s _ _ (by omega) h2, Option.bind_some]
  rcases textOff_cases s hv x.f2 x.f3 with ⟨p2, q2, a2, e2, o2⟩ | o2
  case inr => rw [o2, if_neg (by decide), if_neg (by decide)]
  rw [o2, if_pos rfl, if_pos rfl]
  dsimp only
  have g1 := valid_cut s hv p1 q1 a1 e1
  have g2 := valid_cut s hv p2 q2 a2 e2
  by_cases c4 : ((enc p2).length : Int) < ((enc p1).length : Int)
  · rw [if_pos c4, if_pos c4]
  rw [if_neg c4, if_neg c4]
  have hz : (s.extract 0 (((enc p1).length : Nat) : Int).toNat ++ x.f4 ++ s.extract (((enc p2).length : Nat) : Int).toNat s.size).size = (enc p1).length + x.f4.size + (s.size - (enc p2).length) := by
    rw [Int.toNat_natCast, Int.toNat_natCast, ByteArray.size_append, ByteArray.size_append, size_data (s.extract 0 _), size_data (s.extract _ s.size), g1.1, g2.2.1]
    have hz := size_data s
    rw [e2, enc_append, List.length_append] at hz
    omega
  rw [w64 (((enc p2).length : Int) - ((enc p1).length : Int)) (by omega), w64 ((s.size : Int) - (((enc p2).length : Int) - ((enc p1).length : Int))) (by omega), w64 _ (by omega), hz]
  by_cases c5 : (enc p1).length + x.f4.size + (s.size - (enc p2).length) > 32768
  · rw [if_pos (by omega), if_pos c5]
  · rw [if_neg (by omega), if_neg c5, if_pos (by omega), if_pos (by omega), if_pos (by omega), if_pos (by omega), if_pos (by omega), if_pos (by omega)]
theorem rd31_nat (xs : List S31) (i : Nat) (h : i < xs.length) : rd_T31 xs (i : Int) = xs[i] := by
  unfold rd_T31
  simp [List.getD_eq_getElem?_getD, h]
theorem apply_l0 (xs : List S31) (hb : xs.length ≤ 1000000) (hx : ∀ x ∈ xs, okEdit x) : ∀ (d i k : Nat) (s : ByteArray), i + d = xs.length → d < k → s.size ≤ 100000 → validD s.data.toList = true → text_Apply.l0 k s xs (xs.length : Int) (i : Int) = some (applyAll s (xs.drop i))
  | 0, i, k, s, h, hk, hs, hv => by
    obtain ⟨k, rfl⟩ : ∃ m, k = m + 1 := ⟨k - 1, by omega⟩
    rw [text_Apply.l0, if_neg (by omega), List.drop_of_length_le (by omega)]
    rfl
  | d + 1, i, k, s, h, hk, hs, hv => by
    obtain ⟨k, rfl⟩ : ∃ m, k = m + 1 := ⟨k - 1, by omega⟩
    have hi : i < xs.length := by omega
    rw [text_Apply.l0, if_pos (by omega), if_pos (by omega), if_pos (by omega), rd31_nat xs i hi, apply_eq s hs hv _ (hx _ (List.getElem_mem hi)), Option.bind_some, w64 ((i : Int) + 1) (by omega), show ((i : Int) + 1) = ((i + 1 : Nat) : Int) from rfl, List.drop_eq_getElem_cons hi, applyAll]
    by_cases c : (applyAns s xs[i]).2 = 0
    · have hg := applyAns_good s hv _ c
      rw [if_pos c, if_pos c, apply_l0 xs hb hx d (i + 1) k _ (by omega) (by omega) (by omega) hg.1]
    · rw [if_neg c, if_neg c]
      have : (applyAns s xs[i]).1 = ⟨#[]⟩ := applyAns_err s _ c
      rw [← this]
/-- What text.Apply answers. -/
def textApplyAns (s : ByteArray) (xs : List S31) : ByteArray × Int := if validD s.data.toList = true then applyAll s xs else (⟨#[]⟩, 40)
theorem Apply_eq (s : ByteArray) (hs : s.size ≤ 100000) (xs : List S31) (hb : xs.length ≤ 1000000) (hx : ∀ x ∈ xs, okEdit x) (k : Nat) (hk : xs.length < k) : text_Apply.f k s xs = some (textApplyAns s xs) := by
  unfold text_Apply.f textApplyAns
  rw [valid_at _ (by omega), Option.bind_some]
  by_cases c : validD s.data.toList = true
  · rw [if_pos c, if_pos c]
    have := apply_l0 xs hb hx xs.length 0 k s (by omega) hk hs c
    exact this
  · rw [if_neg c, if_neg c]
theorem applyAll_err : ∀ (xs : List S31) (s : ByteArray), ¬ (applyAll s xs).2 = 0 → (applyAll s xs).1 = ⟨#[]⟩
  | [], s, h => absurd rfl h
  | x :: xs, s, h => by
    rw [applyAll] at h ⊢
    by_cases c : (applyAns s x).2 = 0
    · rw [if_pos c] at h ⊢
      exact applyAll_err xs _ h
    · rw [if_neg c]
      exact applyAns_err s x c
theorem applyAll_append : ∀ (xs ys : List S31) (s : ByteArray), applyAll s (xs ++ ys) = if (applyAll s xs).2 = 0 then applyAll (applyAll s xs).1 ys else applyAll s xs
  | [], ys, s => by simp [applyAll]
  | x :: xs, ys, s => by
    rw [List.cons_append, applyAll, applyAll]
    by_cases c : (applyAns s x).2 = 0
    · rw [if_pos c, if_pos c, applyAll_append xs ys]
    · rw [if_neg c, if_neg c, if_neg c]
theorem applyAll_good : ∀ (xs : List S31) (s : ByteArray), validD s.data.toList = true → s.size ≤ 100000 → (applyAll s xs).2 = 0 → validD (applyAll s xs).1.data.toList = true ∧ (applyAll s xs).1.size ≤ 100000
  | [], s, hv, hs, _ => ⟨hv, hs⟩
  | x :: xs, s, hv, hs, h => by
    rw [applyAll] at h ⊢
    by_cases c : (applyAns s x).2 = 0
    · rw [if_pos c] at h ⊢
      have hg := applyAns_good s hv x c
      exact applyAll_good xs _ hg.1 (by omega) h
    · rw [if_neg c] at h
      exact absurd h c
/-- The law's own bound. -/
def sizes (xs : List S31) : Nat := (xs.map fun x => 1 + x.f4.size).sum
theorem sizes_cons (x : S31) (xs : List S31) : sizes (x :: xs) = 1 + x.f4.size + sizes xs := by simp [sizes]
theorem sizes_mem : ∀ (xs : List S31) (x : S31), x ∈ xs → x.f4.size ≤ sizes xs
  | y :: xs, x, h => by
    simp only [sizes, List.map_cons, List.sum_cons]
    rcases List.mem_cons.1 h with rfl | h
    · omega
    · have := sizes_mem xs x h
      unfold sizes at this
      omega
theorem great_l0 (xs : List S31) (hl : xs.length ≤ 140737488351232) (hx : ∀ x ∈ xs, x.f4.size ≤ 140737488351232) : ∀ (d i k : Nat) (n : Int), i + d = xs.length → d < k →
    (xs.length ≤ 50 → 0 ≤ n → n + (d : Int) * 140737488351233 ≤ 1000000000000000000 → parlancelaw07_great.l0 k xs n (i : Int) = some (decide (n + (sizes (xs.drop i) : Int) > 100000))) ∧ (50 < xs.length → parlancelaw07_great.l0 k xs n (i : Int) = some true)
  | 0, i, k, n, h, hk => by
    obtain ⟨k, rfl⟩ : ∃ m, k = m + 1 := ⟨k - 1, by omega⟩
    rw [parlancelaw07_great.l0, if_neg (by omega), List.drop_of_length_le (by omega)]
    refine ⟨fun h1 _ _ => ?_, fun h1 => ?_⟩
    · simp only [sizes, List.map_nil, List.sum_nil]
      by_cases c : n > 100000
      · rw [if_pos c, decide_eq_true (by omega)]
      · rw [if_neg c, decide_eq_false (by omega), decide_eq_false (by omega)]
    · by_cases c : n > 100000
      · rw [if_pos c]
      · rw [if_neg c, decide_eq_true (by omega)]
  | d + 1, i, k, n, h, hk => by
    obtain ⟨k, rfl⟩ : ∃ m, k = m + 1 := ⟨k - 1, by omega⟩
    have hi : i < xs.length := by omega
    have hs := hx _ (List.getElem_mem hi)
    obtain ⟨g2, g3⟩ := great_l0 xs hl hx d (i + 1) k (wrap64 (n + (1 + (xs[i].f4.size : Int)))) (by omega) (by omega)
    rw [parlancelaw07_great.l0, if_pos (by omega), if_pos (by omega), rd31_nat xs i hi, w64 (1 + (xs[i].f4.size : Int)) (by omega), w64 ((i : Int) + 1) (by omega), show ((i : Int) + 1) = ((i + 1 : Nat) : Int) from rfl]
    refine ⟨fun h1 h2 h3 => ?_, g3⟩
    have hw : wrap64 (n + (1 + (xs[i].f4.size : Int))) = n + (1 + (xs[i].f4.size : Int)) := w64 _ (by omega)
    rw [hw] at g2 ⊢
    rw [g2 h1 (by omega) (by omega), List.drop_eq_getElem_cons hi]
    rw [sizes_cons]
    congr 2
    simp only [eq_iff_iff]
    omega
theorem great_eq (s : ByteArray) (hs : s.size ≤ 140737488351232) (xs : List S31) (hl : xs.length ≤ 140737488351232) (hx : ∀ x ∈ xs, x.f4.size ≤ 140737488351232) (k : Nat) (hk : xs.length < k) :
    parlancelaw07_great.f k s xs = some true ∨ (parlancelaw07_great.f k s xs = some false ∧ xs.length ≤ 50 ∧ s.size ≤ 100000 ∧ ∀ x ∈ xs, x.f4.size ≤ 100000) := by
  obtain ⟨g2, g3⟩ := great_l0 xs hl hx xs.length 0 k (s.size : Int) (by omega) hk
  have e0 : parlancelaw07_great.f k s xs = parlancelaw07_great.l0 k xs (s.size : Int) ((0 : Nat) : Int) := rfl
  rw [e0]
  by_cases c : 50 < xs.length
  · exact .inl (g3 c)
  have g := g2 (by omega) (by omega) (by omega)
  rw [List.drop_zero] at g
  rw [g]
  by_cases c2 : (s.size : Int) + (sizes xs : Int) > 100000
  · exact .inl (by rw [decide_eq_true c2])
  · refine .inr ⟨by rw [decide_eq_false c2], by omega, by omega, fun x hxm => ?_⟩
    have := sizes_mem xs x hxm
    omega
theorem copyEdits_eq (xs : List S31) (h : xs.length < 2932031007402) : parlanceref00_CopyEdits.f xs = some xs := by
  unfold parlanceref00_CopyEdits.f
  rw [Option.bind_some, if_pos (by simpa using h)]
  rfl
end Go.Proofs.YtjffpcjbbehooaaDoor.F
