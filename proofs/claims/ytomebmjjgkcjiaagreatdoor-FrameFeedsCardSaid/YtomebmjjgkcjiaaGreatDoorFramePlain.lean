/-
  Plain laws of a stream of messages: cut into pieces; encoded bodies; further fields. No program in sight.
-/
import Derived.Test.YtomebmjjgkcjiaaGreatDoorFrameEnc
set_option linter.unusedVariables false
namespace Go.Proofs.YtomebmjjgkcjiaaGreatDoor.G
open Go.Lib
theorem pre_append {sub a : List UInt8} (x : List UInt8) (h : sub.length ≤ a.length) : sub.isPrefixOf (a ++ x) = sub.isPrefixOf a := by
  rw [Bool.eq_iff_iff, List.isPrefixOf_iff_prefix, List.isPrefixOf_iff_prefix]
  exact ⟨fun e => List.prefix_of_prefix_length_le e (List.prefix_append a x) h, fun e => e.trans (List.prefix_append a x)⟩
theorem occAt_append {s sub : List UInt8} (x : List UInt8) {j : Nat} (h : j + sub.length ≤ s.length) : occAt (s ++ x) sub j = occAt s sub j := by
  unfold occAt
  rw [List.drop_append_of_le_length (by omega), pre_append]
  rw [List.length_drop]; omega
theorem index_append {s sub : List UInt8} (x : List UInt8) (hs : sub ≠ []) (h : 0 ≤ index s sub) : index (s ++ x) sub = index s sub := by
  rcases index_spec s sub with ⟨h1, _⟩ | ⟨i, h1, h2, h3, h4⟩
  · omega
  · have hr : i + sub.length ≤ s.length := by
      rcases occAt_room h3 with h' | h'
      · exact h'
      · exact absurd h' hs
    rw [h1]
    refine index_first (by rw [List.length_append]; omega) (by rw [occAt_append x hr]; exact h3) (fun j hj => ?_)
    rw [occAt_append x (by omega)]
    exact h4 j hj
theorem headN_append (f x : List UInt8) (h : headN f ≠ 0) : headN (f ++ x) = headN f := by
  unfold headN at h ⊢
  by_cases h1 : hasPrefix f crlf = true
  · rw [if_pos h1]
    have h2 : hasPrefix (f ++ x) crlf = true := List.isPrefixOf_iff_prefix.2 ((List.isPrefixOf_iff_prefix.1 h1).trans (List.prefix_append f x))
    rw [if_pos h2]
  · rw [if_neg h1] at h ⊢
    by_cases h2 : 0 ≤ index f ends
    · have hr := index_room f ends h2
      have hl : (ends.length : Int) = 4 := rfl
      have h3 : ¬ hasPrefix (f ++ x) crlf = true := by
        unfold hasPrefix
        rw [pre_append x (by show 2 ≤ f.length; omega)]
        exact h1
      rw [if_neg h3, index_append x (by decide) h2]
    · rw [if_neg h2] at h
      exact absurd rfl h
theorem headOf_append (a x : List UInt8) (h : (headOf a).1 ≠ 0 ∨ (headOf a).2 ≠ 0) : headOf (a ++ x) = headOf a := by
  by_cases hl : 1024 ≤ a.length
  · unfold headOf
    rw [List.take_append_of_le_length hl, List.length_append]
    have e : (1024 ≤ a.length + x.length) = (1024 ≤ a.length) := by apply propext; constructor <;> intro <;> omega
    simp only [e]
  · have ht : a.take 1024 = a := List.take_of_length_le (by omega)
    have hn : headN a ≠ 0 := by
      unfold headOf at h
      rw [if_neg (fun e => hl e.2), ht] at h
      rcases h with h | h
      · exact h
      · exact absurd rfl h
    have ha : headOf a = (headN a, 0) := by
      unfold headOf
      rw [if_neg (fun e => hl e.2), ht]
    rw [ha]
    unfold headOf
    have e : (a ++ x).take 1024 = a ++ x.take (1024 - a.length) := by rw [List.take_append, ht]
    rw [e, headN_append _ _ hn, if_neg (fun e => hn e.1)]
theorem nextL_append_some {a b q : List UInt8} {z : Int} (x : List UInt8) (h : nextL a = (some b, q, z)) : nextL (a ++ x) = (some b, q ++ x, z) := by
  have hr := headOf_range a
  unfold nextL at h ⊢
  by_cases c1 : (headOf a).1 = 0 ∨ (headOf a).2 ≠ 0
  · rw [if_pos c1] at h; cases h
  · rw [if_neg c1] at h
    have hne : (headOf a).1 ≠ 0 := fun e => c1 (.inl e)
    rw [headOf_append a x (.inl hne), if_neg c1]
    have ht : (a ++ x).take (headOf a).1.toNat = a.take (headOf a).1.toNat := List.take_append_of_le_length (by omega)
    rw [ht]
    have hlr := lenOf_range (a.take (headOf a).1.toNat)
    by_cases c2 : (lenOf (a.take (headOf a).1.toNat)).2 ≠ 0 ∨ (a.length : Int) < (headOf a).1 + (lenOf (a.take (headOf a).1.toNat)).1
    · rw [if_pos c2] at h; cases h
    · rw [if_neg c2] at h
      have c3 : ¬ ((lenOf (a.take (headOf a).1.toNat)).2 ≠ 0 ∨ ((a ++ x).length : Int) < (headOf a).1 + (lenOf (a.take (headOf a).1.toNat)).1) := by
        rintro (e | e)
        · exact c2 (.inl e)
        · rw [List.length_append] at e
          exact c2 (.inr (by omega))
      rw [if_neg c3]
      have c4 : ¬ ((a.length : Int) < (headOf a).1 + (lenOf (a.take (headOf a).1.toNat)).1) := fun e => c2 (.inr e)
      simp only [Prod.mk.injEq, Option.some.injEq] at h ⊢
      obtain ⟨rfl, rfl, rfl⟩ := h
      refine ⟨?_, ?_, rfl⟩
      · rw [List.drop_append_of_le_length (by omega), List.take_append_of_le_length (by rw [List.length_drop]; omega)]
      · rw [List.drop_append_of_le_length (by omega)]
theorem nextL_append_err {a q : List UInt8} {e : Int} (x : List UInt8) (h : nextL a = (none, q, e)) (he : e ≠ 0) : ∃ q', nextL (a ++ x) = (none, q', e) := by
  have hr := headOf_range a
  unfold nextL at h ⊢
  by_cases c1 : (headOf a).1 = 0 ∨ (headOf a).2 ≠ 0
  · rw [if_pos c1] at h
    simp only [Prod.mk.injEq, true_and] at h
    have hne : (headOf a).2 ≠ 0 := by rw [h.2]; exact he
    rw [headOf_append a x (.inr hne), if_pos c1]
    exact ⟨_, by rw [h.2]⟩
  · rw [if_neg c1] at h
    have hne : (headOf a).1 ≠ 0 := fun e => c1 (.inl e)
    rw [headOf_append a x (.inl hne), if_neg c1]
    have ht : (a ++ x).take (headOf a).1.toNat = a.take (headOf a).1.toNat := List.take_append_of_le_length (by omega)
    rw [ht]
    by_cases c2 : (lenOf (a.take (headOf a).1.toNat)).2 ≠ 0 ∨ (a.length : Int) < (headOf a).1 + (lenOf (a.take (headOf a).1.toNat)).1
    · rw [if_pos c2] at h
      simp only [Prod.mk.injEq, true_and] at h
      have hne : (lenOf (a.take (headOf a).1.toNat)).2 ≠ 0 := by rw [h.2]; exact he
      rw [if_pos (.inl hne)]
      exact ⟨_, by rw [h.2]⟩
    · rw [if_neg c2] at h
      cases h
theorem feedL_append : ∀ (n : Nat) (a x : List UInt8), a.length < n → feedL (a ++ x) = if (feedL a).2.2 ≠ 0 then feedL a else ((feedL a).1 ++ (feedL ((feedL a).2.1 ++ x)).1, (feedL ((feedL a).2.1 ++ x)).2.1, (feedL ((feedL a).2.1 ++ x)).2.2)
  | 0, _, _, h => absurd h (Nat.not_lt_zero _)
  | n + 1, a, x, h => by
    cases hn : nextL a with
    | mk o p =>
      obtain ⟨q, z⟩ := p
      cases o with
      | none =>
        by_cases hz : z = 0
        · subst hz
          have hf : feedL a = ([], a, 0) := by rw [feedL_none hn, if_neg (by simp)]
          rw [hf]
          simp
        · obtain ⟨q', hq⟩ := nextL_append_err x hn hz
          have hf : feedL a = ([], [], z) := by rw [feedL_none hn, if_pos hz]
          rw [hf, feedL_none hq, if_pos hz]
          simp [hz]
      | some b =>
        have hs := nextL_shorter hn
        have hx := nextL_append_some x hn
        rw [feedL_some hx, feedL_some hn, feedL_append n q x (by omega)]
        simp only
        by_cases hz : (feedL q).2.2 = 0
        · rw [if_neg (by simpa using hz), if_neg (by simpa using hz)]
          rfl
        · rw [if_pos hz, if_pos hz]
theorem feedL_nil : feedL [] = ([], [], 0) := by decide
/-- What comes of a state that a further piece is fed to. -/
def feedS (s : List (List UInt8) × List UInt8 × Int) (p : List UInt8) : List (List UInt8) × List UInt8 × Int :=
  if s.2.2 ≠ 0 then s else (s.1 ++ (feedL (s.2.1 ++ p)).1, (feedL (s.2.1 ++ p)).2.1, (feedL (s.2.1 ++ p)).2.2)
theorem feedS_of (a p : List UInt8) : feedS (feedL a) p = feedL (a ++ p) := by
  rw [feedL_append (a.length + 1) a p (by omega)]
  rfl
theorem feedL_len : ∀ (n : Nat) (a : List UInt8), a.length < n → (feedL a).2.1.length ≤ a.length ∧ (feedL a).1.length ≤ a.length ∧ ((feedL a).2.2 ≠ 0 → (feedL a).2.1 = [] ∧ ((feedL a).2.2 = 30 ∨ (feedL a).2.2 = 31))
  | 0, _, h => absurd h (Nat.not_lt_zero _)
  | n + 1, a, h => by
    cases hn : nextL a with
    | mk o p =>
      obtain ⟨q, z⟩ := p
      cases o with
      | none =>
        by_cases hz : z = 0
        · subst hz
          have hf : feedL a = ([], a, 0) := by rw [feedL_none hn, if_neg (by simp)]
          rw [hf]
          simp
        · have hf : feedL a = ([], [], z) := by rw [feedL_none hn, if_pos hz]
          rw [hf]
          refine ⟨by simp, by simp, fun _ => ⟨rfl, ?_⟩⟩
          show z = 30 ∨ z = 31
          unfold nextL at hn
          have h1 : (headOf a).2 = 0 ∨ (headOf a).2 = 30 := by unfold headOf; split <;> simp
          have h2 : ∀ l, (lenOf l).2 = 0 ∨ (lenOf l).2 = 30 ∨ (lenOf l).2 = 31 := by
            intro l; unfold lenOf; split
            · simp
            · split
              · simp
              · split <;> simp
          have h3 := h2 (a.take (headOf a).1.toNat)
          split at hn
          · simp only [Prod.mk.injEq, true_and] at hn
            omega
          · split at hn
            · simp only [Prod.mk.injEq, true_and] at hn
              omega
            · cases hn
      | some b =>
        have hs := nextL_shorter hn
        obtain ⟨i1, i2, i3⟩ := feedL_len n q (by omega)
        rw [feedL_some hn]
        refine ⟨by simp only; omega, by simp only [List.length_cons]; omega, i3⟩
theorem nextL_each {r b q : List UInt8} {z : Int} (h : nextL r = (some b, q, z)) : b.length ≤ r.length := by
  unfold nextL at h
  split at h
  · cases h
  · split at h
    · cases h
    · simp only [Prod.mk.injEq, Option.some.injEq] at h
      rw [← h.1, List.length_take, List.length_drop]
      omega
theorem feedL_each : ∀ (n : Nat) (a : List UInt8), a.length < n → ∀ l ∈ (feedL a).1, l.length ≤ a.length
  | 0, _, h => absurd h (Nat.not_lt_zero _)
  | n + 1, a, h => by
    cases hn : nextL a with
    | mk o p =>
      obtain ⟨q, z⟩ := p
      cases o with
      | none =>
        intro l hl
        rw [feedL_none hn] at hl
        split at hl <;> simp at hl
      | some b =>
        have hs := nextL_shorter hn
        intro l hl
        rw [feedL_some hn] at hl
        rcases List.mem_cons.1 hl with rfl | hl
        · exact nextL_each hn
        · have := feedL_each n q (by omega) l hl
          omega
/-! ### encoded bodies -/
theorem occ_head (T z : List UInt8) (sub : List UInt8) (c : UInt8) (hT : ∀ b ∈ T, b ≠ c) (j : Nat) (hj : j < T.length) : occAt (T ++ z) (c :: sub) j = false := by
  unfold occAt
  rw [List.drop_append_of_le_length (by omega), List.drop_eq_getElem_cons hj, List.cons_append, List.isPrefixOf_cons_cons]
  have : T[j] ≠ c := hT _ (List.getElem_mem hj)
  simp [Ne.symm this]
theorem index_at (T z sub : List UInt8) (c : UInt8) (hT : ∀ b ∈ T, b ≠ c) : index (T ++ (c :: sub) ++ z) (c :: sub) = (T.length : Int) := by
  refine index_first (by simp) ?_ (fun j hj => ?_)
  · unfold occAt
    rw [List.append_assoc, List.drop_append_of_le_length (Nat.le_refl _), List.drop_length, List.nil_append]
    exact List.isPrefixOf_iff_prefix.2 (List.prefix_append _ _)
  · rw [List.append_assoc]
    exact occ_head T _ sub c hT j hj
theorem index_no (T sub : List UInt8) (c : UInt8) (hT : ∀ b ∈ T, b ≠ c) : index T (c :: sub) = -1 := by
  refine index_none (fun j hj => ?_)
  by_cases h : j < T.length
  · have := occ_head T [] sub c hT j h
    rw [List.append_nil] at this
    exact this
  · unfold occAt
    rw [List.drop_eq_nil_of_le (by omega)]
    rfl
theorem decDigits_dig : ∀ (n m : Nat), m < n → (∀ b ∈ decDigits m, isDig b = true) ∧ decDigits m ≠ [] ∧ decV 0 (decDigits m) = m
  | 0, _, h => absurd h (Nat.not_lt_zero _)
  | n + 1, m, h => by
    have hd : ∀ k, k < 10 → isDig (UInt8.ofNat (48 + k)) = true ∧ (UInt8.ofNat (48 + k)).toNat - 48 = k := by decide
    rw [decDigits]
    by_cases h10 : m < 10
    · rw [dif_pos h10]
      refine ⟨?_, by simp, ?_⟩
      · intro b hb
        simp only [List.mem_singleton] at hb
        subst hb
        exact (hd m h10).1
      · rw [decV_cons, decV_nil, (hd m h10).2]; omega
    · rw [dif_neg h10]
      obtain ⟨i1, i2, i3⟩ := decDigits_dig n (m / 10) (by omega)
      refine ⟨?_, by simp, ?_⟩
      · intro b hb
        rcases List.mem_append.1 hb with hb | hb
        · exact i1 b hb
        · simp only [List.mem_singleton] at hb
          subst hb
          exact (hd (m % 10) (by omega)).1
      · have e : ∀ (l : List UInt8) (a : Nat) (m : List UInt8), decV a (l ++ m) = decV (decV a l) m := fun l a m => List.foldl_append
        rw [e, i3, decV_cons, decV_nil, (hd (m % 10) (by omega)).2]
        omega
theorem decDigits_len : ∀ (k m : Nat), m < 10 ^ (k + 1) → (decDigits m).length ≤ k + 1
  | 0, m, h => by
    rw [decDigits, dif_pos (by simpa using h)]
    simp
  | k + 1, m, h => by
    rw [decDigits]
    by_cases h10 : m < 10
    · rw [dif_pos h10]; simp
    · rw [dif_neg h10, List.length_append, List.length_singleton]
      have := decDigits_len k (m / 10) (by rw [Nat.pow_succ] at h; omega)
      omega
def preB : List UInt8 := [67, 111, 110, 116, 101, 110, 116, 45, 76, 101, 110, 103, 116, 104, 58, 32]
theorem headOfLen_eq (n : Nat) : headOfLen n = preB ++ decDigits n ++ ends := by
  unfold headOfLen
  rw [itoa, if_neg (by omega)]
  rfl
theorem pre_no13 : ∀ b ∈ preB, b ≠ 13 ∧ b ≠ 10 := by decide
theorem dig_no (b : UInt8) (h : isDig b = true) : b ≠ 13 ∧ b ≠ 10 ∧ b ≠ 32 ∧ b ≠ 9 ∧ b ≠ 58 := by
  have := isDig_iff h
  refine ⟨?_, ?_, ?_, ?_, ?_⟩ <;> rintro rfl <;> simp at this
theorem hasPrefix_no (a : UInt8) (l : List UInt8) (h : a ≠ 13) : hasPrefix (a :: l) crlf = false := by
  unfold hasPrefix
  rw [List.isPrefixOf_cons_cons]
  simp [Ne.symm h]
/-- A head that begins with no end of a line, its first empty line at its end. -/
theorem headOf_at (T z : List UInt8) (h0 : T ≠ []) (hT : hasPrefix (T ++ ends) crlf = false) (hi : ∀ y, index (T ++ ends ++ y) ends = (T.length : Int)) (hl : T.length + 4 ≤ 1024) : headOf (T ++ ends ++ z) = ((T.length : Int) + 4, 0) := by
  have ht : (T ++ ends ++ z).take 1024 = T ++ ends ++ z.take (1024 - (T.length + 4)) := by
    rw [List.take_append, List.take_of_length_le (by rw [List.length_append]; exact hl), List.length_append]
    rfl
  have hn : headN (T ++ ends ++ z.take (1024 - (T.length + 4))) = (T.length : Int) + 4 := by
    unfold headN
    have hp : hasPrefix (T ++ ends ++ z.take (1024 - (T.length + 4))) crlf = false := by
      unfold hasPrefix at hT ⊢
      rw [pre_append _ (by rw [List.length_append]; show 2 ≤ T.length + 4; omega)]
      exact hT
    rw [hp, hi, if_neg (by decide), if_pos (by omega)]
  unfold headOf
  rw [ht, hn, if_neg (by omega)]
theorem hasPrefix_end (T : List UInt8) (h0 : T ≠ []) (h : ∀ b ∈ T, b ≠ 13) : hasPrefix (T ++ ends) crlf = false := by
  cases T with
  | nil => exact absurd rfl h0
  | cons a t => exact hasPrefix_no a _ (h a (by simp))
theorem trimSuffix_end (T : List UInt8) : trimSuffix (T ++ ends) [13, 10, 13, 10] = T := by
  unfold trimSuffix
  have : hasSuffix (T ++ ends) [13, 10, 13, 10] = true := List.isSuffixOf_iff_suffix.2 (List.suffix_append T ends)
  rw [if_pos this, List.length_append]
  show (T ++ ends).take (T.length + 4 - 4) = T
  rw [show T.length + 4 - 4 = T.length by omega, List.take_left]
theorem containsAny_no : ∀ (l cs : List UInt8), (∀ b ∈ l, cs.contains b = false) → containsAny l cs = false := by
  intro l cs h
  have : indexAny l cs = -1 := by
    induction l with
    | nil => rfl
    | cons a t ih =>
      unfold indexAny
      rw [if_neg (by rw [h a (by simp)]; decide), ih (fun b hb => h b (by simp [hb]))]
      rfl
  unfold containsAny
  rw [this]
  rfl
theorem cut_at (T v : List UInt8) (hT : ∀ b ∈ T, b ≠ 58) : cut (T ++ 58 :: v) [58] = (T, v, true) := by
  have hi := index_at T v [] 58 hT
  have e : T ++ [58] ++ v = T ++ 58 :: v := by simp
  rw [e] at hi
  unfold cut
  rw [hi, if_pos (by omega)]
  simp only [Int.toNat_natCast, List.length_singleton, Prod.mk.injEq, and_true]
  refine ⟨List.take_left, ?_⟩
  rw [List.drop_append, List.drop_eq_nil_of_le (by omega), show T.length + 1 - T.length = 1 by omega]
  rfl
theorem dw_keep (p : UInt8 → Bool) (l : List UInt8) (h : ∀ b, l.head? = some b → p b = false) : l.dropWhile p = l := by
  cases l with
  | nil => rfl
  | cons a t => rw [List.dropWhile_cons, if_neg (by rw [h a rfl]; decide)]
theorem trim_sp (D : List UInt8) (hne : D ≠ []) (hD : ∀ b ∈ D, isDig b = true) (s : List UInt8) (hs : ∀ b ∈ s, b = 32 ∨ b = 9) : trimS (s ++ D) [32, 9] = D := by
  have hc : ∀ b, isDig b = true → ([32, 9] : List UInt8).contains b = false := by
    intro b hb
    obtain ⟨_, _, h1, h2, _⟩ := dig_no b hb
    simp [h1, h2]
  unfold trimS trimLeftS trimRightS
  have e1 : ((s ++ D).reverse.dropWhile (([32, 9] : List UInt8).contains ·)).reverse = s ++ D := by
    rw [dw_keep, List.reverse_reverse]
    intro b hb
    rw [List.reverse_append] at hb
    have : D.reverse ≠ [] := by simpa using hne
    obtain ⟨c, t, ht⟩ := List.exists_cons_of_ne_nil this
    rw [ht] at hb
    simp only [List.cons_append, List.head?_cons, Option.some.injEq] at hb
    subst hb
    exact hc c (hD c (List.mem_reverse.1 (by rw [ht]; simp)))
  rw [e1]
  clear e1
  induction s with
  | nil =>
    rw [List.nil_append, dw_keep]
    intro b hb
    exact hc b (hD b (List.mem_of_mem_head? hb))
  | cons a t ih =>
    rw [List.cons_append, List.dropWhile_cons, if_pos (by rcases hs a (by simp) with rfl | rfl <;> decide)]
    exact ih (fun b hb => hs b (by simp [hb]))
def lenCap : List UInt8 := [67, 111, 110, 116, 101, 110, 116, 45, 76, 101, 110, 103, 116, 104]
/-- A line that tells a length. -/
theorem lenStep_len (s : List UInt8) (hs : ∀ b ∈ s, b = 32 ∨ b = 9) (n : Nat) (hn : n < 1000000) (f : Int) (hf : f < 0) : lenStep f (lenCap ++ 58 :: (s ++ decDigits n)) = some (n : Int) := by
  obtain ⟨h1, h2, h3⟩ := decDigits_dig (n + 1) n (by omega)
  have hl := decDigits_len 5 n (by omega)
  have hnm : lenCap.map lowB = lenName := by decide
  have htr : trimS lenName lets = [] := by decide
  have hne : ¬ lenName = [] := by decide
  have hca : containsAny (s ++ decDigits n) [13, 10] = false := by
    refine containsAny_no _ _ (fun b hb => ?_)
    rcases List.mem_append.1 hb with hb | hb
    · rcases hs b hb with rfl | rfl <;> decide
    · obtain ⟨a1, a2, _⟩ := dig_no b (h1 b hb)
      simp [a1, a2]
  have hfl : fieldL (lenCap ++ 58 :: (s ++ decDigits n)) = (lenName, s ++ decDigits n, true) := by
    unfold fieldL
    rw [cut_at _ _ (by decide)]
    simp only [hnm, htr, hca]
    rfl
  have hnv : numV (s ++ decDigits n) = some n := by
    unfold numV
    rw [trim_sp _ h2 h1 s hs, if_neg, h3]
    rintro (e | e | e)
    · exact h2 e
    · omega
    · exact e (List.all_eq_true.2 h1)
  unfold lenStep
  rw [hfl]
  simp only [hnv]
  rw [if_neg (by decide), if_neg (by simp), if_neg (by omega)]
theorem splitC_one (T : List UInt8) (h : ∀ b ∈ T, b ≠ 13) : splitC T = [T] := splitC_end T (index_no T [10] 13 h)
theorem splitC_two (T U : List UInt8) (h : ∀ b ∈ T, b ≠ 13) : splitC (T ++ 13 :: 10 :: U) = T :: splitC U := by
  have hi := index_at T U [10] 13 h
  have e : T ++ [13, 10] ++ U = T ++ 13 :: 10 :: U := by simp
  rw [e] at hi
  have := (splitC_step _ T.length hi).2
  rw [this, List.take_left, List.drop_append, List.drop_eq_nil_of_le (by omega), show T.length + 2 - T.length = 2 by omega]
  rfl
theorem pre_split : preB = lenCap ++ 58 :: [32] := rfl
theorem head_no13 (n : Nat) : ∀ b ∈ preB ++ decDigits n, b ≠ 13 := by
  intro b hb
  rcases List.mem_append.1 hb with hb | hb
  · exact (pre_no13 b hb).1
  · exact (dig_no b ((decDigits_dig (n + 1) n (by omega)).1 b hb)).1
theorem lenOf_enc (n : Nat) (hn : n ≤ 65536) : lenOf (preB ++ decDigits n ++ ends) = ((n : Int), 0) := by
  unfold lenOf
  rw [trimSuffix_end, splitC_one _ (head_no13 n)]
  have e : preB ++ decDigits n = lenCap ++ 58 :: ([32] ++ decDigits n) := by rw [pre_split]; simp
  simp only [lenGo, e]
  rw [lenStep_len [32] (by simp) n (by omega) (-1) (by decide)]
  simp only
  rw [if_neg (by omega), if_neg (by omega)]
theorem headOf_enc (n : Nat) (z : List UInt8) (hn : n ≤ 65536) : headOf (preB ++ decDigits n ++ ends ++ z) = (((preB ++ decDigits n).length : Int) + 4, 0) := by
  have hl := decDigits_len 5 n (by omega)
  refine headOf_at (preB ++ decDigits n) z (by unfold preB; simp) (hasPrefix_end _ (by unfold preB; simp) (head_no13 n)) (fun y => index_at _ y _ 13 (head_no13 n)) ?_
  rw [List.length_append]
  show 16 + _ + 4 ≤ 1024
  omega
/-- The first message's bytes, whole, and what stands behind them. -/
theorem next_whole (T b x : List UInt8) (hh : ∀ z, headOf (T ++ ends ++ z) = ((T.length : Int) + 4, 0)) (hlen : lenOf (T ++ ends) = ((b.length : Int), 0)) : nextL (T ++ ends ++ b ++ x) = (some b, x, 0) := by
  unfold nextL
  have e : T ++ ends ++ b ++ x = T ++ ends ++ (b ++ x) := by simp
  rw [e, hh]
  have el : (T ++ ends).length = T.length + 4 := by rw [List.length_append]; rfl
  have et : (T ++ ends ++ (b ++ x)).take ((T.length : Int) + 4).toNat = T ++ ends := by
    rw [show ((T.length : Int) + 4).toNat = (T ++ ends).length by omega, List.take_left]
  simp only
  rw [et, hlen, if_neg (by omega)]
  simp only
  rw [if_neg (by rw [List.length_append, el, List.length_append]; omega)]
  have ed : (T ++ ends ++ (b ++ x)).drop ((T.length : Int) + 4).toNat = b ++ x := by
    rw [show ((T.length : Int) + 4).toNat = (T ++ ends).length by omega, List.drop_left]
  rw [ed]
  simp only [Int.toNat_natCast, List.take_left, Prod.mk.injEq, true_and, and_true]
  rw [← List.drop_drop, ed, List.drop_left]
theorem encL_eq (b : List UInt8) : encL b = preB ++ decDigits b.length ++ ends ++ b := by
  unfold encL
  rw [headOfLen_eq]
theorem next_enc (b x : List UInt8) (hb : b.length ≤ 65536) : nextL (encL b ++ x) = (some b, x, 0) := by
  rw [encL_eq]
  exact next_whole (preB ++ decDigits b.length) b x (fun z => headOf_enc b.length z hb) (lenOf_enc b.length hb)
def encsL (bs : List (List UInt8)) : List UInt8 := bs.flatMap encL
theorem feed_encs : ∀ (bs : List (List UInt8)) (x : List UInt8), (∀ b ∈ bs, b.length ≤ 65536) → feedL (encsL bs ++ x) = (bs ++ (feedL x).1, (feedL x).2.1, (feedL x).2.2)
  | [], x, _ => by simp [encsL]
  | b :: bs, x, h => by
    have e : encsL (b :: bs) ++ x = encL b ++ (encsL bs ++ x) := by unfold encsL; simp
    rw [e, feedL_some (next_enc b (encsL bs ++ x) (h b (by simp))), feed_encs bs x (fun c hc => h c (by simp [hc]))]
    rfl
/-- A front of a message is no message. -/
theorem next_front (b : List UInt8) (k : Nat) (hb : b.length ≤ 65536) (hk : k < (encL b).length) : nextL ((encL b).take k) = (none, (encL b).take k, 0) := by
  have hno := head_no13 b.length
  have hlD := decDigits_len 5 b.length (by omega)
  have hP : (preB ++ decDigits b.length).length ≤ 22 := by rw [List.length_append]; show 16 + _ ≤ 22; omega
  rw [encL_eq] at hk ⊢
  generalize hT : preB ++ decDigits b.length = T at *
  have hT0 : T ≠ [] := by rw [← hT]; unfold preB; simp
  by_cases h1 : k < T.length + 4
  · -- the head isn't whole
    have et : (T ++ ends ++ b).take k = (T ++ ends).take k := List.take_append_of_le_length (by rw [List.length_append]; show k ≤ T.length + 4; omega)
    rw [et]
    have hkl : ((T ++ ends).take k).length = k := by rw [List.length_take, List.length_append]; show min k (T.length + 4) = k; omega
    have hn : headN ((T ++ ends).take k) = 0 := by
      unfold headN
      have hp : hasPrefix ((T ++ ends).take k) crlf = false := by
        cases T with
        | nil => exact absurd rfl hT0
        | cons a t =>
          cases k with
          | zero => rfl
          | succ k => exact hasPrefix_no a _ (hno a (by simp))
      have hi : index ((T ++ ends).take k) ends = -1 := by
        refine index_none (fun j hj => ?_)
        by_cases hjr : j + 4 ≤ k
        · have h2 : occAt (T ++ ends) ends j = false := occ_head T ends [10, 13, 10] 13 hno j (by omega)
          have h3 := occAt_append (s := (T ++ ends).take k) (sub := ends) ((T ++ ends).drop k) (j := j) (by rw [hkl]; exact hjr)
          rw [List.take_append_drop] at h3
          rw [← h3]; exact h2
        · cases ho : occAt ((T ++ ends).take k) ends j with
          | false => rfl
          | true =>
            rcases occAt_room ho with hr | hr
            · rw [hkl] at hr
              have : ends.length = 4 := rfl
              omega
            · cases hr
      rw [hp, hi, if_neg (by decide), if_neg (by decide)]
    have hh : headOf ((T ++ ends).take k) = (0, 0) := by
      unfold headOf
      rw [if_neg (by rw [hkl]; omega), List.take_of_length_le (by rw [hkl]; omega), hn]
    unfold nextL
    rw [hh, if_pos (.inl rfl)]
  · -- the body isn't whole
    have el : (T ++ ends).length = T.length + 4 := by rw [List.length_append]; rfl
    have ek : (T ++ ends ++ b).take k = T ++ ends ++ b.take (k - (T.length + 4)) := by
      rw [List.take_append, List.take_of_length_le (by omega), el]
    have hkb : k - (T.length + 4) < b.length := by rw [List.length_append, el] at hk; omega
    rw [ek]
    have hh := headOf_enc b.length (b.take (k - (T.length + 4))) hb
    have hlen := lenOf_enc b.length hb
    rw [hT] at hh hlen
    unfold nextL
    rw [hh]
    have et : (T ++ ends ++ b.take (k - (T.length + 4))).take ((T.length : Int) + 4).toNat = T ++ ends := by
      rw [show ((T.length : Int) + 4).toNat = (T ++ ends).length by omega, List.take_left]
    simp only
    rw [et, hlen, if_neg (by omega)]
    simp only
    rw [if_pos (.inr (by rw [List.length_append, el, List.length_take]; omega))]
theorem feed_front (b : List UInt8) (k : Nat) (hb : b.length ≤ 65536) (hk : k < (encL b).length) : feedL ((encL b).take k) = ([], (encL b).take k, 0) := by
  rw [feedL_none (next_front b k hb hk), if_neg (by simp)]
/-! ### further fields -/
def letB (b : UInt8) : Prop := (97 ≤ b.toNat ∧ b.toNat ≤ 122) ∨ (65 ≤ b.toNat ∧ b.toNat ≤ 90) ∨ b.toNat = 45
theorem letB_no {b : UInt8} (h : letB b) : b ≠ 13 ∧ b ≠ 58 := by
  constructor <;> rintro rfl <;> simp [letB] at h
set_option maxRecDepth 100000 in
theorem letB_low {b : UInt8} (h : letB b) : lets.contains (lowB b) = true := by
  have hd : ∀ n : Nat, n < 256 → ((97 ≤ n ∧ n ≤ 122) ∨ (65 ≤ n ∧ n ≤ 90) ∨ n = 45) → lets.contains (lowB (UInt8.ofNat n)) = true := by decide
  have := hd b.toNat (UInt8.toNat_lt b) h
  simpa using this
/-- A line that tells another field. -/
theorem lenStep_other (nm v : List UInt8) (hne : nm ≠ []) (hnm : ∀ b ∈ nm, letB b) (hx : nm.map lowB ≠ lenName) (hv : ∀ b ∈ v, b ≠ 13 ∧ b ≠ 10) (f : Int) : lenStep f (nm ++ 58 :: v) = some f := by
  have htr : trimS (nm.map lowB) lets = [] := by
    rw [trim_nil]
    intro b hb
    obtain ⟨c, hc, rfl⟩ := List.mem_map.1 hb
    exact letB_low (hnm c hc)
  have hca : containsAny v [13, 10] = false := containsAny_no _ _ (fun b hb => by obtain ⟨a1, a2⟩ := hv b hb; simp [a1, a2])
  have hne2 : ¬ nm.map lowB = [] := by simpa using hne
  have hfl : fieldL (nm ++ 58 :: v) = (nm.map lowB, v, true) := by
    unfold fieldL
    rw [cut_at _ _ (fun b hb => (letB_no (hnm b hb)).2)]
    simp only [htr, hca, decide_eq_false hne2]
    rfl
  unfold lenStep
  rw [hfl]
  simp only
  rw [if_neg (by decide), if_pos hx]
theorem occ_two (T U z : List UInt8) (hT : ∀ b ∈ T, b ≠ 13) (hU0 : U ≠ []) (hU : ∀ b ∈ U, b ≠ 13) (j : Nat) (hj : j < (T ++ 13 :: 10 :: U).length) : occAt (T ++ 13 :: 10 :: U ++ z) ends j = false := by
  have hl : (T ++ 13 :: 10 :: U).length = T.length + (U.length + 2) := by simp
  rw [hl] at hj
  by_cases h1 : j < T.length
  · rw [List.append_assoc]
    exact occ_head T _ [10, 13, 10] 13 hT j h1
  · obtain ⟨i, rfl⟩ : ∃ i, j = T.length + i := ⟨j - T.length, by omega⟩
    unfold occAt
    rw [List.append_assoc, List.drop_append, List.drop_eq_nil_of_le (by omega), List.nil_append, show T.length + i - T.length = i by omega]
    obtain ⟨u, U', rfl⟩ := List.exists_cons_of_ne_nil hU0
    match i with
    | 0 =>
      have : u ≠ 13 := hU u (by simp)
      simp [ends, List.isPrefixOf, Ne.symm this]
    | 1 => simp [ends, List.isPrefixOf]
    | i + 2 =>
      have := occ_head (u :: U') z [10, 13, 10] 13 hU i (by simp only [List.length_cons] at hj ⊢; omega)
      unfold occAt at this
      simpa [List.drop, ends] using this
theorem index_two (T U y : List UInt8) (hT : ∀ b ∈ T, b ≠ 13) (hU0 : U ≠ []) (hU : ∀ b ∈ U, b ≠ 13) : index (T ++ 13 :: 10 :: U ++ ends ++ y) ends = ((T ++ 13 :: 10 :: U).length : Int) := by
  refine index_first (by simp) ?_ (fun j hj => ?_)
  · unfold occAt
    rw [List.append_assoc, List.drop_append_of_le_length (Nat.le_refl _), List.drop_length, List.nil_append]
    exact List.isPrefixOf_iff_prefix.2 (List.prefix_append _ _)
  · rw [List.append_assoc]
    exact occ_two T U _ hT hU0 hU j hj
/-- A head of two lines, one of which tells the body's length. -/
theorem feed_two (T U b : List UInt8) (hT0 : T ≠ []) (hT : ∀ b ∈ T, b ≠ 13) (hU0 : U ≠ []) (hU : ∀ b ∈ U, b ≠ 13) (hl : T.length + U.length ≤ 1000) (hb : b.length ≤ 65536)
    (hlen : (match lenStep (-1) T with | none => none | some g => lenStep g U) = some (b.length : Int)) : feedL (T ++ 13 :: 10 :: U ++ ends ++ b) = ([b], [], 0) := by
  have hlo : lenOf (T ++ 13 :: 10 :: U ++ ends) = ((b.length : Int), 0) := by
    unfold lenOf
    rw [trimSuffix_end, splitC_two _ _ hT, splitC_one _ hU]
    have e : lenGo (-1) [T, U] = some (b.length : Int) := by
      simp only [lenGo]
      cases h1 : lenStep (-1) T with
      | none => rw [h1] at hlen; cases hlen
      | some g =>
        rw [h1] at hlen
        simp only at hlen ⊢
        rw [hlen]
    rw [e]
    simp only
    rw [if_neg (by omega), if_neg (by omega)]
  have hh : ∀ z, headOf (T ++ 13 :: 10 :: U ++ ends ++ z) = (((T ++ 13 :: 10 :: U).length : Int) + 4, 0) := fun z => by
    refine headOf_at (T ++ 13 :: 10 :: U) z (by simp) ?_ (fun y => index_two T U y hT hU0 hU) (by simp; omega)
    obtain ⟨a, t, rfl⟩ := List.exists_cons_of_ne_nil hT0
    exact hasPrefix_no a _ (hT a (by simp))
  have hn := next_whole (T ++ 13 :: 10 :: U) b [] hh hlo
  rw [List.append_nil] at hn
  rw [feedL_some hn, feedL_nil]
end Go.Proofs.YtomebmjjgkcjiaaGreatDoor.G
