/-
  Plain facts: a text's lines and places, by its runes. No program in sight.
  Plain facts: what text.Offset tells, by a text's places.
-/
import Derived.Test.YtjffpcjbbehooaaDoorUtfTheory
import Derived.Test.YtjffpcjbbehooaaDoorSplit
import Derived.Test.YtjffpcjbbehooaaDoorTextOffset
section
namespace Go.Proofs.YtjffpcjbbehooaaDoor.G
open Go.Lib
/-- Runes, cut at each line feed. -/
def splitR : List Int → List (List Int)
  | [] => [[]]
  | r :: rs => if r = 10 then [] :: splitR rs else match splitR rs with
    | [] => [[r]]
    | h :: t => (r :: h) :: t
theorem splitR_cons (r : Int) (rs : List Int) : splitR (r :: rs) = if r = 10 then [] :: splitR rs else match splitR rs with
    | [] => [[r]]
    | h :: t => (r :: h) :: t := rfl
theorem splitR_ne : ∀ rs : List Int, splitR rs ≠ []
  | [] => by simp [splitR]
  | r :: rs => by
    rw [splitR_cons]
    split
    · simp
    · split <;> simp
theorem splitR_some (rs : List Int) : ∃ h t, splitR rs = h :: t := by
  cases e : splitR rs with
  | nil => exact absurd e (splitR_ne rs)
  | cons h t => exact ⟨h, t, rfl⟩
theorem splitL_front : ∀ (xs l : List UInt8), (10 : UInt8) ∉ xs → ∀ h t, splitL l = h :: t → splitL (xs ++ l) = (xs ++ h) :: t
  | [], l, _, h, t, e => e
  | x :: xs, l, hx, h, t, e => by
    have ih := splitL_front xs l (fun z => hx (List.mem_cons_of_mem _ z)) h t e
    have hne : ¬ x = 10 := fun z => hx (by rw [z]; exact List.mem_cons_self ..)
    rw [List.cons_append, splitL_cons, if_neg hne, ih]
    rfl
theorem encode_feed : encodeRune 10 = [10] := by decide
theorem encode_nofeed (r : Int) (h : okR r) (hr : r ≠ 10) : (10 : UInt8) ∉ encodeRune r := by
  obtain ⟨h0, h1, h2⟩ := h
  have key : ∀ z : Int, 0 ≤ z → z < 256 → z ≠ 10 → (10 : UInt8) ≠ z.toNat.toUInt8 := by
    intro z hz0 hz1 hz2 e
    have := toU8_toNat z ⟨hz0, hz1⟩
    rw [← e] at this
    exact hz2 (by rw [← this]; rfl)
  by_cases c1 : r ≤ 127
  · simp only [encodeRune, encodeRuneZ_one h0 c1, List.map_cons, List.map_nil, List.mem_singleton]
    exact key r h0 (by omega) hr
  by_cases c2 : r ≤ 2047
  · simp only [encodeRune, encodeRuneZ_two (r := r) (by omega) c2, List.map_cons, List.map_nil, List.mem_cons, List.not_mem_nil, or_false, not_or]
    exact ⟨key _ (by omega) (by omega) (by omega), key _ (by omega) (by omega) (by omega)⟩
  by_cases c3 : r ≤ 65535
  · simp only [encodeRune, encodeRuneZ_three (r := r) (by omega), List.map_cons, List.map_nil, List.mem_cons, List.not_mem_nil, or_false, not_or]
    exact ⟨key _ (by omega) (by omega) (by omega), key _ (by omega) (by omega) (by omega), key _ (by omega) (by omega) (by omega)⟩
  · simp only [encodeRune, encodeRuneZ_four (r := r) (by omega) h1, List.map_cons, List.map_nil, List.mem_cons, List.not_mem_nil, or_false, not_or]
    exact ⟨key _ (by omega) (by omega) (by omega), key _ (by omega) (by omega) (by omega), key _ (by omega) (by omega) (by omega), key _ (by omega) (by omega) (by omega)⟩
theorem splitL_enc : ∀ (rs : List Int), allR rs → splitL (enc rs) = (splitR rs).map enc
  | [], _ => rfl
  | r :: rs, h => by
    have ih := splitL_enc rs (allR_cons.1 h).2
    obtain ⟨hd, tl, e⟩ := splitR_some rs
    rw [e, List.map_cons] at ih
    rw [enc_cons, splitR_cons]
    by_cases c : r = 10
    · subst c
      rw [if_pos rfl, encode_feed, List.singleton_append, splitL_cons, if_pos rfl, ih, e]
      rfl
    · rw [if_neg c, e, splitL_front _ _ (encode_nofeed r (allR_cons.1 h).1 c) _ _ ih]
      simp only [List.map_cons, enc_cons]
/-- Every place of a text: its line, its unit, its byte. -/
def fronts : Nat → Nat → Nat → List Int → List ((Nat × Nat) × Nat)
  | c, u, o, [] => [((c, u), o)]
  | c, u, o, r :: rs => ((c, u), o) :: if r = 10 then fronts (c + 1) 0 (o + 1) rs else fronts c (u + (unitsR r).length) (o + (encodeRune r).length) rs
def restR : Nat → Nat → List (List Int) → List ((Nat × Nat) × Nat)
  | _, _, [] => []
  | c, o, h :: t => ((placesR o 0 h).map fun p => ((c, p.2), p.1)) ++ restR (c + 1) (o + (enc h).length + 1) t
theorem fronts_split : ∀ (rs : List Int) (c u o : Nat) (h : List Int) (t : List (List Int)), splitR rs = h :: t → fronts c u o rs = ((placesR o u h).map fun p => ((c, p.2), p.1)) ++ restR (c + 1) (o + (enc h).length + 1) t
  | [], c, u, o, h, t, e => by
    simp [splitR] at e
    obtain ⟨rfl, rfl⟩ := e
    simp [fronts, placesR, restR]
  | r :: rs, c, u, o, h, t, e => by
    obtain ⟨hd, tl, e2⟩ := splitR_some rs
    rw [splitR_cons] at e
    by_cases c10 : r = 10
    · rw [if_pos c10, e2] at e
      simp only [List.cons.injEq] at e
      obtain ⟨rfl, rfl⟩ := e
      have ih := fronts_split rs (c + 1) 0 (o + 1) hd tl e2
      simp only [fronts, if_pos c10, placesR, List.map_cons, List.map_nil, enc_nil, List.length_nil, Nat.add_zero, restR, ih, List.singleton_append]
    · rw [if_neg c10, e2] at e
      simp only [List.cons.injEq] at e
      obtain ⟨rfl, rfl⟩ := e
      have ih := fronts_split rs c (u + (unitsR r).length) (o + (encodeRune r).length) hd tl e2
      simp only [fronts, if_neg c10, placesR, List.map_cons, ih, enc_cons, List.length_append, List.cons_append]
      rw [Nat.add_assoc o]
theorem fronts_all (rs : List Int) : fronts 0 0 0 rs = restR 0 0 (splitR rs) := by
  obtain ⟨h, t, e⟩ := splitR_some rs
  rw [fronts_split rs 0 0 0 h t e, e]
  rfl
def lexLt (p q : Nat × Nat) : Prop := p.1 < q.1 ∨ (p.1 = q.1 ∧ p.2 < q.2)
theorem fronts_ge : ∀ (rs : List Int) (c u o : Nat) (x : (Nat × Nat) × Nat), x ∈ fronts c u o rs → ((c, u) = x.1 ∧ o = x.2) ∨ (lexLt (c, u) x.1 ∧ o < x.2)
  | [], c, u, o, x, h => by simp [fronts] at h; subst h; exact .inl ⟨rfl, rfl⟩
  | r :: rs, c, u, o, x, h => by
    simp only [fronts, List.mem_cons] at h
    rcases h with rfl | h
    · exact .inl ⟨rfl, rfl⟩
    · right
      split at h
      · rcases fronts_ge rs _ _ _ x h with ⟨h1, h2⟩ | ⟨h1, h2⟩
        · rw [← h1, ← h2]; exact ⟨.inl (by simp), by omega⟩
        · unfold lexLt at h1 ⊢; simp only at h1 ⊢; exact ⟨by omega, by omega⟩
      · have hu := (unitsR_le r).1
        have he := (encode_length r).1
        rcases fronts_ge rs _ _ _ x h with ⟨h1, h2⟩ | ⟨h1, h2⟩
        · rw [← h1, ← h2]; exact ⟨.inr ⟨rfl, by simp only; omega⟩, by omega⟩
        · unfold lexLt at h1 ⊢; simp only at h1 ⊢; exact ⟨by omega, by omega⟩
/-- Places rise in both orders. -/
theorem fronts_rise : ∀ (rs : List Int) (c u o : Nat) (x y : (Nat × Nat) × Nat), x ∈ fronts c u o rs → y ∈ fronts c u o rs → x = y ∨ (lexLt x.1 y.1 ∧ x.2 < y.2) ∨ (lexLt y.1 x.1 ∧ y.2 < x.2)
  | [], c, u, o, x, y, hx, hy => by simp [fronts] at hx hy; subst hx; subst hy; exact .inl rfl
  | r :: rs, c, u, o, x, y, hx, hy => by
    have gx := fronts_ge (r :: rs) c u o x hx
    have gy := fronts_ge (r :: rs) c u o y hy
    simp only [fronts, List.mem_cons] at hx hy
    rcases hx with rfl | hx <;> rcases hy with rfl | hy
    · exact .inl rfl
    · rcases gy with ⟨h1, h2⟩ | h
      · exact .inl (Prod.ext h1 h2)
      · exact .inr (.inl h)
    · rcases gx with ⟨h1, h2⟩ | h
      · exact .inl (Prod.ext h1.symm h2.symm)
      · exact .inr (.inr h)
    · split at hx
      · rename_i h10; rw [if_pos h10] at hy; exact fronts_rise rs _ _ _ x y hx hy
      · rename_i h10; rw [if_neg h10] at hy; exact fronts_rise rs _ _ _ x y hx hy
/-- The place behind runes. -/
def stepA : Nat × Nat → List Int → Nat × Nat
  | p, [] => p
  | p, r :: rs => stepA (if r = 10 then (p.1 + 1, 0) else (p.1, p.2 + (unitsR r).length)) rs
theorem stepA_append : ∀ (xs ys : List Int) (p : Nat × Nat), stepA p (xs ++ ys) = stepA (stepA p xs) ys
  | [], ys, p => rfl
  | x :: xs, ys, p => by simp only [List.cons_append, stepA, stepA_append xs ys]
theorem fronts_mem : ∀ (rs : List Int) (c u o : Nat) (x : (Nat × Nat) × Nat), x ∈ fronts c u o rs ↔ ∃ pre post, rs = pre ++ post ∧ x = (stepA (c, u) pre, o + (enc pre).length)
  | [], c, u, o, x => by
    simp only [fronts, List.mem_singleton]
    constructor
    · rintro rfl
      exact ⟨[], [], rfl, rfl⟩
    · rintro ⟨pre, post, h, rfl⟩
      obtain ⟨rfl, rfl⟩ := List.nil_eq_append_iff.1 h
      rfl
  | r :: rs, c, u, o, x => by
    simp only [fronts, List.mem_cons]
    constructor
    · rintro (rfl | h)
      · exact ⟨[], r :: rs, rfl, rfl⟩
      · split at h
        · rename_i h10
          obtain ⟨pre, post, rfl, rfl⟩ := (fronts_mem rs _ _ _ x).1 h
          refine ⟨r :: pre, post, rfl, ?_⟩
          simp only [stepA, if_pos h10, enc_cons, List.length_append]
          subst h10
          rw [encode_feed, List.length_singleton, Nat.add_assoc]
        · rename_i h10
          obtain ⟨pre, post, rfl, rfl⟩ := (fronts_mem rs _ _ _ x).1 h
          refine ⟨r :: pre, post, rfl, ?_⟩
          simp only [stepA, if_neg h10, enc_cons, List.length_append]
          rw [Nat.add_assoc]
    · rintro ⟨pre, post, h, rfl⟩
      cases pre with
      | nil => exact .inl rfl
      | cons y pre =>
        rw [List.cons_append, List.cons.injEq] at h
        obtain ⟨rfl, rfl⟩ := h
        right
        by_cases h10 : r = 10
        · rw [if_pos h10]
          refine (fronts_mem _ _ _ _ _).2 ⟨pre, post, rfl, ?_⟩
          simp only [stepA, if_pos h10, enc_cons, List.length_append]
          subst h10
          rw [encode_feed, List.length_singleton, Nat.add_assoc]
        · rw [if_neg h10]
          refine (fronts_mem _ _ _ _ _).2 ⟨pre, post, rfl, ?_⟩
          simp only [stepA, if_neg h10, enc_cons, List.length_append]
          rw [Nat.add_assoc]
theorem placesR_shift : ∀ (rs : List Int) (a u o : Nat), placesR (o + a) u rs = (placesR a u rs).map fun p => (o + p.1, p.2)
  | [], a, u, o => rfl
  | r :: rs, a, u, o => by simp only [placesR, List.map_cons, Nat.add_assoc, placesR_shift rs]
theorem linesAt_at : ∀ (xs : List ByteArray) (o a st : Nat) (x : ByteArray), (linesAt o xs)[a]? = some (st, x) → ∀ {y : ByteArray}, xs[a]? = some y → x = y
  | [], o, a, st, x, h, y, h2 => by simp at h2
  | z :: xs, o, 0, st, x, h, y, h2 => by
    simp only [linesAt, List.getElem?_cons_zero, Option.some.injEq, Prod.mk.injEq] at h h2
    rw [← h.2, h2]
  | z :: xs, o, a + 1, st, x, h, y, h2 => by
    simp only [linesAt, List.getElem?_cons_succ] at h h2
    exact linesAt_at xs _ a st x h h2
theorem restR_ge : ∀ (ls : List (List Int)) (c o : Nat) (x : (Nat × Nat) × Nat), x ∈ restR c o ls → c ≤ x.1.1
  | [], c, o, x, h => by simp [restR] at h
  | l :: ls, c, o, x, h => by
    simp only [restR, List.mem_append, List.mem_map] at h
    rcases h with ⟨p, _, rfl⟩ | h
    · exact Nat.le_refl _
    · have := restR_ge ls _ _ x h
      omega
theorem line_mem : ∀ (ls : List (List Int)) (c o a b n : Nat), ((c + a, b), n) ∈ restR c o ls ↔ ∃ R st, ls[a]? = some R ∧ (linesAt o (ls.map fun R => ofL (enc R)))[a]? = some (st, ofL (enc R)) ∧ ∃ p ∈ placesR 0 0 R, p.2 = b ∧ n = st + p.1
  | [], c, o, a, b, n => by simp [restR]
  | l :: ls, c, o, 0, b, n => by
    simp only [restR, List.mem_append, List.mem_map, Nat.add_zero, List.getElem?_cons_zero, List.map_cons, linesAt, Option.some.injEq, Prod.mk.injEq]
    constructor
    · rintro (⟨p, hp, h⟩ | h)
      · obtain ⟨⟨_, h1⟩, h2⟩ := h
        have := placesR_shift l 0 0 o
        rw [Nat.add_zero] at this
        rw [this, List.mem_map] at hp
        obtain ⟨q, hq, rfl⟩ := hp
        exact ⟨l, o, rfl, by simp, q, hq, h1, h2.symm⟩
      · have := restR_ge ls _ _ _ h
        simp only at this
        omega
    · rintro ⟨R, st, rfl, h0, q, hq, h1, h2⟩
      obtain rfl : o = st := by simpa using h0
      left
      refine ⟨(o + q.1, q.2), ?_, by simp [h1, h2]⟩
      have := placesR_shift l 0 0 o
      rw [Nat.add_zero] at this
      rw [this, List.mem_map]
      exact ⟨q, hq, rfl⟩
  | l :: ls, c, o, a + 1, b, n => by
    have ih := line_mem ls (c + 1) (o + (enc l).length + 1) a b n
    simp only [restR, List.mem_append, List.mem_map, List.getElem?_cons_succ, List.map_cons, linesAt]
    rw [show c + (a + 1) = c + 1 + a by omega, ofL_size, show o + ((enc l).length + 1) = o + (enc l).length + 1 by omega, ← ih]
    constructor
    · rintro (⟨p, _, h⟩ | h)
      · simp only [Prod.mk.injEq] at h
        omega
      · exact h
    · exact .inr
end Go.Proofs.YtjffpcjbbehooaaDoor.G
end
section
namespace Go.Proofs.YtjffpcjbbehooaaDoor.G
open Go.Lib
theorem splitR_allR : ∀ (rs : List Int), allR rs → ∀ R ∈ splitR rs, allR R
  | [], _, R, hR => by simp [splitR] at hR; subst hR; exact allR_nil
  | r :: rs, h, R, hR => by
    have ih := splitR_allR rs (allR_cons.1 h).2
    obtain ⟨hd, tl, e⟩ := splitR_some rs
    rw [splitR_cons] at hR
    rw [e] at ih hR
    split at hR
    · rcases List.mem_cons.1 hR with rfl | hR
      · exact allR_nil
      · exact ih R hR
    · simp only [List.mem_cons] at hR
      rcases hR with rfl | hR
      · exact allR_cons.2 ⟨(allR_cons.1 h).1, ih hd (List.mem_cons_self ..)⟩
      · exact ih R (List.mem_cons_of_mem _ hR)
theorem splitB_enc (rs : List Int) (h : allR rs) (s : ByteArray) (hs : s.data.toList = enc rs) : splitB s = (splitR rs).map fun R => ofL (enc R) := by
  unfold splitB
  rw [hs, splitL_enc rs h, List.map_map]
  rfl
theorem uOff_enc (R : List Int) (h : allR R) (b : Int) : (∃ p ∈ placesR 0 0 R, (p.2 : Int) = b ∧ uOff (ofL (enc R)) b = ((p.1 : Int), 0)) ∨ ((∀ p ∈ placesR 0 0 R, (p.2 : Int) ≠ b) ∧ uOff (ofL (enc R)) b = (0, 70)) := by
  have hv : validD (enc R) = true := valid_enc' R h
  have hp : places (enc R) = placesR 0 0 R := places_enc R h 0 0
  have hu : uOff (ofL (enc R)) b = offsetOf (enc R) b := by
    unfold uOff
    rw [ofL_data, if_pos hv]
  rw [hu, ← hp]
  exact offsetOf_some (enc R) b
/-- What text.Offset tells of a text. -/
theorem lineOff_cases (rs : List Int) (h : allR rs) (s : ByteArray) (hs : s.data.toList = enc rs) (a b : Int) :
    (∃ a' b' n : Nat, a = a' ∧ b = b' ∧ ((a', b'), n) ∈ fronts 0 0 0 rs ∧ lineOff (linesAt 0 (splitB s)) a b = ((n : Int), 0)) ∨
    ((∀ a' b' n : Nat, a = a' → b = b' → ((a', b'), n) ∉ fronts 0 0 0 rs) ∧ lineOff (linesAt 0 (splitB s)) a b = (0, 70)) := by
  rw [splitB_enc rs h s hs, fronts_all]
  by_cases ha : 0 ≤ a
  case neg =>
    right
    refine ⟨fun a' b' n e _ => absurd e (by omega), ?_⟩
    unfold lineOff
    rw [if_neg ha]
  obtain ⟨a', rfl⟩ : ∃ a' : Nat, a = a' := ⟨a.toNat, by omega⟩
  cases hR : (splitR rs)[a']? with
  | none =>
    right
    have hlen : (splitR rs).length ≤ a' := List.getElem?_eq_none_iff.1 hR
    refine ⟨fun a2 b2 n e _ hm => ?_, ?_⟩
    · obtain rfl : a' = a2 := by omega
      have := (line_mem (splitR rs) 0 0 a' b2 n).1 (by rwa [Nat.zero_add])
      obtain ⟨R, st, h1, _⟩ := this
      rw [hR] at h1
      cases h1
    · exact lineOff_none _ _ _ (by rw [linesAt_length, List.length_map]; omega)
  | some R =>
    have hlt : a' < (splitR rs).length := (List.getElem?_eq_some_iff.1 hR).1
    have hRa : allR R := splitR_allR rs h R (List.mem_of_getElem? hR)
    obtain ⟨q, hq⟩ : ∃ q, (linesAt 0 ((splitR rs).map fun R => ofL (enc R)))[a']? = some q := ⟨_, List.getElem?_eq_getElem (by rw [linesAt_length, List.length_map]; exact hlt)⟩
    obtain ⟨st, x⟩ := q
    have hx : x = ofL (enc R) := linesAt_at _ _ _ _ _ hq (by rw [List.getElem?_map, hR]; rfl)
    subst hx
    have hlo : ∀ b, lineOff (linesAt 0 ((splitR rs).map fun R => ofL (enc R))) (a' : Int) b = if (uOff (ofL (enc R)) b).2 = 0 then ((st : Int) + (uOff (ofL (enc R)) b).1, 0) else (0, 70) := by
      intro b
      unfold lineOff
      rw [if_pos (by omega), Int.toNat_natCast, hq]
    rw [hlo]
    rcases uOff_enc R hRa b with ⟨p, hp, hpb, he⟩ | ⟨hno, he⟩
    · left
      rw [he]
      refine ⟨a', p.2, st + p.1, rfl, hpb.symm, ?_, by simp⟩
      have := (line_mem (splitR rs) 0 0 a' p.2 (st + p.1)).2 ⟨R, st, hR, hq, p, hp, rfl, rfl⟩
      rwa [Nat.zero_add] at this
    · right
      rw [he]
      refine ⟨fun a2 b2 n e e2 hm => ?_, by simp⟩
      obtain rfl : a' = a2 := by omega
      obtain ⟨R2, st2, h1, _, p, hp, hpb, _⟩ := (line_mem (splitR rs) 0 0 a' b2 n).1 (by rwa [Nat.zero_add])
      rw [hR] at h1
      obtain rfl := Option.some.inj h1
      exact hno p hp (by omega)
end Go.Proofs.YtjffpcjbbehooaaDoor.G
end
