/-
  Plain laws: what the document's at and head, as printed, tell; a head's lines.
-/
import Derived.Test.YtomebmjjgkcjiaaGreatDoorFrameRefP
set_option linter.unusedVariables false
namespace Go.Proofs.YtomebmjjgkcjiaaGreatDoor.G
open Go.RowKit Go.Proofs.YtomebmjjgkcjiaaGreatDoorW.PrintWords Go.Lib
theorem at_f (l : List UInt8) (i : Nat) (S : ByteArray) (s : List UInt8) (hS : S.data.toList = s) (hs : s ≠ []) (hs9 : s.length < 1000) (hm : l.length < 140737488355328) (hi : i ≤ l.length) : PRf.parlanceref03_at.f (ints l) i S = some (occAt l s i) := by
  have hz : S.size = s.length := by rw [Lib.size_eq, hS]
  have hst : S.toList = s := by rw [Lib.toList_data, hS]
  have hw : wrap64 ((i : Int) + (S.size : Int)) = ((i + s.length : Nat) : Int) := by rw [hz]; unfold wrap64; omega
  unfold PRf.parlanceref03_at.f
  rw [hw, ints_length, hst]
  by_cases h : i + s.length ≤ l.length
  · rw [if_pos (by omega), if_pos (by omega), if_pos (by omega), Int.toNat_natCast, Int.toNat_natCast, ← ints_take, ← ints_drop, strOfNums_toList, bytes_ints, occAt_iff_take l s i h]
    have e : (l.take (i + s.length)).drop i = (l.drop i).take s.length := by rw [List.drop_take]; congr 1; omega
    rw [e]
  · rw [if_neg (by omega)]
    cases ho : occAt l s i with
    | false => rfl
    | true =>
      rcases occAt_room ho with hr | hr
      · omega
      · exact absurd hr hs
theorem index_take (l sub : List UInt8) (m : Nat) (hs : sub ≠ []) : index (l.take m) sub = if 0 ≤ index l sub ∧ index l sub + sub.length ≤ m then index l sub else -1 := by
  have hocc : ∀ j, j + sub.length ≤ (l.take m).length → occAt l sub j = occAt (l.take m) sub j := fun j hj => by
    have := occAt_append (s := l.take m) (l.drop m) hj
    rw [List.take_append_drop] at this
    exact this
  have hlm : (l.take m).length ≤ m ∧ (l.take m).length ≤ l.length := by rw [List.length_take]; omega
  rcases index_spec l sub with ⟨h1, h2⟩ | ⟨i, h1, h2, h3, h4⟩
  · rw [h1, if_neg (by omega)]
    refine index_none (fun j hj => ?_)
    cases ho : occAt (l.take m) sub j with
    | false => rfl
    | true =>
      rcases occAt_room ho with hr | hr
      · rw [← hocc j hr, h2 j (by omega)] at ho; cases ho
      · exact absurd hr hs
  · have hr : i + sub.length ≤ l.length := by
      rcases occAt_room h3 with hr | hr
      · exact hr
      · exact absurd hr hs
    rw [h1]
    by_cases hm : i + sub.length ≤ m
    · rw [if_pos (by omega)]
      have hl : i + sub.length ≤ (l.take m).length := by rw [List.length_take]; omega
      refine index_first (by omega) (by rw [← hocc i hl]; exact h3) (fun j hj => ?_)
      rw [← hocc j (by omega)]
      exact h4 j hj
    · rw [if_neg (by omega)]
      refine index_none (fun j hj => ?_)
      cases ho : occAt (l.take m) sub j with
      | false => rfl
      | true =>
        rcases occAt_room ho with hr | hr
        · have h5 : j < i := by omega
          rw [← hocc j hr, h4 j h5] at ho; cases ho
        · exact absurd hr hs
def headR (len : Nat) (n : Int) : Int := if 0 < n ∧ n ≤ 1024 then n else if 1024 ≤ len then -1 else 0
theorem head_done (l : List UInt8) (n : Int) (i : Nat) (h : n ≠ 0 ∨ l.length ≤ i) (hn : 0 ≤ n) : Ev (fun k => PRf.parlanceref03_head.l0 k (ints l) n i) (headR l.length n) := by
  refine ev_step (h := fun k => PRf.parlanceref03_head.j2 k (ints l) n i false) (fun k => ?_) ?_
  · rw [PRf.parlanceref03_head.l0]
    by_cases h0 : n = 0
    · rw [if_pos h0, ints_length, decide_eq_false (by omega)]
    · rw [if_neg h0]
  · unfold headR
    by_cases h0 : 0 < n
    · by_cases h1 : n ≤ 1024
      · rw [if_pos ⟨h0, h1⟩]
        refine ev_step (h := fun k => PRf.parlanceref03_head.j3 k (ints l) n true) (fun k => ?_) (ev_stop (fun k => ?_))
        · rw [PRf.parlanceref03_head.j2, if_neg (by decide), if_pos h0, decide_eq_true h1]
        · rw [PRf.parlanceref03_head.j3, if_pos rfl]
      · rw [if_neg (fun e => h1 e.2)]
        refine ev_step (h := fun k => PRf.parlanceref03_head.j3 k (ints l) n false) (fun k => ?_) (ev_stop (fun k => ?_))
        · rw [PRf.parlanceref03_head.j2, if_neg (by decide), if_pos h0, decide_eq_false h1]
        · rw [PRf.parlanceref03_head.j3, if_neg (by decide), ints_length]
          by_cases h2 : 1024 ≤ l.length
          · rw [if_pos (by omega), if_pos h2]
          · rw [if_neg (by omega), if_neg h2]
    · rw [if_neg (fun e => h0 e.1)]
      refine ev_step (h := fun k => PRf.parlanceref03_head.j3 k (ints l) n false) (fun k => ?_) (ev_stop (fun k => ?_))
      · rw [PRf.parlanceref03_head.j2, if_neg (by decide), if_neg (by omega)]
      · rw [PRf.parlanceref03_head.j3, if_neg (by decide), ints_length]
        by_cases h2 : 1024 ≤ l.length
        · rw [if_pos (by omega), if_pos h2]
        · rw [if_neg (by omega), if_neg h2]
theorem head_seek (l : List UInt8) (hm : l.length < 140737488355000) : ∀ (d i : Nat), l.length - i = d → i ≤ l.length → (∀ j, j < i → occAt l ends j = false) → Ev (fun k => PRf.parlanceref03_head.l0 k (ints l) 0 i) (headR l.length (if 0 ≤ index l ends then index l ends + 4 else 0))
  | 0, i, hd, hi, hno => by
    have hx : index l ends = -1 := by
      refine index_none (fun j hj => ?_)
      by_cases h : j < i
      · exact hno j h
      · unfold occAt
        rw [List.drop_eq_nil_of_le (by omega)]
        rfl
    rw [hx, if_neg (by decide)]
    exact head_done l 0 i (.inr (by omega)) (by decide)
  | d + 1, i, hd, hi, hno => by
    have hlt : i < l.length := by omega
    have e2 : wrap64 ((i : Int) + 1) = ((i + 1 : Nat) : Int) := by unfold wrap64; omega
    have e4 : wrap64 ((i : Int) + 4) = (i : Int) + 4 := by unfold wrap64; omega
    have hat := at_f l i (⟨#[13, 10, 13, 10]⟩ : ByteArray) ends rfl (by decide) (by decide) (by omega) hi
    refine ev_step (h := fun k => PRf.parlanceref03_head.j2 k (ints l) 0 i true) (fun k => ?_) ?_
    · rw [PRf.parlanceref03_head.l0, if_pos rfl, ints_length, decide_eq_true (by omega)]
    · cases ho : occAt l ends i with
      | true =>
        have hx : index l ends = (i : Int) := index_first (by omega) ho hno
        rw [hx, if_pos (by omega)]
        refine ev_step (fun k => ?_) (head_done l ((i : Int) + 4) (i + 1) (.inl (by omega)) (by omega))
        rw [PRf.parlanceref03_head.j2, if_pos rfl, hat, ho, Option.bind_some, if_pos rfl, e2, e4]
      | false =>
        refine ev_step (fun k => ?_) (head_seek l hm d (i + 1) (by omega) (by omega) (fun j hj => by
          by_cases h : j = i
          · subst h; exact ho
          · exact hno j (by omega)))
        rw [PRf.parlanceref03_head.j2, if_pos rfl, hat, ho, Option.bind_some, if_neg (by decide), e2]
def headV (l : List UInt8) : Int := if (headOf l).2 ≠ 0 then -1 else (headOf l).1
theorem head_ev (l : List UInt8) (hm : l.length < 140737488355000) : Ev (fun k => PRf.parlanceref03_head.f k (ints l)) (headV l) := by
  have hat := at_f l 0 (⟨#[13, 10]⟩ : ByteArray) crlf rfl (by decide) (by decide) (by omega) (Nat.zero_le _)
  have hpre : occAt l crlf 0 = hasPrefix l crlf := by unfold occAt hasPrefix; rw [List.drop_zero]
  have hpt : hasPrefix (l.take 1024) crlf = hasPrefix l crlf := by
    unfold hasPrefix
    by_cases h : 2 ≤ l.length
    · have := pre_append (sub := crlf) (a := l.take 1024) (l.drop 1024) (by rw [List.length_take]; show 2 ≤ _; omega)
      rw [List.take_append_drop] at this
      exact this.symm
    · rw [List.take_of_length_le (by omega)]
  have hit := index_take l ends 1024 (by decide)
  have h4 : (ends.length : Int) = 4 := rfl
  rw [h4] at hit
  have key : headV l = headR l.length (if hasPrefix l crlf = true then 2 else if 0 ≤ index l ends then index l ends + 4 else 0) := by
    have hg := index_ge l ends
    have hroom := index_room l ends
    rw [h4] at hroom
    have hN : headN (l.take 1024) = if hasPrefix l crlf = true then 2 else if 0 ≤ index l ends ∧ index l ends + 4 ≤ (1024 : Nat) then index l ends + 4 else 0 := by
      unfold headN
      rw [hpt, hit]
      by_cases hp : hasPrefix l crlf = true
      · rw [if_pos hp, if_pos hp]
      · rw [if_neg hp, if_neg hp]
        by_cases c : 0 ≤ index l ends ∧ index l ends + 4 ≤ (1024 : Nat)
        · rw [if_pos c, if_pos c.1, if_pos c]
        · rw [if_neg c, if_neg (by decide), if_neg c]
    unfold headV headOf headR
    rw [hN]
    generalize index l ends = x at *
    by_cases hp : hasPrefix l crlf = true
    · rw [if_pos hp, if_pos hp, if_neg (show ¬ ((2 : Int) = 0 ∧ 1024 ≤ l.length) by omega)]
      simp
    · rw [if_neg hp, if_neg hp]
      by_cases c : 0 ≤ x ∧ x + 4 ≤ (1024 : Nat)
      · rw [if_pos c, if_pos c.1, if_neg (show ¬ (x + 4 = 0 ∧ 1024 ≤ l.length) by omega), if_neg (by simp), if_pos (by omega)]
      · rw [if_neg c]
        by_cases hl : 1024 ≤ l.length
        · rw [if_pos (show (0 : Int) = 0 ∧ 1024 ≤ l.length from ⟨rfl, hl⟩), if_pos (show ((0 : Int), (30 : Int)).2 ≠ 0 by decide)]
          by_cases h0 : 0 ≤ x
          · rw [if_pos h0, if_neg (by omega), if_pos hl]
          · rw [if_neg h0, if_neg (by omega), if_pos hl]
        · rw [if_neg (show ¬ ((0 : Int) = 0 ∧ 1024 ≤ l.length) by omega), if_neg (show ¬ ((0 : Int), (0 : Int)).2 ≠ 0 by decide)]
          by_cases h0 : 0 ≤ x
          · have := hroom h0
            omega
          · rw [if_neg h0, if_neg (by omega), if_neg hl]
  rw [key]
  by_cases hp : hasPrefix l crlf = true
  · rw [if_pos hp]
    obtain ⟨K, hK⟩ := head_done l 2 0 (.inl (by decide)) (by decide)
    refine ⟨K + 1, fun k hk => ?_⟩
    obtain ⟨m, rfl⟩ : ∃ m, k = m + 1 := ⟨k - 1, by omega⟩
    show PRf.parlanceref03_head.f (m + 1) (ints l) = _
    unfold PRf.parlanceref03_head.f
    have h0 : PRf.parlanceref03_at.f (ints l) 0 (⟨#[13, 10]⟩ : ByteArray) = some true := by rw [← hp, ← hpre]; exact hat
    rw [h0, Option.bind_some, if_pos rfl, PRf.parlanceref03_head.j0]
    exact hK m (by omega)
  · rw [if_neg hp]
    obtain ⟨K, hK⟩ := head_seek l hm l.length 0 rfl (Nat.zero_le _) (fun j hj => absurd hj (Nat.not_lt_zero _))
    refine ⟨K + 1, fun k hk => ?_⟩
    obtain ⟨m, rfl⟩ : ∃ m, k = m + 1 := ⟨k - 1, by omega⟩
    show PRf.parlanceref03_head.f (m + 1) (ints l) = _
    unfold PRf.parlanceref03_head.f
    have hp2 : hasPrefix l crlf = false := by simpa using hp
    have h0 : PRf.parlanceref03_at.f (ints l) 0 (⟨#[13, 10]⟩ : ByteArray) = some false := by rw [← hp2, ← hpre]; exact hat
    rw [h0, Option.bind_some, if_neg (by decide), PRf.parlanceref03_head.j0]
    exact hK m (by omega)
/-! ### a head's lines -/
inductive Lines : List (List UInt8) → List UInt8 → Prop
  | nil : Lines [] []
  | cons (t : List UInt8) (ts : List (List UInt8)) (R : List UInt8) (h : Lines ts R) (hi : index (t ++ crlf ++ R) crlf = (t.length : Int)) : Lines (t :: ts) (t ++ crlf ++ R)
theorem lines_of : ∀ (n : Nat) (T : List UInt8), T.length < n → Lines (splitC T) (T ++ crlf)
  | 0, _, h => absurd h (Nat.not_lt_zero _)
  | n + 1, T, h => by
    rcases index_spec T crlf with ⟨h1, h2⟩ | ⟨i, h1, h2, h3, h4⟩
    · rw [splitC_end T h1]
      have := Lines.cons T [] [] Lines.nil (by
        rw [List.append_nil]
        refine index_first (by simp) ?_ (fun j hj => ?_)
        · unfold occAt
          rw [List.drop_left]
          rfl
        · by_cases hj2 : j + 2 ≤ T.length
          · rw [occAt_append (s := T) crlf hj2]
            exact h2 j (by omega)
          · have hjl : j = T.length - 1 := by omega
            unfold occAt
            rw [List.drop_append_of_le_length (by omega), List.drop_eq_getElem_cons hj, List.drop_eq_nil_of_le (by omega)]
            show List.isPrefixOf [13, 10] (T[j] :: 13 :: [10]) = false
            rw [List.isPrefixOf_cons_cons, List.isPrefixOf_cons_cons]
            simp)
      rw [List.append_nil] at this
      exact this
    · obtain ⟨h5, h6⟩ := splitC_step T i h1
      rw [h6]
      have hT : T = T.take i ++ crlf ++ T.drop (i + 2) := by
        unfold occAt at h3
        rw [List.isPrefixOf_iff_prefix] at h3
        obtain ⟨t, ht⟩ := h3
        have hd : T.drop (i + 2) = t := by rw [← List.drop_drop, ← ht]; rfl
        rw [hd, List.append_assoc, ht, List.take_append_drop]
      have hl : (T.take i).length = i := by rw [List.length_take]; omega
      have e : T ++ crlf = T.take i ++ crlf ++ (T.drop (i + 2) ++ crlf) := by
        conv => lhs; rw [hT]
        rw [List.append_assoc]
      rw [e]
      refine Lines.cons _ _ _ (lines_of n (T.drop (i + 2)) (by rw [List.length_drop]; omega)) ?_
      rw [← e, index_append crlf (by decide) (by omega), h1, hl]
def refLen : Int → List (List UInt8) → Int
  | f, [] => f
  | f, x :: xs => if fieldV x = -2 ∨ (0 ≤ fieldV x ∧ 0 ≤ f) then -1 else refLen (if 0 ≤ fieldV x then fieldV x else f) xs
theorem fieldV_ge (x : List UInt8) : -2 ≤ fieldV x ∧ fieldV x < 1000000 := by
  unfold fieldV
  split
  · decide
  · split
    · decide
    · cases h : numV (fieldL x).2.1 with
      | none => decide
      | some n => have := numV_bound _ _ h; simp only; omega
theorem refLen_eq : ∀ (xs : List (List UInt8)) (f : Int), -1 ≤ f → refLen f xs = match lenGo f xs with | none => -1 | some g => g
  | [], f, h => rfl
  | x :: xs, f, h => by
    unfold refLen
    have hg := fieldV_ge x
    simp only [lenGo, lenStep]
    unfold fieldV at hg ⊢
    by_cases h1 : (fieldL x).2.2 = false
    · simp only [if_pos h1]
      simp
    · simp only [if_neg h1] at hg ⊢
      by_cases h2 : (fieldL x).1 ≠ lenName
      · simp only [if_pos h2]
        rw [if_neg (by omega), if_neg (by decide)]
        exact refLen_eq xs f h
      · simp only [if_neg h2] at hg ⊢
        cases h3 : numV (fieldL x).2.1 with
        | none => simp
        | some n =>
          rw [h3] at hg
          simp only
          by_cases h4 : 0 ≤ f
          · rw [if_pos (.inr ⟨by omega, h4⟩), if_pos h4]
          · rw [if_neg (by omega), if_neg h4, if_pos (by omega)]
            exact refLen_eq xs n (by omega)
end Go.Proofs.YtomebmjjgkcjiaaGreatDoor.G
