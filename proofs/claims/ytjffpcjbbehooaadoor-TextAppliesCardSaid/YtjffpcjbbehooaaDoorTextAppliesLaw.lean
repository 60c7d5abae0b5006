/-
  The law TextApplies in plain words.
-/
import Derived.Test.YtjffpcjbbehooaaDoorPAppx2
import Derived.Test.YtjffpcjbbehooaaDoorTextEd
import Derived.Test.YtjffpcjbbehooaaDoorTextRef
namespace Go.Proofs.YtjffpcjbbehooaaDoor.F
open Go.RowKit Go.Lib Go.Proofs.YtjffpcjbbehooaaDoor.G Go.Proofs.YtjffpcjbbehooaaDoor.PUA Go.Proofs.YtjffpcjbbehooaaDoor.PFn Go.Proofs.YtjffpcjbbehooaaDoor.PRef Go.Proofs.YtjffpcjbbehooaaDoor.PEd Go.Proofs.YtjffpcjbbehooaaDoor.PApp Go.Proofs.YtjffpcjbbehooaaDoorW.PrintWords Go.Proofs.YtjffpcjbbehooaaDoorW.PrintLast
theorem refApply_l0 (xs : List S31) (hb : xs.length ≤ 1000) (hx : ∀ x ∈ xs, okEdit x) : ∀ (d i k : Nat) (s : ByteArray), i + d = xs.length → 2 * d + 100100 < k → s.size ≤ 100000 → validD s.data.toList = true → parlanceref07_Apply.l0 k s xs (i : Int) = some (applyAll s (xs.drop i))
  | 0, i, k, s, h, hk, hs, hv => by
    obtain ⟨k, rfl⟩ : ∃ m, k = m + 1 := ⟨k - 1, by omega⟩
    rw [parlanceref07_Apply.l0, if_neg (by omega), List.drop_of_length_le (by omega)]
    rfl
  | d + 1, i, k, s, h, hk, hs, hv => by
    obtain ⟨k, rfl⟩ : ∃ m, k = m + 2 := ⟨k - 2, by omega⟩
    have hi : i < xs.length := by omega
    obtain ⟨h0, h1, h2, h3, h4⟩ := hx _ (List.getElem_mem hi)
    have hgood := applyAns_good s hv xs[i]
    have herr := applyAns_err s xs[i]
    have ih := fun s' => refApply_l0 xs hb hx d (i + 1) k s' (by omega) (by omega)
    rw [parlanceref07_Apply.l0, if_pos (by omega), if_pos (by omega), rd31_nat xs i hi, if_pos (by omega), List.drop_eq_getElem_cons hi, applyAll]
    generalize xs[i] = x at *
    obtain ⟨n, hn, n1, n2⟩ := refValid_at x.f4 (by omega) (k + 1) (by omega)
    rw [hn, Option.bind_some]
    by_cases c1 : validD x.f4.data.toList = true
    case neg =>
      have := n2 (by simpa using c1)
      have e : applyAns s x = (⟨#[]⟩, 40) := if_neg c1
      rw [if_pos (by omega), e, if_neg (by decide)]
    have := n1 c1
    rw [if_neg (by omega), refOff_eq s _ _ hs _ (by omega), Option.bind_some, refOff_eq s _ _ hs _ (by omega), Option.bind_some]
    unfold applyAns at hgood herr ⊢
    rw [if_pos c1] at hgood herr ⊢
    rcases textOff_cases s hv x.f0 x.f1 with ⟨p1, q1, a1, e1, o1⟩ | o1
    case inr =>
      rw [o1]
      have hne : ¬ ((0 : Int), (70 : Int)).2 = 0 := by decide
      rw [if_neg hne, if_neg hne, parlanceref07_Apply.j1, if_pos rfl, if_neg (by decide)]
    rw [o1] at hgood herr ⊢
    rw [if_pos rfl] at hgood herr
    rw [if_pos rfl, if_pos rfl]
    rcases textOff_cases s hv x.f2 x.f3 with ⟨p2, q2, a2, e2, o2⟩ | o2
    case inr =>
      rw [o2]
      have hne : ¬ ((0 : Int), (70 : Int)).2 = 0 := by decide
      rw [if_neg hne, parlanceref07_Apply.j1, if_pos (by rfl), if_neg (by decide)]
    rw [o2] at hgood herr ⊢
    rw [if_pos rfl] at hgood herr
    rw [if_pos rfl]
    dsimp only at hgood herr ⊢
    have g1 := valid_cut s hv p1 q1 a1 e1
    have g2 := valid_cut s hv p2 q2 a2 e2
    rw [parlanceref07_Apply.j1, if_neg (by decide)]
    by_cases c4 : ((enc p2).length : Int) < ((enc p1).length : Int)
    · rw [if_pos c4, if_pos c4, if_neg (by decide)]
    rw [if_neg c4] at hgood herr
    rw [if_neg c4, if_neg c4]
    have hz : (s.extract 0 (((enc p1).length : Nat) : Int).toNat ++ x.f4 ++ s.extract (((enc p2).length : Nat) : Int).toNat s.size).size = (enc p1).length + x.f4.size + (s.size - (enc p2).length) := by
      rw [Int.toNat_natCast, Int.toNat_natCast, ByteArray.size_append, ByteArray.size_append, size_data (s.extract 0 _), size_data (s.extract _ s.size), g1.1, g2.2.1]
      have hz := size_data s
      rw [e2, enc_append, List.length_append] at hz
      omega
    rw [hz] at hgood herr ⊢
    rw [if_pos (by omega), if_pos (by omega), if_pos (by omega), if_pos (by omega), if_pos (by omega), if_pos (by omega)]
    by_cases c5 : (enc p1).length + x.f4.size + (s.size - (enc p2).length) > 32768
    · rw [if_pos (by omega), if_pos c5, if_neg (by decide)]
    · rw [if_neg c5] at hgood
      have hg := hgood rfl
      rw [if_neg (by omega), if_neg c5, if_pos rfl, w64 ((i : Int) + 1) (by omega), show ((i : Int) + 1) = ((i + 1 : Nat) : Int) from rfl, ih _ (by omega) hg.1]
theorem refApply_eq (s : ByteArray) (hs : s.size ≤ 100000) (xs : List S31) (hb : xs.length ≤ 50) (hx : ∀ x ∈ xs, okEdit x) (k : Nat) (hk : 100300 < k) : parlanceref07_Apply.f k s xs = some (textApplyAns s xs) := by
  unfold parlanceref07_Apply.f textApplyAns
  obtain ⟨n, hn, n1, n2⟩ := refValid_at s (by omega) k (by omega)
  rw [if_pos (by omega), hn, Option.bind_some]
  by_cases c : validD s.data.toList = true
  · have := n1 c
    rw [if_neg (by omega), if_pos c]
    have := refApply_l0 xs (by omega) hx xs.length 0 k s (by omega) (by omega) hs c
    exact this
  · have := n2 (by simpa using c)
    rw [if_pos (by omega), if_neg c]
theorem applies_l0 (xs : List S31) (hb : xs.length ≤ 1000) : ∀ (d i k : Nat), i + d = xs.length → d < k → parlancelaw07_TextApplies.l0 k xs xs (i : Int) = some true
  | 0, i, k, h, hk => by
    obtain ⟨k, rfl⟩ : ∃ m, k = m + 1 := ⟨k - 1, by omega⟩
    rw [parlancelaw07_TextApplies.l0, if_neg (by omega)]
  | d + 1, i, k, h, hk => by
    obtain ⟨k, rfl⟩ : ∃ m, k = m + 1 := ⟨k - 1, by omega⟩
    rw [parlancelaw07_TextApplies.l0, if_pos (by omega), if_pos (by omega), if_pos (by omega), if_neg (by simp), w64 ((i : Int) + 1) (by omega), show ((i : Int) + 1) = ((i + 1 : Nat) : Int) from rfl]
    exact applies_l0 xs hb d (i + 1) k (by omega) (by omega)
theorem applies : parlancelaw07_TextApplies.Pure := by
  intro s xs hs hx
  obtain ⟨hl, _, hxx⟩ := hx
  unfold maxLen at hl
  refine ⟨xs.length + 200000, ?_⟩
  obtain ⟨k, hk⟩ : ∃ k, xs.length + 200000 = k + 1 := ⟨xs.length + 199999, rfl⟩
  rw [hk]
  unfold parlancelaw07_TextApplies.f
  rw [alive_eq _ (by omega), Option.bind_some, if_pos rfl]
  rcases great_eq s hs xs (by omega) (fun x h => (hxx x h).2.2.2.2) (k + 1) (by omega) with hg | ⟨hg, h50, hs2, hx2⟩
  · rw [hg, Option.bind_some, if_pos rfl]
  have ok : ∀ x ∈ xs, okEdit x := fun x h => ⟨(hxx x h).1, (hxx x h).2.1, (hxx x h).2.2.1, (hxx x h).2.2.2.1, hx2 x h⟩
  rw [hg, Option.bind_some, if_neg (by decide), copyEdits_eq xs (by omega), Option.bind_some, Apply_eq s hs2 xs (by omega) ok _ (by omega), Option.bind_some, refApply_eq s hs2 xs h50 ok _ (by omega), Option.bind_some, if_pos rfl, if_pos rfl, parlancelaw07_TextApplies.j0, if_neg (by simp)]
  exact applies_l0 xs (by omega) xs.length 0 k (by omega) (by omega)
end Go.Proofs.YtjffpcjbbehooaaDoor.F
