/-
  The law TextRows in plain words.
-/
import Derived.Test.YtjffpcjbbehooaaDoorPRowsx1
import Derived.Test.YtjffpcjbbehooaaDoorTextEd
namespace Go.Proofs.YtjffpcjbbehooaaDoor.F
open Go.RowKit Go.Lib Go.Proofs.YtjffpcjbbehooaaDoor.G Go.Proofs.YtjffpcjbbehooaaDoor.PFn Go.Proofs.YtjffpcjbbehooaaDoor.PEd Go.Proofs.YtjffpcjbbehooaaDoor.PRows Go.Proofs.YtjffpcjbbehooaaDoorW.PrintWords Go.Proofs.YtjffpcjbbehooaaDoorW.PrintLast
theorem emptyList : (⟨#[]⟩ : ByteArray).toList = [] := by rw [Lib.toList_data]
theorem textApplyAns_append (s : ByteArray) (xs ys : List S31) : textApplyAns s (xs ++ ys) = if (textApplyAns s xs).2 = 0 then applyAll (textApplyAns s xs).1 ys else textApplyAns s xs := by
  unfold textApplyAns
  by_cases c : validD s.data.toList = true
  · rw [if_pos c, if_pos c, applyAll_append]
  · rw [if_neg c, if_neg c, if_neg (by decide)]
theorem textApplyAns_good (s : ByteArray) (xs : List S31) (hs : s.size ≤ 100000) (h : (textApplyAns s xs).2 = 0) : validD (textApplyAns s xs).1.data.toList = true ∧ (textApplyAns s xs).1.size ≤ 100000 := by
  unfold textApplyAns at h ⊢
  by_cases c : validD s.data.toList = true
  · rw [if_pos c] at h ⊢
    exact applyAll_good xs s c hs h
  · rw [if_neg c] at h
    cases h
theorem textApplyAns_err (s : ByteArray) (xs : List S31) (h : ¬ (textApplyAns s xs).2 = 0) : (textApplyAns s xs).1 = ⟨#[]⟩ := by
  unfold textApplyAns at h ⊢
  by_cases c : validD s.data.toList = true
  · rw [if_pos c] at h ⊢
    exact applyAll_err xs s h
  · rw [if_neg c]
set_option maxHeartbeats 1000000 in
theorem rowsLaw : parlancelaw07_TextRows.Pure := by
  intro s xs at_ hs hx hat
  obtain ⟨hl, _, hxx⟩ := hx
  unfold maxLen at hl
  have hl2 : xs.length ≤ 140737488351232 := by omega
  refine ⟨xs.length + 40, ?_⟩
  obtain ⟨k, hk⟩ : ∃ k, xs.length + 40 = k + 1 := ⟨xs.length + 39, rfl⟩
  rw [hk]
  unfold parlancelaw07_TextRows.f
  rw [alive_eq _ (by omega), Option.bind_some, if_pos rfl]
  have hskip : parlancelaw07_TextRows.j0 (k + 1) s xs at_ true = some true := by rw [parlancelaw07_TextRows.j0, if_pos rfl]
  rcases great_eq s hs xs hl2 (fun x h => (hxx x h).2.2.2.2) (k + 1) (by omega) with hg | ⟨hg, h50, hs2, hx2⟩
  · rw [hg, Option.bind_some, if_pos rfl, hskip]
  rw [hg, Option.bind_some, if_neg (by decide)]
  by_cases c0 : at_ < 0
  · rw [if_pos c0, hskip]
  rw [if_neg c0]
  by_cases c1 : at_ > (xs.length : Int)
  · rw [decide_eq_true c1, hskip]
  rw [decide_eq_false c1, parlancelaw07_TextRows.j0, if_neg (by decide)]
  have ok : ∀ x ∈ xs, okEdit x := fun x h => ⟨(hxx x h).1, (hxx x h).2.1, (hxx x h).2.2.1, (hxx x h).2.2.2.1, hx2 x h⟩
  obtain ⟨n, rfl⟩ : ∃ n : Nat, at_ = n := ⟨at_.toNat, by omega⟩
  have ht : (xs.take n).length ≤ xs.length := by rw [List.length_take]; omega
  have hd : (xs.drop n).length ≤ xs.length := by rw [List.length_drop]; omega
  have e1 := Apply_eq s hs2 xs (by omega) ok k (by omega)
  have e2 := Apply_eq s hs2 (xs.take n) (by omega) (fun x h => ok x (List.mem_of_mem_take h)) k (by omega)
  rw [copyEdits_eq xs (by omega), Option.bind_some, e1, Option.bind_some, if_pos (by omega), if_pos (by omega), Int.toNat_natCast, copyEdits_eq _ (by omega), Option.bind_some, e2, Option.bind_some]
  have hap := textApplyAns_append s (xs.take n) (xs.drop n)
  rw [List.take_append_drop] at hap
  by_cases c2 : (textApplyAns s (xs.take n)).2 = 0
  · have hg2 := textApplyAns_good s _ hs2 c2
    have e3 := Apply_eq _ hg2.2 (xs.drop n) (by omega) (fun x h => ok x (List.mem_of_mem_drop h)) k (by omega)
    rw [if_pos c2, copyEdits_eq _ (by omega), Option.bind_some, e3, Option.bind_some]
    rw [if_pos c2] at hap
    have e4 : textApplyAns (textApplyAns s (xs.take n)).1 (xs.drop n) = applyAll (textApplyAns s (xs.take n)).1 (xs.drop n) := if_pos hg2.1
    rw [e4, hap, if_pos rfl]
    simp
  · rw [if_neg c2] at hap
    rw [if_neg c2, hap, if_pos rfl, textApplyAns_err s _ c2, emptyList, if_pos rfl]
    rfl
end Go.Proofs.YtjffpcjbbehooaaDoor.F
