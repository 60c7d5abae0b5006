/-
  The law TextBetweens in plain words.
-/
import Derived.Test.YtjffpcjbbehooaaDoorPBetx2
import Derived.Test.YtjffpcjbbehooaaDoorTextFns
namespace Go.Proofs.YtjffpcjbbehooaaDoor.F
open Go.RowKit Go.Lib Go.Proofs.YtjffpcjbbehooaaDoor.G Go.Proofs.YtjffpcjbbehooaaDoor.PFn Go.Proofs.YtjffpcjbbehooaaDoor.PBet Go.Proofs.YtjffpcjbbehooaaDoorW.PrintWords Go.Proofs.YtjffpcjbbehooaaDoorW.PrintLast
theorem betweens : parlancelaw07_TextBetweens.Pure := by
  intro s t hs ht
  refine ⟨40, ?_⟩
  unfold parlancelaw07_TextBetweens.f
  rw [alive_eq _ (by omega), Option.bind_some, if_pos rfl, w64 _ (by omega)]
  by_cases hz : (s.size : Int) + (t.size : Int) > 20000
  · rw [if_pos hz]
  rw [if_neg hz]
  have hB : GBetween.f s t = some (if (validD s.data.toList && validD t.data.toList) = true then betweenAns s t else (0, 0, 0, 0, ⟨#[]⟩, 40)) := if_pos ⟨by omega, by omega⟩
  have hR : GRefBetween.f s t = some (if (validD s.data.toList && validD t.data.toList) = true then betweenAns s t else (0, 0, 0, 0, ⟨#[]⟩, 40)) := if_pos ⟨by omega, by omega⟩
  rw [hB, Option.bind_some, hR, Option.bind_some, if_pos (by simp)]
  simp
end Go.Proofs.YtjffpcjbbehooaaDoor.F
