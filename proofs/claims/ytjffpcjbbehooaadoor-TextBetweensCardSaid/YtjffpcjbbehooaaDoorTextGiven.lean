/-
  All contracts that are proved by hand for this seat's texts.
-/
import Derived.Test.YtjffpcjbbehooaaDoorUtfBase
import Derived.Test.YtjffpcjbbehooaaDoorPlaces
import Derived.Test.YtjffpcjbbehooaaDoorTextOffset
namespace Go.Proofs.YtjffpcjbbehooaaDoor.G
open Go.RowKit Go.Proofs.YtjffpcjbbehooaaDoorW.PrintWords
/-- strings.Count of a line feed. -/
def GCount.f (a0 a1 : ByteArray) : Option Int := if a1.data.toList = [10] then some ((Lib.countByte a0.data.toList 10 : Nat) : Int) else none
theorem feed_of {a1 : ByteArray} (h : a1.data.toList = [10]) : a1 = ⟨#[10]⟩ := by
  obtain ⟨d⟩ := a1
  congr 1
  exact Array.toList_inj.1 (by simpa using h)
theorem GCount.calls (a0 a1 : ByteArray) (r : Int) (w : World) (h : GCount.f a0 a1 = some r) :
    Calls Tryd.prog 28 #[.string a0, .string a1] w fun e w' => e = .returned (.int .i64 r) ∧ Drawn0 w w' := by
  unfold GCount.f at h
  split at h
  case isFalse => cases h
  case isTrue hs =>
    obtain rfl := Option.some.inj h
    obtain rfl := feed_of hs
    refine (Any.strings_Count_one Tryd.lays138 a0 10 w).mono ?_
    rintro e w' ⟨rfl, rfl⟩
    exact ⟨rfl, Drawn0.refl _⟩
/-- strings.LastIndex of a line feed. -/
def GLastIndex.f (a0 a1 : ByteArray) : Option Int := if a1.data.toList = [10] ∧ a0.size < 4611686018427387904 then some (Lib.lastIndexByte a0 10) else none
theorem GLastIndex.calls (a0 a1 : ByteArray) (r : Int) (w : World) (h : GLastIndex.f a0 a1 = some r) :
    Calls Tryd.prog 32 #[.string a0, .string a1] w fun e w' => e = .returned (.int .i64 r) ∧ Drawn0 w w' := by
  unfold GLastIndex.f at h
  split at h
  case isFalse => cases h
  case isTrue hs =>
    obtain rfl := Option.some.inj h
    obtain rfl := feed_of hs.1
    refine (Any.strings_LastIndex_one Tryd.lays148 a0 ⟨#[10]⟩ rfl hs.2 w).mono ?_
    rintro e w' ⟨rfl, rfl⟩
    exact ⟨rfl, Drawn0.refl _⟩
end Go.Proofs.YtjffpcjbbehooaaDoor.G
