/-
  All contracts that are proved by hand for this seat's texts.
-/
import Derived.Test.YtflfkbnolehpgaaDoorGValid
import Derived.Test.YtflfkbnolehpgaaDoorRunes
import Derived.Test.YtflfkbnolehpgaaDoorRefRunes
import Derived.Test.YtflfkbnolehpgaaDoorOffset
import Derived.Test.YtflfkbnolehpgaaDoorAppendRune
namespace Go.Proofs.YtflfkbnolehpgaaDoor.G
open Go.RowKit Go.Proofs.YtflfkbnolehpgaaDoorW.PrintWords
def GAppendRune.f (l0 : List Int) (a1 : Int) : Option (List Int) := if -2147483648 ≤ a1 ∧ a1 ≤ 2147483647 ∧ l0.length + 4 ≤ 140737488355328 then some (l0 ++ Lib.encodeRuneZ a1) else none
theorem GAppendRune.calls (P0_ : Nat → Prop) (u9000_ : Value) (l0 : List Int) (a1 : Int) (r : List Int) (w0 w : World) (hB : Below w0.heap.size w0 w) (ho0 : Kd.R (Kd.int .u8) 5 w w0.heap.size P0_ u9000_ l0) (h : GAppendRune.f l0 a1 = some r) :
    Calls Tryd.prog 38 #[u9000_, .int .i32 a1] w fun e w' => ∃ v0_ : Value, e = .returned (v0_) ∧ Kd.R (Kd.int .u8) 5 w' w0.heap.size (fun k_ => (P0_ k_ ∨ w.heap.size ≤ k_)) v0_ r ∧ Below w0.heap.size w0 w' ∧ Kept w w' (fun k_ => P0_ k_) := by
  unfold GAppendRune.f at h
  split at h
  case isFalse => cases h
  case isTrue hs =>
    obtain rfl := Option.some.inj h
    exact AR.calls P0_ u9000_ l0 a1 w0 w hB ho0 hs.1 hs.2.1 hs.2.2
end Go.Proofs.YtflfkbnolehpgaaDoor.G
