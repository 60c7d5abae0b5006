/-
  The laws' walks in the rows' words, third part.
-/
import Derived.Test.YtomebmjjgkcjiaaDoorFrameRows
import Derived.Test.YtomebmjjgkcjiaaDoorFrameMem
set_option linter.unusedVariables false
namespace Go.Proofs.YtomebmjjgkcjiaaDoor.G
open Go.RowKit Go.Proofs.YtomebmjjgkcjiaaDoorW.PrintWords Go.Lib
theorem memory_row (a0 : Option Addr) (len0 cap0 : Nat) (z0 : List Int) (a1 : Int) (w : World) (w0 : RowU8 w a0 len0 cap0 z0) (y0 : len0 * 1 ≤ 140737488351232) (w1 : (Lit.int .i64 a1).wf = true) (hT : TF w) :
    Calls Tryd.prog 4 #[.slice a0 len0 cap0, .int .i64 a1] w fun e w' => e = .returned (.bool true) ∧ Below w.heap.size w w' := by
  obtain ⟨b, rfl, h1, h2⟩ := row_bytes w0
  exact memory_calls a0 cap0 b a1 w hT h1 h2 (wf_i64 w1)
end Go.Proofs.YtomebmjjgkcjiaaDoor.G
