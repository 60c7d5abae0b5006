/-
  A world that lays the two tables of unicode/utf8, for the witnesses of rows whose walks read neither.
-/
import Derived.Test.YtchlehaifnglpaaDoorRows
import Derived.Lib.DecodeN
import Derived.OpenShut
import Derived.Deep.DeepHandedRow
namespace Go.Proofs.YtchlehaifnglpaaDoor.G
open Go.Lib
/-- A block of cells, holding these. -/
def lays (vs : List Value) : Obj → Obj
  | .cells _ t frozen => .cells vs.toArray t frozen
  | o => o
/-- A world for the witnesses: the settled one, the two tables holding what their initialisers lay. -/
noncomputable def laidWorld (os : Os) : World :=
  { World.holding Tryd.prog os ⟨#[], #[], []⟩ with heap := ((World.holding Tryd.prog os ⟨#[], #[], []⟩).heap.modify 0 (lays ((List.range 256).map fun c => Value.int .u8 (firstT c)))).modify 1 (lays ((List.range 16).flatMap fun i => [Value.int .u8 (accLo i), Value.int .u8 (accHi i)])) }
end Go.Proofs.YtchlehaifnglpaaDoor.G
