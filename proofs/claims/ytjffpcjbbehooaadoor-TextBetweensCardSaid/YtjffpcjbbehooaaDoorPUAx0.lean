-- Printed by a program of this session (wip/printx.py) out of the translation. Not trusted: Lean checks it.
import Derived.Test.YtjffpcjbbehooaaDoorProg
import Derived.Below
import Derived.Deep.Draws
import Derived.Deep.AppendLies
import Derived.Maps.AppendAt
import Derived.OwnWalk
import Derived.Laws.BytesArg
import Derived.Laws.MakeOwn
import Derived.Laws.OwnMore
import Derived.Deep.OwnRows
import Derived.Tactics
import Derived.Lib.ConvBytes
import Derived.Laws.Slices
import Derived.WalkKit
import Derived.KernelRfl
import Derived.RowKit3
import Derived.Deep.LoopGhost
import Derived.Deep.QuietTactic
import Derived.BigQuiet
import Derived.WideLaws
import Derived.Deep.DeepCutAuto
import Derived.Deep.CutBlock
import Derived.Deep.RegionHeld3
import Derived.Laws.Rows
import Derived.Lib.AppendStr
import Derived.ArgAppend
import Derived.Laws.IdiomCopy
import Derived.OrdersHeld
import Derived.Laws.BitsLemmas
import Derived.RowKit
import Derived.Test.YtjffpcjbbehooaaDoorWWords
import Derived.Test.YtjffpcjbbehooaaDoorWLast
import Derived.Test.YtjffpcjbbehooaaDoorWTab
import Derived.Test.YtjffpcjbbehooaaDoorWFour
import Derived.Test.YtjffpcjbbehooaaDoorWQPut
import Derived.Test.YtjffpcjbbehooaaDoorWApart
import Derived.Test.YtjffpcjbbehooaaDoorWArr
import Derived.Test.YtjffpcjbbehooaaDoorWZeros
import Derived.Test.YtjffpcjbbehooaaDoorWFoot
import Derived.Test.YtjffpcjbbehooaaDoorWKept
import Derived.Test.YtjffpcjbbehooaaDoorWShare
import Derived.Test.YtjffpcjbbehooaaDoorWN
import Derived.Test.YtjffpcjbbehooaaDoorWFootNe
import Derived.Test.YtjffpcjbbehooaaDoorWAt
import Derived.Test.YtjffpcjbbehooaaDoorWEqStruct
import Derived.Test.YtjffpcjbbehooaaDoorWRepsOne
import Derived.Test.YtjffpcjbbehooaaDoorWInv
import Derived.Test.YtjffpcjbbehooaaDoorWInvWords
import Derived.Test.YtjffpcjbbehooaaDoorWGuard
import Derived.Test.YtjffpcjbbehooaaDoorWNEv
import Derived.Test.YtjffpcjbbehooaaDoorWMore
namespace Go.Proofs.YtjffpcjbbehooaaDoor.PUA
open Go.RowKit Go.Proofs.YtjffpcjbbehooaaDoorW.PrintWords Go.Proofs.YtjffpcjbbehooaaDoorW.PrintLast Go.Proofs.YtjffpcjbbehooaaDoorW.PrintMore
attribute [local go_sem] max2_int min2_int max_two min_two max_three min_three max_four min_four   -- for this text's walks alone
set_option linter.unusedVariables false
set_option linter.unusedSimpArgs false



def errW : Option Int → Value
  | none => .nilIface
  | some c => .iface 0 (.int .i64 c)
theorem errW_none : errW none = .nilIface := rfl
theorem errW_some (c : Int) : errW (some c) = .iface 0 (.int .i64 c) := rfl

theorem info5 : (Tryd.prog.info? 5).map (fun i => (i.zero, i.size, i.bytes)) = some (some (.int .u8 0), 1, 1) := by kernel_rfl
-- the values' own types

end Go.Proofs.YtjffpcjbbehooaaDoor.PUA
