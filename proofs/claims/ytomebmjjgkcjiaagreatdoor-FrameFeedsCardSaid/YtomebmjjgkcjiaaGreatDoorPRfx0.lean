-- Printed by a program of this session (wip/printx.py) out of the translation. Not trusted: Lean checks it.
import Derived.Test.YtomebmjjgkcjiaaGreatDoorProg
import Derived.Below
import Derived.Deep.Draws
import Derived.Deep.AppendLies
import Derived.Maps.AppendAt
import Derived.OwnWalk
import Derived.Laws.BytesArg
import Derived.Laws.MakeOwn
import Derived.Laws.OwnMore
import Derived.Deep.OwnRows
import Derived.Tactics
import Derived.Lib.ConvBytes
import Derived.Laws.Slices
import Derived.WalkKit
import Derived.KernelRfl
import Derived.RowKit3
import Derived.Deep.LoopGhost
import Derived.Deep.QuietTactic
import Derived.BigQuiet
import Derived.WideLaws
import Derived.Deep.DeepCutAuto
import Derived.Deep.CutBlock
import Derived.Deep.RegionHeld3
import Derived.Laws.Rows
import Derived.Lib.AppendStr
import Derived.ArgAppend
import Derived.Laws.IdiomCopy
import Derived.OrdersHeld
import Derived.Laws.BitsLemmas
import Derived.RowKit
import Derived.Test.YtomebmjjgkcjiaaGreatDoorFrameBase
import Derived.Test.YtomebmjjgkcjiaaGreatDoorPUtx0
import Derived.Test.YtomebmjjgkcjiaaGreatDoorPUtx1
import Derived.Test.YtomebmjjgkcjiaaGreatDoorWWords
import Derived.Test.YtomebmjjgkcjiaaGreatDoorWLast
import Derived.Test.YtomebmjjgkcjiaaGreatDoorWTab
import Derived.Test.YtomebmjjgkcjiaaGreatDoorWFour
import Derived.Test.YtomebmjjgkcjiaaGreatDoorWQPut
import Derived.Test.YtomebmjjgkcjiaaGreatDoorWApart
import Derived.Test.YtomebmjjgkcjiaaGreatDoorWArr
import Derived.Test.YtomebmjjgkcjiaaGreatDoorWZeros
import Derived.Test.YtomebmjjgkcjiaaGreatDoorWFoot
import Derived.Test.YtomebmjjgkcjiaaGreatDoorWKept
import Derived.Test.YtomebmjjgkcjiaaGreatDoorWShare
import Derived.Test.YtomebmjjgkcjiaaGreatDoorWN
import Derived.Test.YtomebmjjgkcjiaaGreatDoorWFootNe
import Derived.Test.YtomebmjjgkcjiaaGreatDoorWAt
import Derived.Test.YtomebmjjgkcjiaaGreatDoorWEqStruct
import Derived.Test.YtomebmjjgkcjiaaGreatDoorWRepsOne
import Derived.Test.YtomebmjjgkcjiaaGreatDoorWInv
import Derived.Test.YtomebmjjgkcjiaaGreatDoorWInvWords
import Derived.Test.YtomebmjjgkcjiaaGreatDoorWGuard
import Derived.Test.YtomebmjjgkcjiaaGreatDoorWNEv
import Derived.Test.YtomebmjjgkcjiaaGreatDoorWMore
namespace Go.Proofs.YtomebmjjgkcjiaaGreatDoor.PRf
open Go.RowKit Go.Proofs.YtomebmjjgkcjiaaGreatDoor.G Go.Proofs.YtomebmjjgkcjiaaGreatDoor.PUt Go.Proofs.YtomebmjjgkcjiaaGreatDoorW.PrintWords Go.Proofs.YtomebmjjgkcjiaaGreatDoorW.PrintLast Go.Proofs.YtomebmjjgkcjiaaGreatDoorW.PrintMore
attribute [local go_sem] max2_int min2_int max_two min_two max_three min_three max_four min_four   -- for this text's walks alone
set_option linter.unusedVariables false
set_option linter.unusedSimpArgs false



def errW : Option Int → Value
  | none => .nilIface
  | some c => .iface 0 (.int .i64 c)
theorem errW_none : errW none = .nilIface := rfl
theorem errW_some (c : Int) : errW (some c) = .iface 0 (.int .i64 c) := rfl

theorem info5 : (Tryz.prog.info? 5).map (fun i => (i.zero, i.size, i.bytes)) = some (some (.int .u8 0), 1, 1) := by kernel_rfl
-- the values' own types

end Go.Proofs.YtomebmjjgkcjiaaGreatDoor.PRf
