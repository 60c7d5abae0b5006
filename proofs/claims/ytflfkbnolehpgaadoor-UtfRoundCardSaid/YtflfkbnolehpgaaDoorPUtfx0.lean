-- Printed by a program of this session (wip/printx.py) out of the translation. Not trusted: Lean checks it.
import Derived.Test.YtflfkbnolehpgaaDoorProg
import Derived.Below
import Derived.Deep.Draws
import Derived.Deep.AppendLies
import Derived.Maps.AppendAt
import Derived.OwnWalk
import Derived.Laws.BytesArg
import Derived.Laws.MakeOwn
import Derived.Laws.OwnMore
import Derived.Deep.OwnRows
import Derived.Tactics
import Derived.Lib.ConvBytes
import Derived.Laws.Slices
import Derived.WalkKit
import Derived.KernelRfl
import Derived.RowKit3
import Derived.Deep.LoopGhost
import Derived.Deep.QuietTactic
import Derived.BigQuiet
import Derived.WideLaws
import Derived.Deep.DeepCutAuto
import Derived.Deep.CutBlock
import Derived.Deep.RegionHeld3
import Derived.Laws.Rows
import Derived.Lib.AppendStr
import Derived.ArgAppend
import Derived.Laws.IdiomCopy
import Derived.OrdersHeld
import Derived.Laws.BitsLemmas
import Derived.RowKit
import Derived.Test.YtflfkbnolehpgaaDoorGiven
import Derived.Test.YtflfkbnolehpgaaDoorPUAx
import Derived.Test.YtflfkbnolehpgaaDoorConvEv
import Derived.Test.YtflfkbnolehpgaaDoorWWords
import Derived.Test.YtflfkbnolehpgaaDoorWLast
import Derived.Test.YtflfkbnolehpgaaDoorWTab
import Derived.Test.YtflfkbnolehpgaaDoorWFour
import Derived.Test.YtflfkbnolehpgaaDoorWQPut
import Derived.Test.YtflfkbnolehpgaaDoorWApart
import Derived.Test.YtflfkbnolehpgaaDoorWArr
import Derived.Test.YtflfkbnolehpgaaDoorWZeros
import Derived.Test.YtflfkbnolehpgaaDoorWFoot
import Derived.Test.YtflfkbnolehpgaaDoorWKept
import Derived.Test.YtflfkbnolehpgaaDoorWShare
import Derived.Test.YtflfkbnolehpgaaDoorWN
import Derived.Test.YtflfkbnolehpgaaDoorWFootNe
import Derived.Test.YtflfkbnolehpgaaDoorWAt
import Derived.Test.YtflfkbnolehpgaaDoorWEqStruct
import Derived.Test.YtflfkbnolehpgaaDoorWRepsOne
import Derived.Test.YtflfkbnolehpgaaDoorWInv
import Derived.Test.YtflfkbnolehpgaaDoorWInvWords
import Derived.Test.YtflfkbnolehpgaaDoorWGuard
import Derived.Test.YtflfkbnolehpgaaDoorWNEv
import Derived.Test.YtflfkbnolehpgaaDoorWMore
namespace Go.Proofs.YtflfkbnolehpgaaDoor.PUtf
open Go.RowKit Go.Proofs.YtflfkbnolehpgaaDoor.G Go.Proofs.YtflfkbnolehpgaaDoor.PUA Go.Proofs.YtflfkbnolehpgaaDoorW.PrintWords Go.Proofs.YtflfkbnolehpgaaDoorW.PrintLast Go.Proofs.YtflfkbnolehpgaaDoorW.PrintMore
attribute [local go_sem] max2_int min2_int max_two min_two max_three min_three max_four min_four   -- for this text's walks alone
set_option linter.unusedVariables false
set_option linter.unusedSimpArgs false



def errW : Option Int → Value
  | none => .nilIface
  | some c => .iface 0 (.int .i64 c)
theorem errW_none : errW none = .nilIface := rfl
theorem errW_some (c : Int) : errW (some c) = .iface 0 (.int .i64 c) := rfl

theorem info3 : (Tryd.prog.info? 3).map (fun i => (i.zero, i.size, i.bytes)) = some (some (.int .i64 0), 1, 8) := by kernel_rfl
theorem info5 : (Tryd.prog.info? 5).map (fun i => (i.zero, i.size, i.bytes)) = some (some (.int .u8 0), 1, 1) := by kernel_rfl
-- the values' own types

end Go.Proofs.YtflfkbnolehpgaaDoor.PUtf
