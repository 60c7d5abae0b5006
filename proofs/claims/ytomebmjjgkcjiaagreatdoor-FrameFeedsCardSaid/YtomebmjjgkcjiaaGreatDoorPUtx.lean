-- Printed by a program of this session (wip/printx.py) out of the translation. Not trusted: Lean checks it.
import Derived.Test.YtomebmjjgkcjiaaGreatDoorPUtx0
import Derived.Test.YtomebmjjgkcjiaaGreatDoorPUtx1
namespace Go.Proofs.YtomebmjjgkcjiaaGreatDoor.PUt
open Go.RowKit Go.Proofs.YtomebmjjgkcjiaaGreatDoor.G Go.Proofs.YtomebmjjgkcjiaaGreatDoorW.PrintWords Go.Proofs.YtomebmjjgkcjiaaGreatDoorW.PrintLast Go.Proofs.YtomebmjjgkcjiaaGreatDoorW.PrintMore
attribute [local go_sem] max2_int min2_int max_two min_two max_three min_three max_four min_four   -- for this text's walks alone
set_option linter.unusedVariables false
set_option linter.unusedSimpArgs false

end Go.Proofs.YtomebmjjgkcjiaaGreatDoor.PUt
