-- Printed by a program of this session (wip/printx.py) out of the translation. Not trusted: Lean checks it.
import Derived.Test.YtflfkbnolehpgaaDoorPUtfx0
import Derived.Test.YtflfkbnolehpgaaDoorPUtfx1
import Derived.Test.YtflfkbnolehpgaaDoorPUtfx2
import Derived.Test.YtflfkbnolehpgaaDoorPUtfx3
import Derived.Test.YtflfkbnolehpgaaDoorPUtfx4
import Derived.Test.YtflfkbnolehpgaaDoorPUtfx5
import Derived.Test.YtflfkbnolehpgaaDoorPUtfx6
import Derived.Test.YtflfkbnolehpgaaDoorPUtfx7
namespace Go.Proofs.YtflfkbnolehpgaaDoor.PUtf
open Go.RowKit Go.Proofs.YtflfkbnolehpgaaDoor.G Go.Proofs.YtflfkbnolehpgaaDoor.PUA Go.Proofs.YtflfkbnolehpgaaDoorW.PrintWords Go.Proofs.YtflfkbnolehpgaaDoorW.PrintLast Go.Proofs.YtflfkbnolehpgaaDoorW.PrintMore
attribute [local go_sem] max2_int min2_int max_two min_two max_three min_three max_four min_four   -- for this text's walks alone
set_option linter.unusedVariables false
set_option linter.unusedSimpArgs false

end Go.Proofs.YtflfkbnolehpgaaDoor.PUtf
