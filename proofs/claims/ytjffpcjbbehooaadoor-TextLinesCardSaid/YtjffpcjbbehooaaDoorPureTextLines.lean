import Derived.Test.YtjffpcjbbehooaaDoorTextLines
namespace Go.Proofs.YtjffpcjbbehooaaDoor.Pure
theorem TextLines : PText.parlancelaw07_TextLines.Pure := F.textLines
end Go.Proofs.YtjffpcjbbehooaaDoor.Pure
