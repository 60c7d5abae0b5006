import Derived.Test.YtjffpcjbbehooaaDoorTextFns
namespace Go.Proofs.YtjffpcjbbehooaaDoor.Pure
theorem TextFront : PText.parlancelaw07_TextFront.Pure := F.front
end Go.Proofs.YtjffpcjbbehooaaDoor.Pure
