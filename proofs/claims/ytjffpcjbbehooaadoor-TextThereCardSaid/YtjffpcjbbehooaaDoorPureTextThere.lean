import Derived.Test.YtjffpcjbbehooaaDoorTextFns
namespace Go.Proofs.YtjffpcjbbehooaaDoor.Pure
theorem TextThere : PText.parlancelaw07_TextThere.Pure := F.there
end Go.Proofs.YtjffpcjbbehooaaDoor.Pure
