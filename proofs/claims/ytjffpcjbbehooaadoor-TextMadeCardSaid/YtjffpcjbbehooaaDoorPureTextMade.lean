import Derived.Test.YtjffpcjbbehooaaDoorTextMade
namespace Go.Proofs.YtjffpcjbbehooaaDoor.Pure
theorem TextMade : PMade.parlancelaw07_TextMade.Pure := F.made
end Go.Proofs.YtjffpcjbbehooaaDoor.Pure
