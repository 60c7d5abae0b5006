import Derived.Test.YtjffpcjbbehooaaDoorTextFns
namespace Go.Proofs.YtjffpcjbbehooaaDoor.Pure
theorem TextPlaces : PText.parlancelaw07_TextPlaces.Pure := F.places
end Go.Proofs.YtjffpcjbbehooaaDoor.Pure
