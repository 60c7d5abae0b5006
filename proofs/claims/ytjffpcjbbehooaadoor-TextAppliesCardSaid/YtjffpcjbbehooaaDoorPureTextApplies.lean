import Derived.Test.YtjffpcjbbehooaaDoorTextAppliesLaw
namespace Go.Proofs.YtjffpcjbbehooaaDoor.Pure
theorem TextApplies : PApp.parlancelaw07_TextApplies.Pure := F.applies
end Go.Proofs.YtjffpcjbbehooaaDoor.Pure
