import Derived.Test.YtjffpcjbbehooaaDoorTextBetweensLaw
namespace Go.Proofs.YtjffpcjbbehooaaDoor.Pure
theorem TextBetweens : PBet.parlancelaw07_TextBetweens.Pure := F.betweens
end Go.Proofs.YtjffpcjbbehooaaDoor.Pure
