import Derived.Test.YtflfkbnolehpgaaDoorUtfRoundLaw
namespace Go.Proofs.YtflfkbnolehpgaaDoor.Pure
theorem UtfRound : PUtf.parlancelaw04_UtfRound.Pure := F.roundLaw
end Go.Proofs.YtflfkbnolehpgaaDoor.Pure
