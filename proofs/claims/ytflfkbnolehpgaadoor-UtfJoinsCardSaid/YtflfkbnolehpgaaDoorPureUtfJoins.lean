import Derived.Test.YtflfkbnolehpgaaDoorUtfLaws
namespace Go.Proofs.YtflfkbnolehpgaaDoor.Pure
theorem UtfJoins : PUtf.parlancelaw04_UtfJoins.Pure := F.joins
end Go.Proofs.YtflfkbnolehpgaaDoor.Pure
