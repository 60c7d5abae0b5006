import Derived.Test.YtflfkbnolehpgaaDoorUtfLaws
namespace Go.Proofs.YtflfkbnolehpgaaDoor.Pure
theorem UtfCounts : PUtf.parlancelaw04_UtfCounts.Pure := F.counted
end Go.Proofs.YtflfkbnolehpgaaDoor.Pure
