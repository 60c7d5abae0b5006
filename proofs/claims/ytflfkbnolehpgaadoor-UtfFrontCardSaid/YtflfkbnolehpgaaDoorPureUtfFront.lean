import Derived.Test.YtflfkbnolehpgaaDoorUtfLaws
namespace Go.Proofs.YtflfkbnolehpgaaDoor.Pure
theorem UtfFront : PUtf.parlancelaw04_UtfFront.Pure := F.front
end Go.Proofs.YtflfkbnolehpgaaDoor.Pure
