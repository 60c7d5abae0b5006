import Derived.Test.YtflfkbnolehpgaaDoorUtfLaws
namespace Go.Proofs.YtflfkbnolehpgaaDoor.Pure
theorem UtfJoined : PUtf.parlancelaw04_UtfJoined.Pure := F.joined
end Go.Proofs.YtflfkbnolehpgaaDoor.Pure
