import Derived.Test.YtflfkbnolehpgaaDoorUtfLaws
namespace Go.Proofs.YtflfkbnolehpgaaDoor.Pure
theorem UtfThere : PUtf.parlancelaw04_UtfThere.Pure := F.there
end Go.Proofs.YtflfkbnolehpgaaDoor.Pure
