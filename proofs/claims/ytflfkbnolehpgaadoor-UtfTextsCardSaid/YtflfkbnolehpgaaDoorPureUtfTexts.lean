import Derived.Test.YtflfkbnolehpgaaDoorUtfLaws
namespace Go.Proofs.YtflfkbnolehpgaaDoor.Pure
theorem UtfTexts : PUtf.parlancelaw04_UtfTexts.Pure := F.texts
end Go.Proofs.YtflfkbnolehpgaaDoor.Pure
