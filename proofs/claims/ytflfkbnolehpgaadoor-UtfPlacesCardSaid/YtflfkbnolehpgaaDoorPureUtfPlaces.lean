import Derived.Test.YtflfkbnolehpgaaDoorUtfLaws
namespace Go.Proofs.YtflfkbnolehpgaaDoor.Pure
theorem UtfPlaces : PUtf.parlancelaw04_UtfPlaces.Pure := F.placesLaw
end Go.Proofs.YtflfkbnolehpgaaDoor.Pure
