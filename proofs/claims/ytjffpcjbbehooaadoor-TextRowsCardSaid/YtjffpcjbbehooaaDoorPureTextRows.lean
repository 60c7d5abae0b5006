import Derived.Test.YtjffpcjbbehooaaDoorTextRowsLaw
namespace Go.Proofs.YtjffpcjbbehooaaDoor.Pure
theorem TextRows : PRows.parlancelaw07_TextRows.Pure := F.rowsLaw
end Go.Proofs.YtjffpcjbbehooaaDoor.Pure
