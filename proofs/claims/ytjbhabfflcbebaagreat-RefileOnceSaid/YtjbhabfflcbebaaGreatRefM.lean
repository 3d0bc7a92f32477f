/- Contract of payrollref34.Merge. -/
import Derived.Test.YtjbhabfflcbebaaGreatTrim
namespace Go.Proofs.YtjbhabfflcbebaaGreat
open Go.RowKit

end Go.Proofs.YtjbhabfflcbebaaGreat
