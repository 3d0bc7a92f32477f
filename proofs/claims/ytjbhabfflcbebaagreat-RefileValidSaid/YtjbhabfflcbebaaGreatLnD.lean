/- Lines of payslips: which have the form of a line. -/
import Derived.Test.YtjbhabfflcbebaaGreatLine
import Derived.Test.YtjbhabfflcbebaaGreatTokSpec
import Derived.Test.YtjbhabfflcbebaaGreatKit
namespace Go.Proofs.YtjbhabfflcbebaaGreat
open Go.RowKit

end Go.Proofs.YtjbhabfflcbebaaGreat
