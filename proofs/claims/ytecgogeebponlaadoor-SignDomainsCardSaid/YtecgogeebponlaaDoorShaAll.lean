/- The walk of Sum. -/
import Derived.Test.YtecgogeebponlaaDoorShaSum
import Derived.Test.YtecgogeebponlaaDoorShaTwo
namespace Go.Proofs.YtecgogeebponlaaDoor
set_option maxRecDepth 40000
open Go.RowKit

end Go.Proofs.YtecgogeebponlaaDoor
