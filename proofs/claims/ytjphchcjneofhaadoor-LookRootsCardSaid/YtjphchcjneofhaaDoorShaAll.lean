/- The walk of Sum. -/
import Derived.Test.YtjphchcjneofhaaDoorShaSum
import Derived.Test.YtjphchcjneofhaaDoorShaTwo
namespace Go.Proofs.YtjphchcjneofhaaDoor
open Go.RowKit

end Go.Proofs.YtjphchcjneofhaaDoor
