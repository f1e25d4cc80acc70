/- Lists held against each other: edenraw.Ints returns whether the two lists are one. Condition: both lists read from memory. -/
import Derived.Test.YtgknhmghljedlaaDoorTypes
namespace Go.Proofs.YtgknhmghljedlaaDoor
open Go.RowKit

end Go.Proofs.YtgknhmghljedlaaDoor
