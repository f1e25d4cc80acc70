/- What nat.Low, nat.Fits, nat.From, nat.Sum, nat.Over and edenraw.Nats return. Condition: the limbs read from memory. -/
import Derived.Test.YtfgnghgmffaepaaDoorNatD
namespace Go.Proofs.YtfgnghgmffaepaaDoor
open Go.RowKit NatP

end Go.Proofs.YtfgnghgmffaepaaDoor
