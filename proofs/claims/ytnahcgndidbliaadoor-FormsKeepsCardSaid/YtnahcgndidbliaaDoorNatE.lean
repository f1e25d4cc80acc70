/- What nat.Low, nat.Fits, nat.From, nat.Sum, nat.Over and edenraw.Nats return. Condition: the limbs read from memory. -/
import Derived.Test.YtnahcgndidbliaaDoorNatD
namespace Go.Proofs.YtnahcgndidbliaaDoor
open Go.RowKit NatP

end Go.Proofs.YtnahcgndidbliaaDoor
