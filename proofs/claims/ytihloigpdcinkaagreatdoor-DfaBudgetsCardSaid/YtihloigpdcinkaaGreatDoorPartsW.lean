/- The walk of deriv.Parts. -/
import Derived.Test.YtihloigpdcinkaaGreatDoorRefineW
namespace Go.Proofs.YtihloigpdcinkaaGreatDoor
open Go.RowKit

end Go.Proofs.YtihloigpdcinkaaGreatDoor
