/- The walk of deriv.Parts. -/
import Derived.Test.YtaplejpjmaocdaaGreatDoorRefineW
namespace Go.Proofs.YtaplejpjmaocdaaGreatDoor
open Go.RowKit

end Go.Proofs.YtaplejpjmaocdaaGreatDoor
