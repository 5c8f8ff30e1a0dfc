/- The walk of law 05's firsts. -/
import Derived.Test.YtaplejpjmaocdaaGreatDoorSetsW2
import Derived.Test.YtaplejpjmaocdaaGreatDoorPart2
namespace Go.Proofs.YtaplejpjmaocdaaGreatDoor
open Go.RowKit

end Go.Proofs.YtaplejpjmaocdaaGreatDoor
