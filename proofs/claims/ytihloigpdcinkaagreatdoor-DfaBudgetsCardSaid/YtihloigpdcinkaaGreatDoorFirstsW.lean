/- The walk of law 05's firsts. -/
import Derived.Test.YtihloigpdcinkaaGreatDoorSetsW2
import Derived.Test.YtihloigpdcinkaaGreatDoorPart2
namespace Go.Proofs.YtihloigpdcinkaaGreatDoor
open Go.RowKit

end Go.Proofs.YtihloigpdcinkaaGreatDoor
