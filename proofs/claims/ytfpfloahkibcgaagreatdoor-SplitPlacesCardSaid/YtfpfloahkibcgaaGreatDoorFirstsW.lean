/- The walk of law 05's firsts. -/
import Derived.Test.YtfpfloahkibcgaaGreatDoorSetsW2
import Derived.Test.YtfpfloahkibcgaaGreatDoorPart2
namespace Go.Proofs.YtfpfloahkibcgaaGreatDoor
open Go.RowKit

end Go.Proofs.YtfpfloahkibcgaaGreatDoor
