/- The walk of deriv.Parts. -/
import Derived.Test.YtfpfloahkibcgaaGreatDoorRefineW
namespace Go.Proofs.YtfpfloahkibcgaaGreatDoor
open Go.RowKit

end Go.Proofs.YtfpfloahkibcgaaGreatDoor
