/- The walk of law 06's head. -/
import Derived.Test.YtfpfloahkibcgaaGreatDoorDfaW
import Derived.Test.YtfpfloahkibcgaaGreatDoorBuildW2
import Derived.Test.YtfpfloahkibcgaaGreatDoorDerWord
namespace Go.Proofs.YtfpfloahkibcgaaGreatDoor
open Go.RowKit Go.Maps

abbrev hd6 : Re := manyR (wordR [97, 98])
def nx6 : List (List Nat) := [[1, 2, 1], [1, 1, 1], [1, 1, 0]]
theorem hd6_heads : headsR (refineR (setsR hd6)) = [0, 97, 98] := by decide +kernel
theorem hd6_build : (buildR [0, 97, 98] hd6 100).map (fun t => (t.1.map Re.null, t.2.1, t.2.2)) = some ([true, false, false], nx6, 97) := by decide +kernel
theorem hd6_at : (List.range 256).all (fun b => decide (atN (refineR (setsR hd6)) (refineR (setsR hd6)).length b < 3)) = true := by decide +kernel
theorem hd6_yes : yesD [true, false, false] (runD (atN (refineR (setsR hd6)) (refineR (setsR hd6)).length) nx6 0 [97, 98, 97, 98]) = true := by decide +kernel
theorem hd6_no : yesD [true, false, false] (runD (atN (refineR (setsR hd6)) (refineR (setsR hd6)).length) nx6 0 [97, 98, 97]) = false := by decide +kernel
theorem X0X6 {W : World} : ∀ k, X0 k → k < W.heap.size := X0_lt W
end Go.Proofs.YtfpfloahkibcgaaGreatDoor
