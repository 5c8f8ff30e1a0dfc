/- The walk of deriv.Match. -/
import Derived.Test.YtaplejpjmaocdaaGreatDoorDerWord
namespace Go.Proofs.YtaplejpjmaocdaaGreatDoor
open Go.RowKit

theorem intNe {a b : Nat} (h : a ≠ b) : ((a : Int) == (b : Int)) = false := by
  have : ¬ (a : Int) = (b : Int) := by omega
  simp [this]
end Go.Proofs.YtaplejpjmaocdaaGreatDoor
