/-
  DERIVED. GIVEN WITH THE SEED: THE CARDS: each row of YtaplejpjmaocdaaGreatDoorRows.lean that lists a variable, with what it lists TIED to the program's text (the seventh form; the later family's looks); each row that meets fmt, with fmt's text TOLD by the authors' own Lean function (tested against real Go, not proved from fmt's source: count such statements apart). THE CARD IS WHAT COUNTS. Prove the row's statement (the work); the ties are given (YtaplejpjmaocdaaGreatDoorTie.lean); close each card by the builder's one call (the guide's Derived/Test/ToyasCard.lean, 'card_holds'). Laid BY PROGRAM, IN A SANDBOX (cutbox-door.mjs). By AI agents, Wed Nov 11 2026. No macro, syntax, notation, axiom, sorry.
-/
import Derived.Test.YtaplejpjmaocdaaGreatDoorRows
import GoSem.ClaimSeven
namespace Go.Proofs.YtaplejpjmaocdaaGreatDoor
namespace Rows

/-- THE TIED CARD OF 'periscopelaw06.DfaTexts'. -/
def dfaTextsCard : Claim7 := { stood := { row := dfaTextsRow, standIns := [], harness := (true, "aeb16d4ca9e8989be3d3129b5a6024abbef9ff2beb5bb4facb06712cb47b59de"), looks := false }, kinds := [], alts := [], laidByText := true, laidKinds := [.data, .data, .data], laidTests := true, laidLooks := .later }
def DfaTextsCardSaid : Prop := Claim7.holds Tryz.pinned (.plain (OpenSpec.ofChange dfaTextsSpec)) dfaTextsCard

/-- THE TIED CARD OF 'periscopelaw06.DfaBytes'. -/
def dfaBytesCard : Claim7 := { stood := { row := dfaBytesRow, standIns := [], harness := (true, "aeb16d4ca9e8989be3d3129b5a6024abbef9ff2beb5bb4facb06712cb47b59de"), looks := false }, kinds := [], alts := [], laidByText := true, laidKinds := [.data, .data, .data], laidTests := true, laidLooks := .later }
def DfaBytesCardSaid : Prop := Claim7.holds Tryz.pinned (.plain (OpenSpec.ofChange dfaBytesSpec)) dfaBytesCard

/-- THE TIED CARD OF 'periscopelaw06.DfaBuilds'. -/
def dfaBuildsCard : Claim7 := { stood := { row := dfaBuildsRow, standIns := [], harness := (true, "aeb16d4ca9e8989be3d3129b5a6024abbef9ff2beb5bb4facb06712cb47b59de"), looks := false }, kinds := [], alts := [], laidByText := true, laidKinds := [.data, .data, .data], laidTests := true, laidLooks := .later }
def DfaBuildsCardSaid : Prop := Claim7.holds Tryz.pinned (.plain (OpenSpec.ofChange dfaBuildsSpec)) dfaBuildsCard

/-- THE TIED CARD OF 'periscopelaw07.AutoWitness'. -/
def autoWitnessCard : Claim7 := { stood := { row := autoWitnessRow, standIns := [], harness := (true, "aeb16d4ca9e8989be3d3129b5a6024abbef9ff2beb5bb4facb06712cb47b59de"), looks := false }, kinds := [], alts := [], laidByText := true, laidKinds := [.data, .data, .data], laidTests := true, laidLooks := .later }
def AutoWitnessCardSaid : Prop := Claim7.holds Tryz.pinned (.plain (OpenSpec.ofChange autoWitnessSpec)) autoWitnessCard

/-- THE TIED CARD OF 'periscopelaw07.AutoPairs'. -/
def autoPairsCard : Claim7 := { stood := { row := autoPairsRow, standIns := [], harness := (true, "aeb16d4ca9e8989be3d3129b5a6024abbef9ff2beb5bb4facb06712cb47b59de"), looks := false }, kinds := [], alts := [], laidByText := true, laidKinds := [.data, .data, .data], laidTests := true, laidLooks := .later }
def AutoPairsCardSaid : Prop := Claim7.holds Tryz.pinned (.plain (OpenSpec.ofChange autoPairsSpec)) autoPairsCard

/-- THE TIED CARD OF 'periscopelaw07.AutoGroups'. -/
def autoGroupsCard : Claim7 := { stood := { row := autoGroupsRow, standIns := [], harness := (true, "aeb16d4ca9e8989be3d3129b5a6024abbef9ff2beb5bb4facb06712cb47b59de"), looks := false }, kinds := [], alts := [], laidByText := true, laidKinds := [.data, .data, .data], laidTests := true, laidLooks := .later }
def AutoGroupsCardSaid : Prop := Claim7.holds Tryz.pinned (.plain (OpenSpec.ofChange autoGroupsSpec)) autoGroupsCard

/-- THE TIED CARD OF 'periscopelaw07.AutoLeast'. -/
def autoLeastCard : Claim7 := { stood := { row := autoLeastRow, standIns := [], harness := (true, "aeb16d4ca9e8989be3d3129b5a6024abbef9ff2beb5bb4facb06712cb47b59de"), looks := false }, kinds := [], alts := [], laidByText := true, laidKinds := [.data, .data, .data], laidTests := true, laidLooks := .later }
def AutoLeastCardSaid : Prop := Claim7.holds Tryz.pinned (.plain (OpenSpec.ofChange autoLeastSpec)) autoLeastCard

/-- THE TIED CARD OF 'periscopelaw06.DfaLives'. -/
def dfaLivesCard : Claim7 := { stood := { row := dfaLivesRow, standIns := [], harness := (true, "aeb16d4ca9e8989be3d3129b5a6024abbef9ff2beb5bb4facb06712cb47b59de"), looks := false }, kinds := [], alts := [], laidByText := true, laidKinds := [.data, .data, .data], laidTests := true, laidLooks := .later }
def DfaLivesCardSaid : Prop := Claim7.holds Tryz.pinned (.plain (OpenSpec.ofChange dfaLivesSpec)) dfaLivesCard

/-- THE SECOND FORM's CARD OF 'periscopelaw06.DfaTexts'. -/
def dfaTextsUptoCard : Claim7 := { stood := { row := dfaTextsUptoRow, standIns := [], harness := (true, "aeb16d4ca9e8989be3d3129b5a6024abbef9ff2beb5bb4facb06712cb47b59de"), looks := false }, kinds := [], alts := [], laidByText := true, laidKinds := [.data, .data, .data], laidTests := true, laidLooks := .later }
def DfaTextsUptoCardSaid : Prop := Claim7.holds Tryz.pinned (.plain (OpenSpec.upto dfaTextsSpec)) dfaTextsUptoCard

/-- THE SECOND FORM's CARD OF 'periscopelaw06.DfaBytes'. -/
def dfaBytesUptoCard : Claim7 := { stood := { row := dfaBytesUptoRow, standIns := [], harness := (true, "aeb16d4ca9e8989be3d3129b5a6024abbef9ff2beb5bb4facb06712cb47b59de"), looks := false }, kinds := [], alts := [], laidByText := true, laidKinds := [.data, .data, .data], laidTests := true, laidLooks := .later }
def DfaBytesUptoCardSaid : Prop := Claim7.holds Tryz.pinned (.plain (OpenSpec.upto dfaBytesSpec)) dfaBytesUptoCard

/-- THE SECOND FORM's CARD OF 'periscopelaw06.DfaBuilds'. -/
def dfaBuildsUptoCard : Claim7 := { stood := { row := dfaBuildsUptoRow, standIns := [], harness := (true, "aeb16d4ca9e8989be3d3129b5a6024abbef9ff2beb5bb4facb06712cb47b59de"), looks := false }, kinds := [], alts := [], laidByText := true, laidKinds := [.data, .data, .data], laidTests := true, laidLooks := .later }
def DfaBuildsUptoCardSaid : Prop := Claim7.holds Tryz.pinned (.plain (OpenSpec.upto dfaBuildsSpec)) dfaBuildsUptoCard

/-- THE SECOND FORM's CARD OF 'periscopelaw07.AutoWitness'. -/
def autoWitnessUptoCard : Claim7 := { stood := { row := autoWitnessUptoRow, standIns := [], harness := (true, "aeb16d4ca9e8989be3d3129b5a6024abbef9ff2beb5bb4facb06712cb47b59de"), looks := false }, kinds := [], alts := [], laidByText := true, laidKinds := [.data, .data, .data], laidTests := true, laidLooks := .later }
def AutoWitnessUptoCardSaid : Prop := Claim7.holds Tryz.pinned (.plain (OpenSpec.upto autoWitnessSpec)) autoWitnessUptoCard

/-- THE SECOND FORM's CARD OF 'periscopelaw07.AutoPairs'. -/
def autoPairsUptoCard : Claim7 := { stood := { row := autoPairsUptoRow, standIns := [], harness := (true, "aeb16d4ca9e8989be3d3129b5a6024abbef9ff2beb5bb4facb06712cb47b59de"), looks := false }, kinds := [], alts := [], laidByText := true, laidKinds := [.data, .data, .data], laidTests := true, laidLooks := .later }
def AutoPairsUptoCardSaid : Prop := Claim7.holds Tryz.pinned (.plain (OpenSpec.upto autoPairsSpec)) autoPairsUptoCard

/-- THE SECOND FORM's CARD OF 'periscopelaw07.AutoGroups'. -/
def autoGroupsUptoCard : Claim7 := { stood := { row := autoGroupsUptoRow, standIns := [], harness := (true, "aeb16d4ca9e8989be3d3129b5a6024abbef9ff2beb5bb4facb06712cb47b59de"), looks := false }, kinds := [], alts := [], laidByText := true, laidKinds := [.data, .data, .data], laidTests := true, laidLooks := .later }
def AutoGroupsUptoCardSaid : Prop := Claim7.holds Tryz.pinned (.plain (OpenSpec.upto autoGroupsSpec)) autoGroupsUptoCard

/-- THE SECOND FORM's CARD OF 'periscopelaw07.AutoLeast'. -/
def autoLeastUptoCard : Claim7 := { stood := { row := autoLeastUptoRow, standIns := [], harness := (true, "aeb16d4ca9e8989be3d3129b5a6024abbef9ff2beb5bb4facb06712cb47b59de"), looks := false }, kinds := [], alts := [], laidByText := true, laidKinds := [.data, .data, .data], laidTests := true, laidLooks := .later }
def AutoLeastUptoCardSaid : Prop := Claim7.holds Tryz.pinned (.plain (OpenSpec.upto autoLeastSpec)) autoLeastUptoCard

/-- THE SECOND FORM's CARD OF 'periscopelaw06.DfaLives'. -/
def dfaLivesUptoCard : Claim7 := { stood := { row := dfaLivesUptoRow, standIns := [], harness := (true, "aeb16d4ca9e8989be3d3129b5a6024abbef9ff2beb5bb4facb06712cb47b59de"), looks := false }, kinds := [], alts := [], laidByText := true, laidKinds := [.data, .data, .data], laidTests := true, laidLooks := .later }
def DfaLivesUptoCardSaid : Prop := Claim7.holds Tryz.pinned (.plain (OpenSpec.upto dfaLivesSpec)) dfaLivesUptoCard
end Rows
end Go.Proofs.YtaplejpjmaocdaaGreatDoor
