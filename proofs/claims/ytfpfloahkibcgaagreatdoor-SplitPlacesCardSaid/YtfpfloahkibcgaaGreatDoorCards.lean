/-
  DERIVED. GIVEN WITH THE SEED: THE CARDS: each row of YtfpfloahkibcgaaGreatDoorRows.lean that lists a variable, with what it lists TIED to the program's text (the seventh form; the later family's looks); each row that meets fmt, with fmt's text TOLD by the authors' own Lean function (tested against real Go, not proved from fmt's source: count such statements apart). THE CARD IS WHAT COUNTS. Prove the row's statement (the work); the ties are given (YtfpfloahkibcgaaGreatDoorTie.lean); close each card by the builder's one call (the guide's Derived/Test/ToyasCard.lean, 'card_holds'). Laid BY PROGRAM, IN A SANDBOX (cutbox-door.mjs). By AI agents, Wed Nov 11 2026. No macro, syntax, notation, axiom, sorry.
-/
import Derived.Test.YtfpfloahkibcgaaGreatDoorRows
import GoSem.ClaimSeven
namespace Go.Proofs.YtfpfloahkibcgaaGreatDoor
namespace Rows

/-- THE TIED CARD OF 'periscopelaw09.SplitPlaces'. -/
def splitPlacesCard : Claim7 := { stood := { row := splitPlacesRow, standIns := [], harness := (true, "8d21d5fd53e38c83ccc4365b58c4822fcef5bdc9a1ba072ebb4ff43433d27ae3"), looks := false }, kinds := [], alts := [], laidByText := true, laidKinds := [.data, .data, .data], laidTests := true, laidLooks := .later }
def SplitPlacesCardSaid : Prop := Claim7.holds Tryz.pinned (.plain (OpenSpec.ofChange splitPlacesSpec)) splitPlacesCard

/-- THE TIED CARD OF 'periscopelaw09.SplitFuels'. -/
def splitFuelsCard : Claim7 := { stood := { row := splitFuelsRow, standIns := [], harness := (true, "8d21d5fd53e38c83ccc4365b58c4822fcef5bdc9a1ba072ebb4ff43433d27ae3"), looks := false }, kinds := [], alts := [], laidByText := true, laidKinds := [.data, .data, .data], laidTests := true, laidLooks := .later }
def SplitFuelsCardSaid : Prop := Claim7.holds Tryz.pinned (.plain (OpenSpec.ofChange splitFuelsSpec)) splitFuelsCard

/-- THE TIED CARD OF 'periscopelaw14.ElimTexts'. -/
def elimTextsCard : Claim7 := { stood := { row := elimTextsRow, standIns := [], harness := (true, "8d21d5fd53e38c83ccc4365b58c4822fcef5bdc9a1ba072ebb4ff43433d27ae3"), looks := false }, kinds := [], alts := [], laidByText := true, laidKinds := [.data, .data, .data], laidTests := true, laidLooks := .later }
def ElimTextsCardSaid : Prop := Claim7.holds Tryz.pinned (.plain (OpenSpec.ofChange elimTextsSpec)) elimTextsCard

/-- THE TIED CARD OF 'periscopelaw14.ElimSolves'. -/
def elimSolvesCard : Claim7 := { stood := { row := elimSolvesRow, standIns := [], harness := (true, "8d21d5fd53e38c83ccc4365b58c4822fcef5bdc9a1ba072ebb4ff43433d27ae3"), looks := false }, kinds := [], alts := [], laidByText := true, laidKinds := [.data, .data, .data], laidTests := true, laidLooks := .later }
def ElimSolvesCardSaid : Prop := Claim7.holds Tryz.pinned (.plain (OpenSpec.ofChange elimSolvesSpec)) elimSolvesCard

/-- THE TIED CARD OF 'periscopelaw14.ElimBetween'. -/
def elimBetweenCard : Claim7 := { stood := { row := elimBetweenRow, standIns := [], harness := (true, "8d21d5fd53e38c83ccc4365b58c4822fcef5bdc9a1ba072ebb4ff43433d27ae3"), looks := false }, kinds := [], alts := [], laidByText := true, laidKinds := [.data, .data, .data], laidTests := true, laidLooks := .later }
def ElimBetweenCardSaid : Prop := Claim7.holds Tryz.pinned (.plain (OpenSpec.ofChange elimBetweenSpec)) elimBetweenCard

/-- THE TIED CARD OF 'periscopelaw14.ElimErrors'. -/
def elimErrorsCard : Claim7 := { stood := { row := elimErrorsRow, standIns := [], harness := (true, "8d21d5fd53e38c83ccc4365b58c4822fcef5bdc9a1ba072ebb4ff43433d27ae3"), looks := false }, kinds := [], alts := [], laidByText := true, laidKinds := [.data, .data, .data], laidTests := true, laidLooks := .later }
def ElimErrorsCardSaid : Prop := Claim7.holds Tryz.pinned (.plain (OpenSpec.ofChange elimErrorsSpec)) elimErrorsCard

/-- THE TIED CARD OF 'periscopelaw12.TableNumbers'. -/
def tableNumbersCard : Claim7 := { stood := { row := tableNumbersRow, standIns := [], harness := (true, "8d21d5fd53e38c83ccc4365b58c4822fcef5bdc9a1ba072ebb4ff43433d27ae3"), looks := false }, kinds := [], alts := [], laidByText := true, laidKinds := [.data, .data, .data], laidTests := true, laidLooks := .later }
def TableNumbersCardSaid : Prop := Claim7.holds Tryz.pinned (.plain (OpenSpec.ofChange tableNumbersSpec)) tableNumbersCard

/-- THE TIED CARD OF 'periscopelaw12.TableTwins'. -/
def tableTwinsCard : Claim7 := { stood := { row := tableTwinsRow, standIns := [], harness := (true, "8d21d5fd53e38c83ccc4365b58c4822fcef5bdc9a1ba072ebb4ff43433d27ae3"), looks := false }, kinds := [], alts := [], laidByText := true, laidKinds := [.data, .data, .data], laidTests := true, laidLooks := .later }
def TableTwinsCardSaid : Prop := Claim7.holds Tryz.pinned (.plain (OpenSpec.ofChange tableTwinsSpec)) tableTwinsCard

/-- THE TIED CARD OF 'periscopelaw14.ElimInduct'. -/
def elimInductCard : Claim7 := { stood := { row := elimInductRow, standIns := [], harness := (true, "8d21d5fd53e38c83ccc4365b58c4822fcef5bdc9a1ba072ebb4ff43433d27ae3"), looks := false }, kinds := [], alts := [], laidByText := true, laidKinds := [.data, .data, .data], laidTests := true, laidLooks := .later }
def ElimInductCardSaid : Prop := Claim7.holds Tryz.pinned (.plain (OpenSpec.ofChange elimInductSpec)) elimInductCard

/-- THE TIED CARD OF 'periscopelaw14.ElimArden'. -/
def elimArdenCard : Claim7 := { stood := { row := elimArdenRow, standIns := [], harness := (true, "8d21d5fd53e38c83ccc4365b58c4822fcef5bdc9a1ba072ebb4ff43433d27ae3"), looks := false }, kinds := [], alts := [], laidByText := true, laidKinds := [.data, .data, .data], laidTests := true, laidLooks := .later }
def ElimArdenCardSaid : Prop := Claim7.holds Tryz.pinned (.plain (OpenSpec.ofChange elimArdenSpec)) elimArdenCard

/-- THE TIED CARD OF 'periscopelaw14.ElimLaws'. -/
def elimLawsCard : Claim7 := { stood := { row := elimLawsRow, standIns := [], harness := (true, "8d21d5fd53e38c83ccc4365b58c4822fcef5bdc9a1ba072ebb4ff43433d27ae3"), looks := false }, kinds := [], alts := [], laidByText := true, laidKinds := [.data, .data, .data], laidTests := true, laidLooks := .later }
def ElimLawsCardSaid : Prop := Claim7.holds Tryz.pinned (.plain (OpenSpec.ofChange elimLawsSpec)) elimLawsCard

/-- THE TIED CARD OF 'periscopelaw12.TableRuns'. -/
def tableRunsCard : Claim7 := { stood := { row := tableRunsRow, standIns := [], harness := (true, "8d21d5fd53e38c83ccc4365b58c4822fcef5bdc9a1ba072ebb4ff43433d27ae3"), looks := false }, kinds := [], alts := [], laidByText := true, laidKinds := [.data, .data, .data], laidTests := true, laidLooks := .later }
def TableRunsCardSaid : Prop := Claim7.holds Tryz.pinned (.plain (OpenSpec.ofChange tableRunsSpec)) tableRunsCard

/-- THE SECOND FORM's CARD OF 'periscopelaw09.SplitPlaces'. -/
def splitPlacesUptoCard : Claim7 := { stood := { row := splitPlacesUptoRow, standIns := [], harness := (true, "8d21d5fd53e38c83ccc4365b58c4822fcef5bdc9a1ba072ebb4ff43433d27ae3"), looks := false }, kinds := [], alts := [], laidByText := true, laidKinds := [.data, .data, .data], laidTests := true, laidLooks := .later }
def SplitPlacesUptoCardSaid : Prop := Claim7.holds Tryz.pinned (.plain (OpenSpec.upto splitPlacesSpec)) splitPlacesUptoCard

/-- THE SECOND FORM's CARD OF 'periscopelaw09.SplitFuels'. -/
def splitFuelsUptoCard : Claim7 := { stood := { row := splitFuelsUptoRow, standIns := [], harness := (true, "8d21d5fd53e38c83ccc4365b58c4822fcef5bdc9a1ba072ebb4ff43433d27ae3"), looks := false }, kinds := [], alts := [], laidByText := true, laidKinds := [.data, .data, .data], laidTests := true, laidLooks := .later }
def SplitFuelsUptoCardSaid : Prop := Claim7.holds Tryz.pinned (.plain (OpenSpec.upto splitFuelsSpec)) splitFuelsUptoCard

/-- THE SECOND FORM's CARD OF 'periscopelaw14.ElimTexts'. -/
def elimTextsUptoCard : Claim7 := { stood := { row := elimTextsUptoRow, standIns := [], harness := (true, "8d21d5fd53e38c83ccc4365b58c4822fcef5bdc9a1ba072ebb4ff43433d27ae3"), looks := false }, kinds := [], alts := [], laidByText := true, laidKinds := [.data, .data, .data], laidTests := true, laidLooks := .later }
def ElimTextsUptoCardSaid : Prop := Claim7.holds Tryz.pinned (.plain (OpenSpec.upto elimTextsSpec)) elimTextsUptoCard

/-- THE SECOND FORM's CARD OF 'periscopelaw14.ElimSolves'. -/
def elimSolvesUptoCard : Claim7 := { stood := { row := elimSolvesUptoRow, standIns := [], harness := (true, "8d21d5fd53e38c83ccc4365b58c4822fcef5bdc9a1ba072ebb4ff43433d27ae3"), looks := false }, kinds := [], alts := [], laidByText := true, laidKinds := [.data, .data, .data], laidTests := true, laidLooks := .later }
def ElimSolvesUptoCardSaid : Prop := Claim7.holds Tryz.pinned (.plain (OpenSpec.upto elimSolvesSpec)) elimSolvesUptoCard

/-- THE SECOND FORM's CARD OF 'periscopelaw14.ElimBetween'. -/
def elimBetweenUptoCard : Claim7 := { stood := { row := elimBetweenUptoRow, standIns := [], harness := (true, "8d21d5fd53e38c83ccc4365b58c4822fcef5bdc9a1ba072ebb4ff43433d27ae3"), looks := false }, kinds := [], alts := [], laidByText := true, laidKinds := [.data, .data, .data], laidTests := true, laidLooks := .later }
def ElimBetweenUptoCardSaid : Prop := Claim7.holds Tryz.pinned (.plain (OpenSpec.upto elimBetweenSpec)) elimBetweenUptoCard

/-- THE SECOND FORM's CARD OF 'periscopelaw14.ElimErrors'. -/
def elimErrorsUptoCard : Claim7 := { stood := { row := elimErrorsUptoRow, standIns := [], harness := (true, "8d21d5fd53e38c83ccc4365b58c4822fcef5bdc9a1ba072ebb4ff43433d27ae3"), looks := false }, kinds := [], alts := [], laidByText := true, laidKinds := [.data, .data, .data], laidTests := true, laidLooks := .later }
def ElimErrorsUptoCardSaid : Prop := Claim7.holds Tryz.pinned (.plain (OpenSpec.upto elimErrorsSpec)) elimErrorsUptoCard

/-- THE SECOND FORM's CARD OF 'periscopelaw12.TableNumbers'. -/
def tableNumbersUptoCard : Claim7 := { stood := { row := tableNumbersUptoRow, standIns := [], harness := (true, "8d21d5fd53e38c83ccc4365b58c4822fcef5bdc9a1ba072ebb4ff43433d27ae3"), looks := false }, kinds := [], alts := [], laidByText := true, laidKinds := [.data, .data, .data], laidTests := true, laidLooks := .later }
def TableNumbersUptoCardSaid : Prop := Claim7.holds Tryz.pinned (.plain (OpenSpec.upto tableNumbersSpec)) tableNumbersUptoCard

/-- THE SECOND FORM's CARD OF 'periscopelaw12.TableTwins'. -/
def tableTwinsUptoCard : Claim7 := { stood := { row := tableTwinsUptoRow, standIns := [], harness := (true, "8d21d5fd53e38c83ccc4365b58c4822fcef5bdc9a1ba072ebb4ff43433d27ae3"), looks := false }, kinds := [], alts := [], laidByText := true, laidKinds := [.data, .data, .data], laidTests := true, laidLooks := .later }
def TableTwinsUptoCardSaid : Prop := Claim7.holds Tryz.pinned (.plain (OpenSpec.upto tableTwinsSpec)) tableTwinsUptoCard

/-- THE SECOND FORM's CARD OF 'periscopelaw14.ElimInduct'. -/
def elimInductUptoCard : Claim7 := { stood := { row := elimInductUptoRow, standIns := [], harness := (true, "8d21d5fd53e38c83ccc4365b58c4822fcef5bdc9a1ba072ebb4ff43433d27ae3"), looks := false }, kinds := [], alts := [], laidByText := true, laidKinds := [.data, .data, .data], laidTests := true, laidLooks := .later }
def ElimInductUptoCardSaid : Prop := Claim7.holds Tryz.pinned (.plain (OpenSpec.upto elimInductSpec)) elimInductUptoCard

/-- THE SECOND FORM's CARD OF 'periscopelaw14.ElimArden'. -/
def elimArdenUptoCard : Claim7 := { stood := { row := elimArdenUptoRow, standIns := [], harness := (true, "8d21d5fd53e38c83ccc4365b58c4822fcef5bdc9a1ba072ebb4ff43433d27ae3"), looks := false }, kinds := [], alts := [], laidByText := true, laidKinds := [.data, .data, .data], laidTests := true, laidLooks := .later }
def ElimArdenUptoCardSaid : Prop := Claim7.holds Tryz.pinned (.plain (OpenSpec.upto elimArdenSpec)) elimArdenUptoCard

/-- THE SECOND FORM's CARD OF 'periscopelaw14.ElimLaws'. -/
def elimLawsUptoCard : Claim7 := { stood := { row := elimLawsUptoRow, standIns := [], harness := (true, "8d21d5fd53e38c83ccc4365b58c4822fcef5bdc9a1ba072ebb4ff43433d27ae3"), looks := false }, kinds := [], alts := [], laidByText := true, laidKinds := [.data, .data, .data], laidTests := true, laidLooks := .later }
def ElimLawsUptoCardSaid : Prop := Claim7.holds Tryz.pinned (.plain (OpenSpec.upto elimLawsSpec)) elimLawsUptoCard

/-- THE SECOND FORM's CARD OF 'periscopelaw12.TableRuns'. -/
def tableRunsUptoCard : Claim7 := { stood := { row := tableRunsUptoRow, standIns := [], harness := (true, "8d21d5fd53e38c83ccc4365b58c4822fcef5bdc9a1ba072ebb4ff43433d27ae3"), looks := false }, kinds := [], alts := [], laidByText := true, laidKinds := [.data, .data, .data], laidTests := true, laidLooks := .later }
def TableRunsUptoCardSaid : Prop := Claim7.holds Tryz.pinned (.plain (OpenSpec.upto tableRunsSpec)) tableRunsUptoCard
end Rows
end Go.Proofs.YtfpfloahkibcgaaGreatDoor
