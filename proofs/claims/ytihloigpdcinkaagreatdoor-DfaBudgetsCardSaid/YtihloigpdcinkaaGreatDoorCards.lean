/-
  DERIVED. GIVEN WITH THE SEED: THE CARDS: each row of YtihloigpdcinkaaGreatDoorRows.lean that lists a variable, with what it lists TIED to the program's text (the seventh form; the later family's looks); each row that meets fmt, with fmt's text TOLD by the authors' own Lean function (tested against real Go, not proved from fmt's source: count such statements apart). THE CARD IS WHAT COUNTS. Prove the row's statement (the work); the ties are given (YtihloigpdcinkaaGreatDoorTie.lean); close each card by the builder's one call (the guide's Derived/Test/ToyasCard.lean, 'card_holds'). Laid BY PROGRAM, IN A SANDBOX (cutbox-door.mjs). By AI agents, Wed Nov 11 2026. No macro, syntax, notation, axiom, sorry.
-/
import Derived.Test.YtihloigpdcinkaaGreatDoorRows
import GoSem.ClaimSeven
namespace Go.Proofs.YtihloigpdcinkaaGreatDoor
namespace Rows

/-- THE TIED CARD OF 'periscopelaw06.DfaBudgets'. -/
def dfaBudgetsCard : Claim7 := { stood := { row := dfaBudgetsRow, standIns := [], harness := (true, "60130e5ca9ef2b31b1ddd89e905571aee5c91de34fa7788245adcc4e11c668b0"), looks := false }, kinds := [], alts := [], laidByText := true, laidKinds := [.data, .data, .data], laidTests := true, laidLooks := .later }
def DfaBudgetsCardSaid : Prop := Claim7.holds Tryz.pinned (.plain (OpenSpec.ofChange dfaBudgetsSpec)) dfaBudgetsCard

/-- THE TIED CARD OF 'periscopelaw06.DfaTexts'. -/
def dfaTextsCard : Claim7 := { stood := { row := dfaTextsRow, standIns := [], harness := (true, "60130e5ca9ef2b31b1ddd89e905571aee5c91de34fa7788245adcc4e11c668b0"), looks := false }, kinds := [], alts := [], laidByText := true, laidKinds := [.data, .data, .data], laidTests := true, laidLooks := .later }
def DfaTextsCardSaid : Prop := Claim7.holds Tryz.pinned (.plain (OpenSpec.ofChange dfaTextsSpec)) dfaTextsCard

/-- THE TIED CARD OF 'periscopelaw06.DfaBytes'. -/
def dfaBytesCard : Claim7 := { stood := { row := dfaBytesRow, standIns := [], harness := (true, "60130e5ca9ef2b31b1ddd89e905571aee5c91de34fa7788245adcc4e11c668b0"), looks := false }, kinds := [], alts := [], laidByText := true, laidKinds := [.data, .data, .data], laidTests := true, laidLooks := .later }
def DfaBytesCardSaid : Prop := Claim7.holds Tryz.pinned (.plain (OpenSpec.ofChange dfaBytesSpec)) dfaBytesCard

/-- THE TIED CARD OF 'periscopelaw06.DfaBuilds'. -/
def dfaBuildsCard : Claim7 := { stood := { row := dfaBuildsRow, standIns := [], harness := (true, "60130e5ca9ef2b31b1ddd89e905571aee5c91de34fa7788245adcc4e11c668b0"), looks := false }, kinds := [], alts := [], laidByText := true, laidKinds := [.data, .data, .data], laidTests := true, laidLooks := .later }
def DfaBuildsCardSaid : Prop := Claim7.holds Tryz.pinned (.plain (OpenSpec.ofChange dfaBuildsSpec)) dfaBuildsCard

/-- THE SECOND FORM's CARD OF 'periscopelaw06.DfaBudgets'. -/
def dfaBudgetsUptoCard : Claim7 := { stood := { row := dfaBudgetsUptoRow, standIns := [], harness := (true, "60130e5ca9ef2b31b1ddd89e905571aee5c91de34fa7788245adcc4e11c668b0"), looks := false }, kinds := [], alts := [], laidByText := true, laidKinds := [.data, .data, .data], laidTests := true, laidLooks := .later }
def DfaBudgetsUptoCardSaid : Prop := Claim7.holds Tryz.pinned (.plain (OpenSpec.upto dfaBudgetsSpec)) dfaBudgetsUptoCard

/-- THE SECOND FORM's CARD OF 'periscopelaw06.DfaTexts'. -/
def dfaTextsUptoCard : Claim7 := { stood := { row := dfaTextsUptoRow, standIns := [], harness := (true, "60130e5ca9ef2b31b1ddd89e905571aee5c91de34fa7788245adcc4e11c668b0"), looks := false }, kinds := [], alts := [], laidByText := true, laidKinds := [.data, .data, .data], laidTests := true, laidLooks := .later }
def DfaTextsUptoCardSaid : Prop := Claim7.holds Tryz.pinned (.plain (OpenSpec.upto dfaTextsSpec)) dfaTextsUptoCard

/-- THE SECOND FORM's CARD OF 'periscopelaw06.DfaBytes'. -/
def dfaBytesUptoCard : Claim7 := { stood := { row := dfaBytesUptoRow, standIns := [], harness := (true, "60130e5ca9ef2b31b1ddd89e905571aee5c91de34fa7788245adcc4e11c668b0"), looks := false }, kinds := [], alts := [], laidByText := true, laidKinds := [.data, .data, .data], laidTests := true, laidLooks := .later }
def DfaBytesUptoCardSaid : Prop := Claim7.holds Tryz.pinned (.plain (OpenSpec.upto dfaBytesSpec)) dfaBytesUptoCard

/-- THE SECOND FORM's CARD OF 'periscopelaw06.DfaBuilds'. -/
def dfaBuildsUptoCard : Claim7 := { stood := { row := dfaBuildsUptoRow, standIns := [], harness := (true, "60130e5ca9ef2b31b1ddd89e905571aee5c91de34fa7788245adcc4e11c668b0"), looks := false }, kinds := [], alts := [], laidByText := true, laidKinds := [.data, .data, .data], laidTests := true, laidLooks := .later }
def DfaBuildsUptoCardSaid : Prop := Claim7.holds Tryz.pinned (.plain (OpenSpec.upto dfaBuildsSpec)) dfaBuildsUptoCard
end Rows
end Go.Proofs.YtihloigpdcinkaaGreatDoor
