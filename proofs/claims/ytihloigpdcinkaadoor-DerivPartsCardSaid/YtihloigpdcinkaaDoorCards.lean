/-
  DERIVED. GIVEN WITH THE SEED: THE CARDS: each row of YtihloigpdcinkaaDoorRows.lean that lists a variable, with what it lists TIED to the program's text (the seventh form; the later family's looks); each row that meets fmt, with fmt's text TOLD by the authors' own Lean function (tested against real Go, not proved from fmt's source: count such statements apart). THE CARD IS WHAT COUNTS. Prove the row's statement (the work); the ties are given (YtihloigpdcinkaaDoorTie.lean); close each card by the builder's one call (the guide's Derived/Test/ToyasCard.lean, 'card_holds'). Laid BY PROGRAM, IN A SANDBOX (cutbox-door.mjs). By AI agents, Wed Nov 11 2026. No macro, syntax, notation, axiom, sorry.
-/
import Derived.Test.YtihloigpdcinkaaDoorRows
import GoSem.ClaimSeven
namespace Go.Proofs.YtihloigpdcinkaaDoor
namespace Rows

/-- THE TIED CARD OF 'periscopelaw03.ReOrders'. -/
def reOrdersCard : Claim7 := { stood := { row := reOrdersRow, standIns := [], harness := (true, "e67b2379f35c71bdb3a85835dd2582bf27343b9941be4e61f2c0652ad7206e1f"), looks := false }, kinds := [], alts := [], laidByText := true, laidKinds := [.data, .data, .data], laidTests := true, laidLooks := .later }
def ReOrdersCardSaid : Prop := Claim7.holds Tryd.pinned (.plain (OpenSpec.ofChange reOrdersSpec)) reOrdersCard

/-- THE TIED CARD OF 'periscopelaw03.ReTexts'. -/
def reTextsCard : Claim7 := { stood := { row := reTextsRow, standIns := [], harness := (true, "e67b2379f35c71bdb3a85835dd2582bf27343b9941be4e61f2c0652ad7206e1f"), looks := false }, kinds := [], alts := [], laidByText := true, laidKinds := [.data, .data, .data], laidTests := true, laidLooks := .later }
def ReTextsCardSaid : Prop := Claim7.holds Tryd.pinned (.plain (OpenSpec.ofChange reTextsSpec)) reTextsCard

/-- THE TIED CARD OF 'periscopelaw03.ReWiths'. -/
def reWithsCard : Claim7 := { stood := { row := reWithsRow, standIns := [], harness := (true, "e67b2379f35c71bdb3a85835dd2582bf27343b9941be4e61f2c0652ad7206e1f"), looks := false }, kinds := [], alts := [], laidByText := true, laidKinds := [.data, .data, .data], laidTests := true, laidLooks := .later }
def ReWithsCardSaid : Prop := Claim7.holds Tryd.pinned (.plain (OpenSpec.ofChange reWithsSpec)) reWithsCard

/-- THE TIED CARD OF 'periscopelaw03.ReKeys'. -/
def reKeysCard : Claim7 := { stood := { row := reKeysRow, standIns := [], harness := (true, "e67b2379f35c71bdb3a85835dd2582bf27343b9941be4e61f2c0652ad7206e1f"), looks := false }, kinds := [], alts := [], laidByText := true, laidKinds := [.data, .data, .data], laidTests := true, laidLooks := .later }
def ReKeysCardSaid : Prop := Claim7.holds Tryd.pinned (.plain (OpenSpec.ofChange reKeysSpec)) reKeysCard

/-- THE TIED CARD OF 'periscopelaw05.DerivWords'. -/
def derivWordsCard : Claim7 := { stood := { row := derivWordsRow, standIns := [], harness := (true, "e67b2379f35c71bdb3a85835dd2582bf27343b9941be4e61f2c0652ad7206e1f"), looks := false }, kinds := [], alts := [], laidByText := true, laidKinds := [.data, .data, .data], laidTests := true, laidLooks := .later }
def DerivWordsCardSaid : Prop := Claim7.holds Tryd.pinned (.plain (OpenSpec.ofChange derivWordsSpec)) derivWordsCard

/-- THE TIED CARD OF 'periscopelaw05.DerivTexts'. -/
def derivTextsCard : Claim7 := { stood := { row := derivTextsRow, standIns := [], harness := (true, "e67b2379f35c71bdb3a85835dd2582bf27343b9941be4e61f2c0652ad7206e1f"), looks := false }, kinds := [], alts := [], laidByText := true, laidKinds := [.data, .data, .data], laidTests := true, laidLooks := .later }
def DerivTextsCardSaid : Prop := Claim7.holds Tryd.pinned (.plain (OpenSpec.ofChange derivTextsSpec)) derivTextsCard

/-- THE TIED CARD OF 'periscopelaw05.DerivRules'. -/
def derivRulesCard : Claim7 := { stood := { row := derivRulesRow, standIns := [], harness := (true, "e67b2379f35c71bdb3a85835dd2582bf27343b9941be4e61f2c0652ad7206e1f"), looks := false }, kinds := [], alts := [], laidByText := true, laidKinds := [.data, .data, .data], laidTests := true, laidLooks := .later }
def DerivRulesCardSaid : Prop := Claim7.holds Tryd.pinned (.plain (OpenSpec.ofChange derivRulesSpec)) derivRulesCard

/-- THE TIED CARD OF 'periscopelaw05.DerivParts'. -/
def derivPartsCard : Claim7 := { stood := { row := derivPartsRow, standIns := [], harness := (true, "e67b2379f35c71bdb3a85835dd2582bf27343b9941be4e61f2c0652ad7206e1f"), looks := false }, kinds := [], alts := [], laidByText := true, laidKinds := [.data, .data, .data], laidTests := true, laidLooks := .later }
def DerivPartsCardSaid : Prop := Claim7.holds Tryd.pinned (.plain (OpenSpec.ofChange derivPartsSpec)) derivPartsCard

/-- THE SECOND FORM's CARD OF 'periscopelaw03.ReOrders'. -/
def reOrdersUptoCard : Claim7 := { stood := { row := reOrdersUptoRow, standIns := [], harness := (true, "e67b2379f35c71bdb3a85835dd2582bf27343b9941be4e61f2c0652ad7206e1f"), looks := false }, kinds := [], alts := [], laidByText := true, laidKinds := [.data, .data, .data], laidTests := true, laidLooks := .later }
def ReOrdersUptoCardSaid : Prop := Claim7.holds Tryd.pinned (.plain (OpenSpec.upto reOrdersSpec)) reOrdersUptoCard

/-- THE SECOND FORM's CARD OF 'periscopelaw03.ReTexts'. -/
def reTextsUptoCard : Claim7 := { stood := { row := reTextsUptoRow, standIns := [], harness := (true, "e67b2379f35c71bdb3a85835dd2582bf27343b9941be4e61f2c0652ad7206e1f"), looks := false }, kinds := [], alts := [], laidByText := true, laidKinds := [.data, .data, .data], laidTests := true, laidLooks := .later }
def ReTextsUptoCardSaid : Prop := Claim7.holds Tryd.pinned (.plain (OpenSpec.upto reTextsSpec)) reTextsUptoCard

/-- THE SECOND FORM's CARD OF 'periscopelaw03.ReWiths'. -/
def reWithsUptoCard : Claim7 := { stood := { row := reWithsUptoRow, standIns := [], harness := (true, "e67b2379f35c71bdb3a85835dd2582bf27343b9941be4e61f2c0652ad7206e1f"), looks := false }, kinds := [], alts := [], laidByText := true, laidKinds := [.data, .data, .data], laidTests := true, laidLooks := .later }
def ReWithsUptoCardSaid : Prop := Claim7.holds Tryd.pinned (.plain (OpenSpec.upto reWithsSpec)) reWithsUptoCard

/-- THE SECOND FORM's CARD OF 'periscopelaw03.ReKeys'. -/
def reKeysUptoCard : Claim7 := { stood := { row := reKeysUptoRow, standIns := [], harness := (true, "e67b2379f35c71bdb3a85835dd2582bf27343b9941be4e61f2c0652ad7206e1f"), looks := false }, kinds := [], alts := [], laidByText := true, laidKinds := [.data, .data, .data], laidTests := true, laidLooks := .later }
def ReKeysUptoCardSaid : Prop := Claim7.holds Tryd.pinned (.plain (OpenSpec.upto reKeysSpec)) reKeysUptoCard

/-- THE SECOND FORM's CARD OF 'periscopelaw05.DerivWords'. -/
def derivWordsUptoCard : Claim7 := { stood := { row := derivWordsUptoRow, standIns := [], harness := (true, "e67b2379f35c71bdb3a85835dd2582bf27343b9941be4e61f2c0652ad7206e1f"), looks := false }, kinds := [], alts := [], laidByText := true, laidKinds := [.data, .data, .data], laidTests := true, laidLooks := .later }
def DerivWordsUptoCardSaid : Prop := Claim7.holds Tryd.pinned (.plain (OpenSpec.upto derivWordsSpec)) derivWordsUptoCard

/-- THE SECOND FORM's CARD OF 'periscopelaw05.DerivTexts'. -/
def derivTextsUptoCard : Claim7 := { stood := { row := derivTextsUptoRow, standIns := [], harness := (true, "e67b2379f35c71bdb3a85835dd2582bf27343b9941be4e61f2c0652ad7206e1f"), looks := false }, kinds := [], alts := [], laidByText := true, laidKinds := [.data, .data, .data], laidTests := true, laidLooks := .later }
def DerivTextsUptoCardSaid : Prop := Claim7.holds Tryd.pinned (.plain (OpenSpec.upto derivTextsSpec)) derivTextsUptoCard

/-- THE SECOND FORM's CARD OF 'periscopelaw05.DerivRules'. -/
def derivRulesUptoCard : Claim7 := { stood := { row := derivRulesUptoRow, standIns := [], harness := (true, "e67b2379f35c71bdb3a85835dd2582bf27343b9941be4e61f2c0652ad7206e1f"), looks := false }, kinds := [], alts := [], laidByText := true, laidKinds := [.data, .data, .data], laidTests := true, laidLooks := .later }
def DerivRulesUptoCardSaid : Prop := Claim7.holds Tryd.pinned (.plain (OpenSpec.upto derivRulesSpec)) derivRulesUptoCard

/-- THE SECOND FORM's CARD OF 'periscopelaw05.DerivParts'. -/
def derivPartsUptoCard : Claim7 := { stood := { row := derivPartsUptoRow, standIns := [], harness := (true, "e67b2379f35c71bdb3a85835dd2582bf27343b9941be4e61f2c0652ad7206e1f"), looks := false }, kinds := [], alts := [], laidByText := true, laidKinds := [.data, .data, .data], laidTests := true, laidLooks := .later }
def DerivPartsUptoCardSaid : Prop := Claim7.holds Tryd.pinned (.plain (OpenSpec.upto derivPartsSpec)) derivPartsUptoCard
end Rows
end Go.Proofs.YtihloigpdcinkaaDoor
