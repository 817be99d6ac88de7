/-
  DERIVED. GIVEN WITH THE SEED: THE CARDS: each row of YtppobdnacmdgbaaDoorRows.lean that lists a variable, with what it lists TIED to the program's text (the seventh form; the later family's looks); each row that meets fmt, with fmt's text TOLD by the authors' own Lean function (tested against real Go, not proved from fmt's source: count such statements apart). THE CARD IS WHAT COUNTS. Prove the row's statement (the work); the ties are given (YtppobdnacmdgbaaDoorTie.lean); close each card by the builder's one call (the guide's Derived/Test/ToyasCard.lean, 'card_holds'). Laid BY PROGRAM, IN A SANDBOX (cutbox-door.mjs). By AI agents, Wed Nov 11 2026. No macro, syntax, notation, axiom, sorry.
-/
import Derived.Test.YtppobdnacmdgbaaDoorRows
import GoSem.ClaimSeven
namespace Go.Proofs.YtppobdnacmdgbaaDoor
namespace Rows

/-- THE TIED CARD OF 'typecaselaw14.MacroHeads'. -/
def macroHeadsCard : Claim7 := { stood := { row := macroHeadsRow, standIns := [], harness := (true, "7e024257dfdd4c2811d94e657717f1c37e59ed733beb333ab008c0f4f0e5eab1"), looks := true }, kinds := [], alts := [], laidByText := true, laidKinds := [.handle], laidTests := true, laidLooks := .later }
def MacroHeadsCardSaid : Prop := Claim7.holds Tryd.pinned (.plain (OpenSpec.ofChange macroHeadsSpec)) macroHeadsCard

/-- THE TIED CARD OF 'typecaselaw14.MacroBinds'. -/
def macroBindsCard : Claim7 := { stood := { row := macroBindsRow, standIns := [], harness := (true, "7e024257dfdd4c2811d94e657717f1c37e59ed733beb333ab008c0f4f0e5eab1"), looks := true }, kinds := [], alts := [], laidByText := true, laidKinds := [.handle], laidTests := true, laidLooks := .later }
def MacroBindsCardSaid : Prop := Claim7.holds Tryd.pinned (.plain (OpenSpec.ofChange macroBindsSpec)) macroBindsCard

/-- THE TIED CARD OF 'typecaselaw14.MacroParts'. -/
def macroPartsCard : Claim7 := { stood := { row := macroPartsRow, standIns := [], harness := (true, "7e024257dfdd4c2811d94e657717f1c37e59ed733beb333ab008c0f4f0e5eab1"), looks := true }, kinds := [], alts := [], laidByText := true, laidKinds := [.handle], laidTests := true, laidLooks := .later }
def MacroPartsCardSaid : Prop := Claim7.holds Tryd.pinned (.plain (OpenSpec.ofChange macroPartsSpec)) macroPartsCard

/-- THE TIED CARD OF 'typecaselaw12.EvalNodes'. -/
def evalNodesCard : Claim7 := { stood := { row := evalNodesRow, standIns := [], harness := (true, "7e024257dfdd4c2811d94e657717f1c37e59ed733beb333ab008c0f4f0e5eab1"), looks := true }, kinds := [], alts := [], laidByText := true, laidKinds := [.handle], laidTests := true, laidLooks := .later }
def EvalNodesCardSaid : Prop := Claim7.holds Tryd.pinned (.plain (OpenSpec.ofChange evalNodesSpec)) evalNodesCard

/-- THE TIED CARD OF 'typecaselaw12.EvalTexts'. -/
def evalTextsCard : Claim7 := { stood := { row := evalTextsRow, standIns := [], harness := (true, "7e024257dfdd4c2811d94e657717f1c37e59ed733beb333ab008c0f4f0e5eab1"), looks := true }, kinds := [], alts := [], laidByText := true, laidKinds := [.handle], laidTests := true, laidLooks := .later }
def EvalTextsCardSaid : Prop := Claim7.holds Tryd.pinned (.plain (OpenSpec.ofChange evalTextsSpec)) evalTextsCard

/-- THE TIED CARD OF 'typecaselaw12.EvalEarly'. -/
def evalEarlyCard : Claim7 := { stood := { row := evalEarlyRow, standIns := [], harness := (true, "7e024257dfdd4c2811d94e657717f1c37e59ed733beb333ab008c0f4f0e5eab1"), looks := true }, kinds := [], alts := [], laidByText := true, laidKinds := [.handle], laidTests := true, laidLooks := .later }
def EvalEarlyCardSaid : Prop := Claim7.holds Tryd.pinned (.plain (OpenSpec.ofChange evalEarlySpec)) evalEarlyCard

/-- THE TIED CARD OF 'typecaselaw12.EvalMoves'. -/
def evalMovesCard : Claim7 := { stood := { row := evalMovesRow, standIns := [], harness := (true, "7e024257dfdd4c2811d94e657717f1c37e59ed733beb333ab008c0f4f0e5eab1"), looks := true }, kinds := [], alts := [], laidByText := true, laidKinds := [.handle], laidTests := true, laidLooks := .later }
def EvalMovesCardSaid : Prop := Claim7.holds Tryd.pinned (.plain (OpenSpec.ofChange evalMovesSpec)) evalMovesCard

/-- THE TIED CARD OF 'typecaselaw12.EvalHalves'. -/
def evalHalvesCard : Claim7 := { stood := { row := evalHalvesRow, standIns := [], harness := (true, "7e024257dfdd4c2811d94e657717f1c37e59ed733beb333ab008c0f4f0e5eab1"), looks := true }, kinds := [], alts := [], laidByText := true, laidKinds := [.handle], laidTests := true, laidLooks := .later }
def EvalHalvesCardSaid : Prop := Claim7.holds Tryd.pinned (.plain (OpenSpec.ofChange evalHalvesSpec)) evalHalvesCard

/-- THE TIED CARD OF 'typecaselaw14.MacroPlain'. -/
def macroPlainCard : Claim7 := { stood := { row := macroPlainRow, standIns := [], harness := (true, "7e024257dfdd4c2811d94e657717f1c37e59ed733beb333ab008c0f4f0e5eab1"), looks := true }, kinds := [], alts := [], laidByText := true, laidKinds := [.handle], laidTests := true, laidLooks := .later }
def MacroPlainCardSaid : Prop := Claim7.holds Tryd.pinned (.plain (OpenSpec.ofChange macroPlainSpec)) macroPlainCard

/-- THE SECOND FORM's CARD OF 'typecaselaw14.MacroHeads'. -/
def macroHeadsUptoCard : Claim7 := { stood := { row := macroHeadsUptoRow, standIns := [], harness := (true, "7e024257dfdd4c2811d94e657717f1c37e59ed733beb333ab008c0f4f0e5eab1"), looks := true }, kinds := [], alts := [], laidByText := true, laidKinds := [.handle], laidTests := true, laidLooks := .later }
def MacroHeadsUptoCardSaid : Prop := Claim7.holds Tryd.pinned (.plain (OpenSpec.upto macroHeadsSpec)) macroHeadsUptoCard

/-- THE SECOND FORM's CARD OF 'typecaselaw14.MacroBinds'. -/
def macroBindsUptoCard : Claim7 := { stood := { row := macroBindsUptoRow, standIns := [], harness := (true, "7e024257dfdd4c2811d94e657717f1c37e59ed733beb333ab008c0f4f0e5eab1"), looks := true }, kinds := [], alts := [], laidByText := true, laidKinds := [.handle], laidTests := true, laidLooks := .later }
def MacroBindsUptoCardSaid : Prop := Claim7.holds Tryd.pinned (.plain (OpenSpec.upto macroBindsSpec)) macroBindsUptoCard

/-- THE SECOND FORM's CARD OF 'typecaselaw14.MacroParts'. -/
def macroPartsUptoCard : Claim7 := { stood := { row := macroPartsUptoRow, standIns := [], harness := (true, "7e024257dfdd4c2811d94e657717f1c37e59ed733beb333ab008c0f4f0e5eab1"), looks := true }, kinds := [], alts := [], laidByText := true, laidKinds := [.handle], laidTests := true, laidLooks := .later }
def MacroPartsUptoCardSaid : Prop := Claim7.holds Tryd.pinned (.plain (OpenSpec.upto macroPartsSpec)) macroPartsUptoCard

/-- THE SECOND FORM's CARD OF 'typecaselaw12.EvalNodes'. -/
def evalNodesUptoCard : Claim7 := { stood := { row := evalNodesUptoRow, standIns := [], harness := (true, "7e024257dfdd4c2811d94e657717f1c37e59ed733beb333ab008c0f4f0e5eab1"), looks := true }, kinds := [], alts := [], laidByText := true, laidKinds := [.handle], laidTests := true, laidLooks := .later }
def EvalNodesUptoCardSaid : Prop := Claim7.holds Tryd.pinned (.plain (OpenSpec.upto evalNodesSpec)) evalNodesUptoCard

/-- THE SECOND FORM's CARD OF 'typecaselaw12.EvalTexts'. -/
def evalTextsUptoCard : Claim7 := { stood := { row := evalTextsUptoRow, standIns := [], harness := (true, "7e024257dfdd4c2811d94e657717f1c37e59ed733beb333ab008c0f4f0e5eab1"), looks := true }, kinds := [], alts := [], laidByText := true, laidKinds := [.handle], laidTests := true, laidLooks := .later }
def EvalTextsUptoCardSaid : Prop := Claim7.holds Tryd.pinned (.plain (OpenSpec.upto evalTextsSpec)) evalTextsUptoCard

/-- THE SECOND FORM's CARD OF 'typecaselaw12.EvalEarly'. -/
def evalEarlyUptoCard : Claim7 := { stood := { row := evalEarlyUptoRow, standIns := [], harness := (true, "7e024257dfdd4c2811d94e657717f1c37e59ed733beb333ab008c0f4f0e5eab1"), looks := true }, kinds := [], alts := [], laidByText := true, laidKinds := [.handle], laidTests := true, laidLooks := .later }
def EvalEarlyUptoCardSaid : Prop := Claim7.holds Tryd.pinned (.plain (OpenSpec.upto evalEarlySpec)) evalEarlyUptoCard

/-- THE SECOND FORM's CARD OF 'typecaselaw12.EvalMoves'. -/
def evalMovesUptoCard : Claim7 := { stood := { row := evalMovesUptoRow, standIns := [], harness := (true, "7e024257dfdd4c2811d94e657717f1c37e59ed733beb333ab008c0f4f0e5eab1"), looks := true }, kinds := [], alts := [], laidByText := true, laidKinds := [.handle], laidTests := true, laidLooks := .later }
def EvalMovesUptoCardSaid : Prop := Claim7.holds Tryd.pinned (.plain (OpenSpec.upto evalMovesSpec)) evalMovesUptoCard

/-- THE SECOND FORM's CARD OF 'typecaselaw12.EvalHalves'. -/
def evalHalvesUptoCard : Claim7 := { stood := { row := evalHalvesUptoRow, standIns := [], harness := (true, "7e024257dfdd4c2811d94e657717f1c37e59ed733beb333ab008c0f4f0e5eab1"), looks := true }, kinds := [], alts := [], laidByText := true, laidKinds := [.handle], laidTests := true, laidLooks := .later }
def EvalHalvesUptoCardSaid : Prop := Claim7.holds Tryd.pinned (.plain (OpenSpec.upto evalHalvesSpec)) evalHalvesUptoCard

/-- THE SECOND FORM's CARD OF 'typecaselaw14.MacroPlain'. -/
def macroPlainUptoCard : Claim7 := { stood := { row := macroPlainUptoRow, standIns := [], harness := (true, "7e024257dfdd4c2811d94e657717f1c37e59ed733beb333ab008c0f4f0e5eab1"), looks := true }, kinds := [], alts := [], laidByText := true, laidKinds := [.handle], laidTests := true, laidLooks := .later }
def MacroPlainUptoCardSaid : Prop := Claim7.holds Tryd.pinned (.plain (OpenSpec.upto macroPlainSpec)) macroPlainUptoCard
end Rows
end Go.Proofs.YtppobdnacmdgbaaDoor
