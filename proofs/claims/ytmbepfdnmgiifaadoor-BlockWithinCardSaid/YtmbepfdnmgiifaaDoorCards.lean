/-
  DERIVED. GIVEN WITH THE SEED: THE CARDS: each row of YtmbepfdnmgiifaaDoorRows.lean that lists a variable, with what it lists TIED to the program's text (the seventh form; the later family's looks); each row that meets fmt, with fmt's text TOLD by the authors' own Lean function (tested against real Go, not proved from fmt's source: count such statements apart). THE CARD IS WHAT COUNTS. Prove the row's statement (the work); the ties are given (YtmbepfdnmgiifaaDoorTie.lean); close each card by the builder's one call (the guide's Derived/Test/ToyasCard.lean, 'card_holds'). Laid BY PROGRAM, IN A SANDBOX (cutbox-door.mjs). By AI agents, Wed Nov 11 2026. No macro, syntax, notation, axiom, sorry.
-/
import Derived.Test.YtmbepfdnmgiifaaDoorRows
import GoSem.ClaimSeven
namespace Go.Proofs.YtmbepfdnmgiifaaDoor
namespace Rows

/-- THE TIED CARD OF 'typecaselaw13.BlockBehind'. -/
def blockBehindCard : Claim7 := { stood := { row := blockBehindRow, standIns := [], harness := (true, "949c0978f49879b972f655f9a6f904ae4c5dac44cf69e9293fabd334984be2e6"), looks := true }, kinds := [], alts := [], laidByText := true, laidKinds := [.handle], laidTests := true, laidLooks := .later }
def BlockBehindCardSaid : Prop := Claim7.holds Tryd.pinned (.plain (OpenSpec.ofChange blockBehindSpec)) blockBehindCard

/-- THE TIED CARD OF 'typecaselaw13.BlockWithin'. -/
def blockWithinCard : Claim7 := { stood := { row := blockWithinRow, standIns := [], harness := (true, "949c0978f49879b972f655f9a6f904ae4c5dac44cf69e9293fabd334984be2e6"), looks := true }, kinds := [], alts := [], laidByText := true, laidKinds := [.handle], laidTests := true, laidLooks := .later }
def BlockWithinCardSaid : Prop := Claim7.holds Tryd.pinned (.plain (OpenSpec.ofChange blockWithinSpec)) blockWithinCard

/-- THE TIED CARD OF 'typecaselaw13.BlockKinds'. -/
def blockKindsCard : Claim7 := { stood := { row := blockKindsRow, standIns := [], harness := (true, "949c0978f49879b972f655f9a6f904ae4c5dac44cf69e9293fabd334984be2e6"), looks := true }, kinds := [], alts := [], laidByText := true, laidKinds := [.handle], laidTests := true, laidLooks := .later }
def BlockKindsCardSaid : Prop := Claim7.holds Tryd.pinned (.plain (OpenSpec.ofChange blockKindsSpec)) blockKindsCard

/-- THE TIED CARD OF 'typecaselaw19.PlaceLies'. -/
def placeLiesCard : Claim7 := { stood := { row := placeLiesRow, standIns := [], harness := (true, "949c0978f49879b972f655f9a6f904ae4c5dac44cf69e9293fabd334984be2e6"), looks := true }, kinds := [], alts := [], laidByText := true, laidKinds := [.handle], laidTests := true, laidLooks := .later }
def PlaceLiesCardSaid : Prop := Claim7.holds Tryd.pinned (.plain (OpenSpec.ofChange placeLiesSpec)) placeLiesCard

/-- THE TIED CARD OF 'typecaselaw19.PlaceGrows'. -/
def placeGrowsCard : Claim7 := { stood := { row := placeGrowsRow, standIns := [], harness := (true, "949c0978f49879b972f655f9a6f904ae4c5dac44cf69e9293fabd334984be2e6"), looks := true }, kinds := [], alts := [], laidByText := true, laidKinds := [.handle], laidTests := true, laidLooks := .later }
def PlaceGrowsCardSaid : Prop := Claim7.holds Tryd.pinned (.plain (OpenSpec.ofChange placeGrowsSpec)) placeGrowsCard

/-- THE TIED CARD OF 'typecaselaw19.PlaceSteps'. -/
def placeStepsCard : Claim7 := { stood := { row := placeStepsRow, standIns := [], harness := (true, "949c0978f49879b972f655f9a6f904ae4c5dac44cf69e9293fabd334984be2e6"), looks := true }, kinds := [], alts := [], laidByText := true, laidKinds := [.handle], laidTests := true, laidLooks := .later }
def PlaceStepsCardSaid : Prop := Claim7.holds Tryd.pinned (.plain (OpenSpec.ofChange placeStepsSpec)) placeStepsCard

/-- THE TIED CARD OF 'typecaselaw19.PlaceLabels'. -/
def placeLabelsCard : Claim7 := { stood := { row := placeLabelsRow, standIns := [], harness := (true, "949c0978f49879b972f655f9a6f904ae4c5dac44cf69e9293fabd334984be2e6"), looks := true }, kinds := [], alts := [], laidByText := true, laidKinds := [.handle], laidTests := true, laidLooks := .later }
def PlaceLabelsCardSaid : Prop := Claim7.holds Tryd.pinned (.plain (OpenSpec.ofChange placeLabelsSpec)) placeLabelsCard

/-- THE SECOND FORM's CARD OF 'typecaselaw13.BlockBehind'. -/
def blockBehindUptoCard : Claim7 := { stood := { row := blockBehindUptoRow, standIns := [], harness := (true, "949c0978f49879b972f655f9a6f904ae4c5dac44cf69e9293fabd334984be2e6"), looks := true }, kinds := [], alts := [], laidByText := true, laidKinds := [.handle], laidTests := true, laidLooks := .later }
def BlockBehindUptoCardSaid : Prop := Claim7.holds Tryd.pinned (.plain (OpenSpec.upto blockBehindSpec)) blockBehindUptoCard

/-- THE SECOND FORM's CARD OF 'typecaselaw13.BlockWithin'. -/
def blockWithinUptoCard : Claim7 := { stood := { row := blockWithinUptoRow, standIns := [], harness := (true, "949c0978f49879b972f655f9a6f904ae4c5dac44cf69e9293fabd334984be2e6"), looks := true }, kinds := [], alts := [], laidByText := true, laidKinds := [.handle], laidTests := true, laidLooks := .later }
def BlockWithinUptoCardSaid : Prop := Claim7.holds Tryd.pinned (.plain (OpenSpec.upto blockWithinSpec)) blockWithinUptoCard

/-- THE SECOND FORM's CARD OF 'typecaselaw13.BlockKinds'. -/
def blockKindsUptoCard : Claim7 := { stood := { row := blockKindsUptoRow, standIns := [], harness := (true, "949c0978f49879b972f655f9a6f904ae4c5dac44cf69e9293fabd334984be2e6"), looks := true }, kinds := [], alts := [], laidByText := true, laidKinds := [.handle], laidTests := true, laidLooks := .later }
def BlockKindsUptoCardSaid : Prop := Claim7.holds Tryd.pinned (.plain (OpenSpec.upto blockKindsSpec)) blockKindsUptoCard

/-- THE SECOND FORM's CARD OF 'typecaselaw19.PlaceLies'. -/
def placeLiesUptoCard : Claim7 := { stood := { row := placeLiesUptoRow, standIns := [], harness := (true, "949c0978f49879b972f655f9a6f904ae4c5dac44cf69e9293fabd334984be2e6"), looks := true }, kinds := [], alts := [], laidByText := true, laidKinds := [.handle], laidTests := true, laidLooks := .later }
def PlaceLiesUptoCardSaid : Prop := Claim7.holds Tryd.pinned (.plain (OpenSpec.upto placeLiesSpec)) placeLiesUptoCard

/-- THE SECOND FORM's CARD OF 'typecaselaw19.PlaceGrows'. -/
def placeGrowsUptoCard : Claim7 := { stood := { row := placeGrowsUptoRow, standIns := [], harness := (true, "949c0978f49879b972f655f9a6f904ae4c5dac44cf69e9293fabd334984be2e6"), looks := true }, kinds := [], alts := [], laidByText := true, laidKinds := [.handle], laidTests := true, laidLooks := .later }
def PlaceGrowsUptoCardSaid : Prop := Claim7.holds Tryd.pinned (.plain (OpenSpec.upto placeGrowsSpec)) placeGrowsUptoCard

/-- THE SECOND FORM's CARD OF 'typecaselaw19.PlaceSteps'. -/
def placeStepsUptoCard : Claim7 := { stood := { row := placeStepsUptoRow, standIns := [], harness := (true, "949c0978f49879b972f655f9a6f904ae4c5dac44cf69e9293fabd334984be2e6"), looks := true }, kinds := [], alts := [], laidByText := true, laidKinds := [.handle], laidTests := true, laidLooks := .later }
def PlaceStepsUptoCardSaid : Prop := Claim7.holds Tryd.pinned (.plain (OpenSpec.upto placeStepsSpec)) placeStepsUptoCard

/-- THE SECOND FORM's CARD OF 'typecaselaw19.PlaceLabels'. -/
def placeLabelsUptoCard : Claim7 := { stood := { row := placeLabelsUptoRow, standIns := [], harness := (true, "949c0978f49879b972f655f9a6f904ae4c5dac44cf69e9293fabd334984be2e6"), looks := true }, kinds := [], alts := [], laidByText := true, laidKinds := [.handle], laidTests := true, laidLooks := .later }
def PlaceLabelsUptoCardSaid : Prop := Claim7.holds Tryd.pinned (.plain (OpenSpec.upto placeLabelsSpec)) placeLabelsUptoCard
end Rows
end Go.Proofs.YtmbepfdnmgiifaaDoor
