/-
  DERIVED. GIVEN WITH THE SEED: THE CARDS: each row of YtabgoidablkmjaaGreatDoorRows.lean that lists a variable, with what it lists TIED to the program's text (the seventh form; the later family's looks); each row that meets fmt, with fmt's text TOLD by the authors' own Lean function (tested against real Go, not proved from fmt's source: count such statements apart). THE CARD IS WHAT COUNTS. Prove the row's statement (the work); the ties are given (YtabgoidablkmjaaGreatDoorTie.lean); close each card by the builder's one call (the guide's Derived/Test/ToyasCard.lean, 'card_holds'). Laid BY PROGRAM, IN A SANDBOX (cutbox-door.mjs). By AI agents, Wed Nov 11 2026. No macro, syntax, notation, axiom, sorry.
-/
import Derived.Test.YtabgoidablkmjaaGreatDoorRows
import GoSem.ClaimSeven
namespace Go.Proofs.YtabgoidablkmjaaGreatDoor
namespace Rows

/-- THE TIED CARD OF 'vademecumlaw10.SyntaxBack'. -/
def syntaxBackCard : Claim7 := { stood := { row := syntaxBackRow, standIns := [], harness := (true, "871adc6a5c5e9705d7335b8ffa638e7731aeef0c53ac7d136086792d8ca32ff1"), looks := true }, kinds := [], alts := [], laidByText := true, laidKinds := [.data, .data, .data, .data, .handle, .pinned], laidTests := true, laidLooks := .later }
def SyntaxBackCardSaid : Prop := Claim7.holds Tryz.pinned (.plain (OpenSpec.ofChange syntaxBackSpec)) syntaxBackCard

/-- THE TIED CARD OF 'vademecumlaw10.SyntaxTexts'. -/
def syntaxTextsCard : Claim7 := { stood := { row := syntaxTextsRow, standIns := [], harness := (true, "871adc6a5c5e9705d7335b8ffa638e7731aeef0c53ac7d136086792d8ca32ff1"), looks := true }, kinds := [], alts := [], laidByText := true, laidKinds := [.data, .data, .data, .data, .handle, .pinned], laidTests := true, laidLooks := .later }
def SyntaxTextsCardSaid : Prop := Claim7.holds Tryz.pinned (.plain (OpenSpec.ofChange syntaxTextsSpec)) syntaxTextsCard

/-- THE TIED CARD OF 'vademecumlaw10.SyntaxApplies'. -/
def syntaxAppliesCard : Claim7 := { stood := { row := syntaxAppliesRow, standIns := [], harness := (true, "871adc6a5c5e9705d7335b8ffa638e7731aeef0c53ac7d136086792d8ca32ff1"), looks := true }, kinds := [], alts := [], laidByText := true, laidKinds := [.data, .data, .data, .data, .handle, .pinned], laidTests := true, laidLooks := .later }
def SyntaxAppliesCardSaid : Prop := Claim7.holds Tryz.pinned (.plain (OpenSpec.ofChange syntaxAppliesSpec)) syntaxAppliesCard

/-- THE TIED CARD OF 'vademecumlaw10.SyntaxInner'. -/
def syntaxInnerCard : Claim7 := { stood := { row := syntaxInnerRow, standIns := [], harness := (true, "871adc6a5c5e9705d7335b8ffa638e7731aeef0c53ac7d136086792d8ca32ff1"), looks := true }, kinds := [], alts := [], laidByText := true, laidKinds := [.data, .data, .data, .data, .handle, .pinned], laidTests := true, laidLooks := .later }
def SyntaxInnerCardSaid : Prop := Claim7.holds Tryz.pinned (.plain (OpenSpec.ofChange syntaxInnerSpec)) syntaxInnerCard

/-- THE TIED CARD OF 'vademecumlaw10.SyntaxStops'. -/
def syntaxStopsCard : Claim7 := { stood := { row := syntaxStopsRow, standIns := [], harness := (true, "871adc6a5c5e9705d7335b8ffa638e7731aeef0c53ac7d136086792d8ca32ff1"), looks := true }, kinds := [], alts := [], laidByText := true, laidKinds := [.data, .data, .data, .data, .handle, .pinned], laidTests := true, laidLooks := .later }
def SyntaxStopsCardSaid : Prop := Claim7.holds Tryz.pinned (.plain (OpenSpec.ofChange syntaxStopsSpec)) syntaxStopsCard

/-- THE SECOND FORM's CARD OF 'vademecumlaw10.SyntaxBack'. -/
def syntaxBackUptoCard : Claim7 := { stood := { row := syntaxBackUptoRow, standIns := [], harness := (true, "871adc6a5c5e9705d7335b8ffa638e7731aeef0c53ac7d136086792d8ca32ff1"), looks := true }, kinds := [], alts := [], laidByText := true, laidKinds := [.data, .data, .data, .data, .handle, .pinned], laidTests := true, laidLooks := .later }
def SyntaxBackUptoCardSaid : Prop := Claim7.holds Tryz.pinned (.plain (OpenSpec.upto syntaxBackSpec)) syntaxBackUptoCard

/-- THE SECOND FORM's CARD OF 'vademecumlaw10.SyntaxTexts'. -/
def syntaxTextsUptoCard : Claim7 := { stood := { row := syntaxTextsUptoRow, standIns := [], harness := (true, "871adc6a5c5e9705d7335b8ffa638e7731aeef0c53ac7d136086792d8ca32ff1"), looks := true }, kinds := [], alts := [], laidByText := true, laidKinds := [.data, .data, .data, .data, .handle, .pinned], laidTests := true, laidLooks := .later }
def SyntaxTextsUptoCardSaid : Prop := Claim7.holds Tryz.pinned (.plain (OpenSpec.upto syntaxTextsSpec)) syntaxTextsUptoCard

/-- THE SECOND FORM's CARD OF 'vademecumlaw10.SyntaxApplies'. -/
def syntaxAppliesUptoCard : Claim7 := { stood := { row := syntaxAppliesUptoRow, standIns := [], harness := (true, "871adc6a5c5e9705d7335b8ffa638e7731aeef0c53ac7d136086792d8ca32ff1"), looks := true }, kinds := [], alts := [], laidByText := true, laidKinds := [.data, .data, .data, .data, .handle, .pinned], laidTests := true, laidLooks := .later }
def SyntaxAppliesUptoCardSaid : Prop := Claim7.holds Tryz.pinned (.plain (OpenSpec.upto syntaxAppliesSpec)) syntaxAppliesUptoCard

/-- THE SECOND FORM's CARD OF 'vademecumlaw10.SyntaxInner'. -/
def syntaxInnerUptoCard : Claim7 := { stood := { row := syntaxInnerUptoRow, standIns := [], harness := (true, "871adc6a5c5e9705d7335b8ffa638e7731aeef0c53ac7d136086792d8ca32ff1"), looks := true }, kinds := [], alts := [], laidByText := true, laidKinds := [.data, .data, .data, .data, .handle, .pinned], laidTests := true, laidLooks := .later }
def SyntaxInnerUptoCardSaid : Prop := Claim7.holds Tryz.pinned (.plain (OpenSpec.upto syntaxInnerSpec)) syntaxInnerUptoCard

/-- THE SECOND FORM's CARD OF 'vademecumlaw10.SyntaxStops'. -/
def syntaxStopsUptoCard : Claim7 := { stood := { row := syntaxStopsUptoRow, standIns := [], harness := (true, "871adc6a5c5e9705d7335b8ffa638e7731aeef0c53ac7d136086792d8ca32ff1"), looks := true }, kinds := [], alts := [], laidByText := true, laidKinds := [.data, .data, .data, .data, .handle, .pinned], laidTests := true, laidLooks := .later }
def SyntaxStopsUptoCardSaid : Prop := Claim7.holds Tryz.pinned (.plain (OpenSpec.upto syntaxStopsSpec)) syntaxStopsUptoCard
end Rows
end Go.Proofs.YtabgoidablkmjaaGreatDoor
