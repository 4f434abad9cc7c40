/-
  DERIVED. GIVEN WITH THE SEED: THE CARDS: each row of YtfgiihpopngbkaaGreatDoorRows.lean that lists a variable, with what it lists TIED to the program's text (the seventh form; the later family's looks); each row that meets fmt, with fmt's text TOLD by the authors' own Lean function (tested against real Go, not proved from fmt's source: count such statements apart). THE CARD IS WHAT COUNTS. Prove the row's statement (the work); the ties are given (YtfgiihpopngbkaaGreatDoorTie.lean); close each card by the builder's one call (the guide's Derived/Test/ToyasCard.lean, 'card_holds'). Laid BY PROGRAM, IN A SANDBOX (cutbox-door.mjs). By AI agents, Wed Nov 11 2026. No macro, syntax, notation, axiom, sorry.
-/
import Derived.Test.YtfgiihpopngbkaaGreatDoorRows
import GoSem.ClaimSeven
namespace Go.Proofs.YtfgiihpopngbkaaGreatDoor
namespace Rows

/-- THE TIED CARD OF 'bloomerylaw10.ParseRows'. -/
def parseRowsCard : Claim7 := { stood := { row := parseRowsRow, standIns := [], harness := (true, "3b1f40b6aeabe9bf96ad3f29d92eccfe48a627465de7626c904664c0d2904cd7"), looks := true }, kinds := [], alts := [], laidByText := true, laidKinds := [.data, .data, .data, .sentinel, .sentinel], laidTests := true, laidLooks := .later }
def ParseRowsCardSaid : Prop := Claim7.holds Tryz.pinned (.plain (OpenSpec.ofChange parseRowsSpec)) parseRowsCard

/-- THE TIED CARD OF 'bloomerylaw10.ParsePrints'. -/
def parsePrintsCard : Claim7 := { stood := { row := parsePrintsRow, standIns := [], harness := (true, "3b1f40b6aeabe9bf96ad3f29d92eccfe48a627465de7626c904664c0d2904cd7"), looks := true }, kinds := [], alts := [], laidByText := true, laidKinds := [.data, .data, .data, .sentinel, .sentinel], laidTests := true, laidLooks := .later }
def ParsePrintsCardSaid : Prop := Claim7.holds Tryz.pinned (.plain (OpenSpec.ofChange parsePrintsSpec)) parsePrintsCard

/-- THE TIED CARD OF 'bloomerylaw10.ParseBack'. -/
def parseBackCard : Claim7 := { stood := { row := parseBackRow, standIns := [], harness := (true, "3b1f40b6aeabe9bf96ad3f29d92eccfe48a627465de7626c904664c0d2904cd7"), looks := true }, kinds := [], alts := [], laidByText := true, laidKinds := [.data, .data, .data, .sentinel, .sentinel], laidTests := true, laidLooks := .later }
def ParseBackCardSaid : Prop := Claim7.holds Tryz.pinned (.plain (OpenSpec.ofChange parseBackSpec)) parseBackCard

/-- THE TIED CARD OF 'bloomerylaw10.ParsePlaces'. -/
def parsePlacesCard : Claim7 := { stood := { row := parsePlacesRow, standIns := [], harness := (true, "3b1f40b6aeabe9bf96ad3f29d92eccfe48a627465de7626c904664c0d2904cd7"), looks := true }, kinds := [], alts := [], laidByText := true, laidKinds := [.data, .data, .data, .sentinel, .sentinel], laidTests := true, laidLooks := .later }
def ParsePlacesCardSaid : Prop := Claim7.holds Tryz.pinned (.plain (OpenSpec.ofChange parsePlacesSpec)) parsePlacesCard

/-- THE TIED CARD OF 'bloomerylaw10.ParseGaps'. -/
def parseGapsCard : Claim7 := { stood := { row := parseGapsRow, standIns := [], harness := (true, "3b1f40b6aeabe9bf96ad3f29d92eccfe48a627465de7626c904664c0d2904cd7"), looks := true }, kinds := [], alts := [], laidByText := true, laidKinds := [.data, .data, .data, .sentinel, .sentinel], laidTests := true, laidLooks := .later }
def ParseGapsCardSaid : Prop := Claim7.holds Tryz.pinned (.plain (OpenSpec.ofChange parseGapsSpec)) parseGapsCard

/-- THE SECOND FORM's CARD OF 'bloomerylaw10.ParseRows'. -/
def parseRowsUptoCard : Claim7 := { stood := { row := parseRowsUptoRow, standIns := [], harness := (true, "3b1f40b6aeabe9bf96ad3f29d92eccfe48a627465de7626c904664c0d2904cd7"), looks := true }, kinds := [], alts := [], laidByText := true, laidKinds := [.data, .data, .data, .sentinel, .sentinel], laidTests := true, laidLooks := .later }
def ParseRowsUptoCardSaid : Prop := Claim7.holds Tryz.pinned (.plain (OpenSpec.upto parseRowsSpec)) parseRowsUptoCard

/-- THE SECOND FORM's CARD OF 'bloomerylaw10.ParsePrints'. -/
def parsePrintsUptoCard : Claim7 := { stood := { row := parsePrintsUptoRow, standIns := [], harness := (true, "3b1f40b6aeabe9bf96ad3f29d92eccfe48a627465de7626c904664c0d2904cd7"), looks := true }, kinds := [], alts := [], laidByText := true, laidKinds := [.data, .data, .data, .sentinel, .sentinel], laidTests := true, laidLooks := .later }
def ParsePrintsUptoCardSaid : Prop := Claim7.holds Tryz.pinned (.plain (OpenSpec.upto parsePrintsSpec)) parsePrintsUptoCard

/-- THE SECOND FORM's CARD OF 'bloomerylaw10.ParseBack'. -/
def parseBackUptoCard : Claim7 := { stood := { row := parseBackUptoRow, standIns := [], harness := (true, "3b1f40b6aeabe9bf96ad3f29d92eccfe48a627465de7626c904664c0d2904cd7"), looks := true }, kinds := [], alts := [], laidByText := true, laidKinds := [.data, .data, .data, .sentinel, .sentinel], laidTests := true, laidLooks := .later }
def ParseBackUptoCardSaid : Prop := Claim7.holds Tryz.pinned (.plain (OpenSpec.upto parseBackSpec)) parseBackUptoCard

/-- THE SECOND FORM's CARD OF 'bloomerylaw10.ParsePlaces'. -/
def parsePlacesUptoCard : Claim7 := { stood := { row := parsePlacesUptoRow, standIns := [], harness := (true, "3b1f40b6aeabe9bf96ad3f29d92eccfe48a627465de7626c904664c0d2904cd7"), looks := true }, kinds := [], alts := [], laidByText := true, laidKinds := [.data, .data, .data, .sentinel, .sentinel], laidTests := true, laidLooks := .later }
def ParsePlacesUptoCardSaid : Prop := Claim7.holds Tryz.pinned (.plain (OpenSpec.upto parsePlacesSpec)) parsePlacesUptoCard

/-- THE SECOND FORM's CARD OF 'bloomerylaw10.ParseGaps'. -/
def parseGapsUptoCard : Claim7 := { stood := { row := parseGapsUptoRow, standIns := [], harness := (true, "3b1f40b6aeabe9bf96ad3f29d92eccfe48a627465de7626c904664c0d2904cd7"), looks := true }, kinds := [], alts := [], laidByText := true, laidKinds := [.data, .data, .data, .sentinel, .sentinel], laidTests := true, laidLooks := .later }
def ParseGapsUptoCardSaid : Prop := Claim7.holds Tryz.pinned (.plain (OpenSpec.upto parseGapsSpec)) parseGapsUptoCard
end Rows
end Go.Proofs.YtfgiihpopngbkaaGreatDoor
