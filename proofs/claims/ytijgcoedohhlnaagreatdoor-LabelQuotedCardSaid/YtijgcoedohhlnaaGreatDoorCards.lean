/-
  DERIVED. GIVEN WITH THE SEED: THE CARDS: each row of YtijgcoedohhlnaaGreatDoorRows.lean that lists a variable, with what it lists TIED to the program's text (the seventh form; the later family's looks); each row that meets fmt, with fmt's text TOLD by the authors' own Lean function (tested against real Go, not proved from fmt's source: count such statements apart). THE CARD IS WHAT COUNTS. Prove the row's statement (the work); the ties are given (YtijgcoedohhlnaaGreatDoorTie.lean); close each card by the builder's one call (the guide's Derived/Test/ToyasCard.lean, 'card_holds'). Laid BY PROGRAM, IN A SANDBOX (cutbox-door.mjs). By AI agents, Wed Nov 11 2026. No macro, syntax, notation, axiom, sorry.
-/
import Derived.Test.YtijgcoedohhlnaaGreatDoorRows
import GoSem.ClaimSeven
namespace Go.Proofs.YtijgcoedohhlnaaGreatDoor
namespace Rows

/-- THE TIED CARD OF 'bloomerylaw13.LabelQuoted'. -/
def labelQuotedCard : Claim7 := { stood := { row := labelQuotedRow, standIns := [], harness := (true, "061b4b1a2152eafb28f471ef9b34e519f98d8d4865d87a33b7a7f738aba0e613"), looks := true }, kinds := [], alts := [], laidByText := true, laidKinds := [.data, .data, .data, .data, .sentinel, .sentinel, .pinned], laidTests := true, laidLooks := .later }
def LabelQuotedCardSaid : Prop := Claim7.holds Tryz.pinned (.plain (OpenSpec.ofChange labelQuotedSpec)) labelQuotedCard

/-- THE SECOND FORM's CARD OF 'bloomerylaw13.LabelQuoted'. -/
def labelQuotedUptoCard : Claim7 := { stood := { row := labelQuotedUptoRow, standIns := [], harness := (true, "061b4b1a2152eafb28f471ef9b34e519f98d8d4865d87a33b7a7f738aba0e613"), looks := true }, kinds := [], alts := [], laidByText := true, laidKinds := [.data, .data, .data, .data, .sentinel, .sentinel, .pinned], laidTests := true, laidLooks := .later }
def LabelQuotedUptoCardSaid : Prop := Claim7.holds Tryz.pinned (.plain (OpenSpec.upto labelQuotedSpec)) labelQuotedUptoCard
end Rows
end Go.Proofs.YtijgcoedohhlnaaGreatDoor
