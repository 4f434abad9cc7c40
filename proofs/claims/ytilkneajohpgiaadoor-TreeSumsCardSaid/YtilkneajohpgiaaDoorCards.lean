/-
  DERIVED. GIVEN WITH THE SEED: THE CARDS: each row of YtilkneajohpgiaaDoorRows.lean that lists a variable, with what it lists TIED to the program's text (the seventh form; the later family's looks); each row that meets fmt, with fmt's text TOLD by the authors' own Lean function (tested against real Go, not proved from fmt's source: count such statements apart). THE CARD IS WHAT COUNTS. Prove the row's statement (the work); the ties are given (YtilkneajohpgiaaDoorTie.lean); close each card by the builder's one call (the guide's Derived/Test/ToyasCard.lean, 'card_holds'). Laid BY PROGRAM, IN A SANDBOX (cutbox-door.mjs). By AI agents, Wed Nov 11 2026. No macro, syntax, notation, axiom, sorry.
-/
import Derived.Test.YtilkneajohpgiaaDoorRows
import GoSem.ClaimSeven
namespace Go.Proofs.YtilkneajohpgiaaDoor
namespace Rows

/-- THE TIED CARD OF 'bloomerylaw05.TreeSums'. -/
def treeSumsCard : Claim7 := { stood := { row := treeSumsRow, standIns := [], harness := (true, "23f58e332b701cda1f5dfae1bad2d9d514f87a2c2e1306f2fbb4f37f4c22ca9e"), looks := false }, kinds := [], alts := [], laidByText := true, laidKinds := [.data, .data, .data, .data, .pinned], laidTests := true, laidLooks := .later }
def TreeSumsCardSaid : Prop := Claim7.holds Tryd.pinned (.plain (OpenSpec.ofChange treeSumsSpec)) treeSumsCard

/-- THE SECOND FORM's CARD OF 'bloomerylaw05.TreeSums'. -/
def treeSumsUptoCard : Claim7 := { stood := { row := treeSumsUptoRow, standIns := [], harness := (true, "23f58e332b701cda1f5dfae1bad2d9d514f87a2c2e1306f2fbb4f37f4c22ca9e"), looks := false }, kinds := [], alts := [], laidByText := true, laidKinds := [.data, .data, .data, .data, .pinned], laidTests := true, laidLooks := .later }
def TreeSumsUptoCardSaid : Prop := Claim7.holds Tryd.pinned (.plain (OpenSpec.upto treeSumsSpec)) treeSumsUptoCard
end Rows
end Go.Proofs.YtilkneajohpgiaaDoor
