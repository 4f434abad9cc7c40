/-
  DERIVED. GIVEN WITH THE SEED: THE CARDS: each row of YtncdmaolcgpnkaaDoorRows.lean that lists a variable, with what it lists TIED to the program's text (the seventh form; the later family's looks); each row that meets fmt, with fmt's text TOLD by the authors' own Lean function (tested against real Go, not proved from fmt's source: count such statements apart). THE CARD IS WHAT COUNTS. Prove the row's statement (the work); the ties are given (YtncdmaolcgpnkaaDoorTie.lean); close each card by the builder's one call (the guide's Derived/Test/ToyasCard.lean, 'card_holds'). Laid BY PROGRAM, IN A SANDBOX (cutbox-door.mjs). By AI agents, Wed Nov 11 2026. No macro, syntax, notation, axiom, sorry.
-/
import Derived.Test.YtncdmaolcgpnkaaDoorRows
import GoSem.ClaimSeven
namespace Go.Proofs.YtncdmaolcgpnkaaDoor
namespace Rows

/-- THE TIED CARD OF 'bloomerylaw01.PackRows'. -/
def packRowsCard : Claim7 := { stood := { row := packRowsRow, standIns := [], harness := (true, "ee612228691001d3999d353ee7b5f1c3908f58d555e4c55ae492746ef96a869f"), looks := true }, kinds := [], alts := [], laidByText := true, laidKinds := [.data, .data, .data], laidTests := true, laidLooks := .later }
def PackRowsCardSaid : Prop := Claim7.holds Tryd.pinned (.plain (OpenSpec.ofChange packRowsSpec)) packRowsCard

/-- THE TIED CARD OF 'bloomerylaw01.PackTexts'. -/
def packTextsCard : Claim7 := { stood := { row := packTextsRow, standIns := [], harness := (true, "ee612228691001d3999d353ee7b5f1c3908f58d555e4c55ae492746ef96a869f"), looks := true }, kinds := [], alts := [], laidByText := true, laidKinds := [.data, .data, .data], laidTests := true, laidLooks := .later }
def PackTextsCardSaid : Prop := Claim7.holds Tryd.pinned (.plain (OpenSpec.ofChange packTextsSpec)) packTextsCard

/-- THE TIED CARD OF 'bloomerylaw01.PackApart'. -/
def packApartCard : Claim7 := { stood := { row := packApartRow, standIns := [], harness := (true, "ee612228691001d3999d353ee7b5f1c3908f58d555e4c55ae492746ef96a869f"), looks := true }, kinds := [], alts := [], laidByText := true, laidKinds := [.data, .data, .data], laidTests := true, laidLooks := .later }
def PackApartCardSaid : Prop := Claim7.holds Tryd.pinned (.plain (OpenSpec.ofChange packApartSpec)) packApartCard

/-- THE TIED CARD OF 'bloomerylaw01.PackNests'. -/
def packNestsCard : Claim7 := { stood := { row := packNestsRow, standIns := [], harness := (true, "ee612228691001d3999d353ee7b5f1c3908f58d555e4c55ae492746ef96a869f"), looks := true }, kinds := [], alts := [], laidByText := true, laidKinds := [.data, .data, .data], laidTests := true, laidLooks := .later }
def PackNestsCardSaid : Prop := Claim7.holds Tryd.pinned (.plain (OpenSpec.ofChange packNestsSpec)) packNestsCard

/-- THE TIED CARD OF 'bloomerylaw01.PackNums'. -/
def packNumsCard : Claim7 := { stood := { row := packNumsRow, standIns := [], harness := (true, "ee612228691001d3999d353ee7b5f1c3908f58d555e4c55ae492746ef96a869f"), looks := true }, kinds := [], alts := [], laidByText := true, laidKinds := [.data, .data, .data, .sentinel, .sentinel], laidTests := true, laidLooks := .later }
def PackNumsCardSaid : Prop := Claim7.holds Tryd.pinned (.plain (OpenSpec.ofChange packNumsSpec)) packNumsCard

/-- THE SECOND FORM's CARD OF 'bloomerylaw01.PackRows'. -/
def packRowsUptoCard : Claim7 := { stood := { row := packRowsUptoRow, standIns := [], harness := (true, "ee612228691001d3999d353ee7b5f1c3908f58d555e4c55ae492746ef96a869f"), looks := true }, kinds := [], alts := [], laidByText := true, laidKinds := [.data, .data, .data], laidTests := true, laidLooks := .later }
def PackRowsUptoCardSaid : Prop := Claim7.holds Tryd.pinned (.plain (OpenSpec.upto packRowsSpec)) packRowsUptoCard

/-- THE SECOND FORM's CARD OF 'bloomerylaw01.PackTexts'. -/
def packTextsUptoCard : Claim7 := { stood := { row := packTextsUptoRow, standIns := [], harness := (true, "ee612228691001d3999d353ee7b5f1c3908f58d555e4c55ae492746ef96a869f"), looks := true }, kinds := [], alts := [], laidByText := true, laidKinds := [.data, .data, .data], laidTests := true, laidLooks := .later }
def PackTextsUptoCardSaid : Prop := Claim7.holds Tryd.pinned (.plain (OpenSpec.upto packTextsSpec)) packTextsUptoCard

/-- THE SECOND FORM's CARD OF 'bloomerylaw01.PackApart'. -/
def packApartUptoCard : Claim7 := { stood := { row := packApartUptoRow, standIns := [], harness := (true, "ee612228691001d3999d353ee7b5f1c3908f58d555e4c55ae492746ef96a869f"), looks := true }, kinds := [], alts := [], laidByText := true, laidKinds := [.data, .data, .data], laidTests := true, laidLooks := .later }
def PackApartUptoCardSaid : Prop := Claim7.holds Tryd.pinned (.plain (OpenSpec.upto packApartSpec)) packApartUptoCard

/-- THE SECOND FORM's CARD OF 'bloomerylaw01.PackNests'. -/
def packNestsUptoCard : Claim7 := { stood := { row := packNestsUptoRow, standIns := [], harness := (true, "ee612228691001d3999d353ee7b5f1c3908f58d555e4c55ae492746ef96a869f"), looks := true }, kinds := [], alts := [], laidByText := true, laidKinds := [.data, .data, .data], laidTests := true, laidLooks := .later }
def PackNestsUptoCardSaid : Prop := Claim7.holds Tryd.pinned (.plain (OpenSpec.upto packNestsSpec)) packNestsUptoCard

/-- THE SECOND FORM's CARD OF 'bloomerylaw01.PackNums'. -/
def packNumsUptoCard : Claim7 := { stood := { row := packNumsUptoRow, standIns := [], harness := (true, "ee612228691001d3999d353ee7b5f1c3908f58d555e4c55ae492746ef96a869f"), looks := true }, kinds := [], alts := [], laidByText := true, laidKinds := [.data, .data, .data, .sentinel, .sentinel], laidTests := true, laidLooks := .later }
def PackNumsUptoCardSaid : Prop := Claim7.holds Tryd.pinned (.plain (OpenSpec.upto packNumsSpec)) packNumsUptoCard
end Rows
end Go.Proofs.YtncdmaolcgpnkaaDoor
