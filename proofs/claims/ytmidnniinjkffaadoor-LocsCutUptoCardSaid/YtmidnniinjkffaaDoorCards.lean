/-
  DERIVED. GIVEN WITH THE SEED: THE CARDS: each row of YtmidnniinjkffaaDoorRows.lean that lists a variable, with what it lists TIED to the program's text (the seventh form; the later family's looks); each row that meets fmt, with fmt's text TOLD by the authors' own Lean function (tested against real Go, not proved from fmt's source: count such statements apart). THE CARD IS WHAT COUNTS. Prove the row's statement (the work); the ties are given (YtmidnniinjkffaaDoorTie.lean); close each card by the builder's one call (the guide's Derived/Test/ToyasCard.lean, 'card_holds'). Laid BY PROGRAM, IN A SANDBOX (cutbox-door.mjs). By AI agents, Wed Nov 11 2026. No macro, syntax, notation, axiom, sorry.
-/
import Derived.Test.YtmidnniinjkffaaDoorRows
import GoSem.ClaimSeven
namespace Go.Proofs.YtmidnniinjkffaaDoor
namespace Rows

/-- THE TIED CARD OF 'teasellaw21.LocsEncodes'. -/
def locsEncodesCard : Claim7 := { stood := { row := locsEncodesRow, standIns := [], harness := (true, "dc796f4085f09316eb1735d410bca1504f9d3964307602381131d9e5c79a956f"), looks := true }, kinds := [], alts := [], laidByText := true, laidKinds := [.sentinel], laidTests := true, laidLooks := .later }
def LocsEncodesCardSaid : Prop := Claim7.holds Tryd.pinned (.plain (OpenSpec.ofChange locsEncodesSpec)) locsEncodesCard

/-- THE TIED CARD OF 'teasellaw21.LocsDecodes'. -/
def locsDecodesCard : Claim7 := { stood := { row := locsDecodesRow, standIns := [], harness := (true, "dc796f4085f09316eb1735d410bca1504f9d3964307602381131d9e5c79a956f"), looks := true }, kinds := [], alts := [], laidByText := true, laidKinds := [.sentinel], laidTests := true, laidLooks := .later }
def LocsDecodesCardSaid : Prop := Claim7.holds Tryd.pinned (.plain (OpenSpec.ofChange locsDecodesSpec)) locsDecodesCard

/-- THE TIED CARD OF 'teasellaw21.LocsCut'. -/
def locsCutCard : Claim7 := { stood := { row := locsCutRow, standIns := [], harness := (true, "dc796f4085f09316eb1735d410bca1504f9d3964307602381131d9e5c79a956f"), looks := true }, kinds := [], alts := [], laidByText := true, laidKinds := [.sentinel], laidTests := true, laidLooks := .later }
def LocsCutCardSaid : Prop := Claim7.holds Tryd.pinned (.plain (OpenSpec.ofChange locsCutSpec)) locsCutCard

/-- THE SECOND FORM's CARD OF 'teasellaw21.LocsEncodes'. -/
def locsEncodesUptoCard : Claim7 := { stood := { row := locsEncodesUptoRow, standIns := [], harness := (true, "dc796f4085f09316eb1735d410bca1504f9d3964307602381131d9e5c79a956f"), looks := true }, kinds := [], alts := [], laidByText := true, laidKinds := [.sentinel], laidTests := true, laidLooks := .later }
def LocsEncodesUptoCardSaid : Prop := Claim7.holds Tryd.pinned (.plain (OpenSpec.upto locsEncodesSpec)) locsEncodesUptoCard

/-- THE SECOND FORM's CARD OF 'teasellaw21.LocsDecodes'. -/
def locsDecodesUptoCard : Claim7 := { stood := { row := locsDecodesUptoRow, standIns := [], harness := (true, "dc796f4085f09316eb1735d410bca1504f9d3964307602381131d9e5c79a956f"), looks := true }, kinds := [], alts := [], laidByText := true, laidKinds := [.sentinel], laidTests := true, laidLooks := .later }
def LocsDecodesUptoCardSaid : Prop := Claim7.holds Tryd.pinned (.plain (OpenSpec.upto locsDecodesSpec)) locsDecodesUptoCard

/-- THE SECOND FORM's CARD OF 'teasellaw21.LocsCut'. -/
def locsCutUptoCard : Claim7 := { stood := { row := locsCutUptoRow, standIns := [], harness := (true, "dc796f4085f09316eb1735d410bca1504f9d3964307602381131d9e5c79a956f"), looks := true }, kinds := [], alts := [], laidByText := true, laidKinds := [.sentinel], laidTests := true, laidLooks := .later }
def LocsCutUptoCardSaid : Prop := Claim7.holds Tryd.pinned (.plain (OpenSpec.upto locsCutSpec)) locsCutUptoCard
end Rows
end Go.Proofs.YtmidnniinjkffaaDoor
