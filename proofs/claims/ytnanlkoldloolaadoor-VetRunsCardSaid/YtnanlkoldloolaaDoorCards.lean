/-
  DERIVED. GIVEN WITH THE SEED: THE CARDS: each row of YtnanlkoldloolaaDoorRows.lean that lists a variable, with what it lists TIED to the program's text (the seventh form; the later family's looks); each row that meets fmt, with fmt's text TOLD by the authors' own Lean function (tested against real Go, not proved from fmt's source: count such statements apart). THE CARD IS WHAT COUNTS. Prove the row's statement (the work); the ties are given (YtnanlkoldloolaaDoorTie.lean); close each card by the builder's one call (the guide's Derived/Test/ToyasCard.lean, 'card_holds'). Laid BY PROGRAM, IN A SANDBOX (cutbox-door.mjs). By AI agents, Wed Nov 11 2026. No macro, syntax, notation, axiom, sorry.
-/
import Derived.Test.YtnanlkoldloolaaDoorRows
import GoSem.ClaimSeven
namespace Go.Proofs.YtnanlkoldloolaaDoor
namespace Rows

/-- THE TIED CARD OF 'teasellaw23.VetChecks'. -/
def vetChecksCard : Claim7 := { stood := { row := vetChecksRow, standIns := [], harness := (true, "758d42f3fe4efa62678768a215a7d8156626ecc34d028e87f0c6dc94bd6d0525"), looks := true }, kinds := [], alts := [], laidByText := true, laidKinds := [.sentinel], laidTests := true, laidLooks := .later }
def VetChecksCardSaid : Prop := Claim7.holds Tryd.pinned (.plain (OpenSpec.ofChange vetChecksSpec)) vetChecksCard

/-- THE TIED CARD OF 'teasellaw23.VetRuns'. -/
def vetRunsCard : Claim7 := { stood := { row := vetRunsRow, standIns := [], harness := (true, "758d42f3fe4efa62678768a215a7d8156626ecc34d028e87f0c6dc94bd6d0525"), looks := true }, kinds := [], alts := [], laidByText := true, laidKinds := [.sentinel], laidTests := true, laidLooks := .later }
def VetRunsCardSaid : Prop := Claim7.holds Tryd.pinned (.plain (OpenSpec.ofChange vetRunsSpec)) vetRunsCard

/-- THE TIED CARD OF 'teasellaw23.VetLimits'. -/
def vetLimitsCard : Claim7 := { stood := { row := vetLimitsRow, standIns := [], harness := (true, "758d42f3fe4efa62678768a215a7d8156626ecc34d028e87f0c6dc94bd6d0525"), looks := true }, kinds := [], alts := [], laidByText := true, laidKinds := [.sentinel], laidTests := true, laidLooks := .later }
def VetLimitsCardSaid : Prop := Claim7.holds Tryd.pinned (.plain (OpenSpec.ofChange vetLimitsSpec)) vetLimitsCard

/-- THE TIED CARD OF 'teasellaw23.VetNames'. -/
def vetNamesCard : Claim7 := { stood := { row := vetNamesRow, standIns := [], harness := (true, "758d42f3fe4efa62678768a215a7d8156626ecc34d028e87f0c6dc94bd6d0525"), looks := true }, kinds := [], alts := [], laidByText := true, laidKinds := [.sentinel], laidTests := true, laidLooks := .later }
def VetNamesCardSaid : Prop := Claim7.holds Tryd.pinned (.plain (OpenSpec.ofChange vetNamesSpec)) vetNamesCard

/-- THE SECOND FORM's CARD OF 'teasellaw23.VetChecks'. -/
def vetChecksUptoCard : Claim7 := { stood := { row := vetChecksUptoRow, standIns := [], harness := (true, "758d42f3fe4efa62678768a215a7d8156626ecc34d028e87f0c6dc94bd6d0525"), looks := true }, kinds := [], alts := [], laidByText := true, laidKinds := [.sentinel], laidTests := true, laidLooks := .later }
def VetChecksUptoCardSaid : Prop := Claim7.holds Tryd.pinned (.plain (OpenSpec.upto vetChecksSpec)) vetChecksUptoCard

/-- THE SECOND FORM's CARD OF 'teasellaw23.VetRuns'. -/
def vetRunsUptoCard : Claim7 := { stood := { row := vetRunsUptoRow, standIns := [], harness := (true, "758d42f3fe4efa62678768a215a7d8156626ecc34d028e87f0c6dc94bd6d0525"), looks := true }, kinds := [], alts := [], laidByText := true, laidKinds := [.sentinel], laidTests := true, laidLooks := .later }
def VetRunsUptoCardSaid : Prop := Claim7.holds Tryd.pinned (.plain (OpenSpec.upto vetRunsSpec)) vetRunsUptoCard

/-- THE SECOND FORM's CARD OF 'teasellaw23.VetLimits'. -/
def vetLimitsUptoCard : Claim7 := { stood := { row := vetLimitsUptoRow, standIns := [], harness := (true, "758d42f3fe4efa62678768a215a7d8156626ecc34d028e87f0c6dc94bd6d0525"), looks := true }, kinds := [], alts := [], laidByText := true, laidKinds := [.sentinel], laidTests := true, laidLooks := .later }
def VetLimitsUptoCardSaid : Prop := Claim7.holds Tryd.pinned (.plain (OpenSpec.upto vetLimitsSpec)) vetLimitsUptoCard

/-- THE SECOND FORM's CARD OF 'teasellaw23.VetNames'. -/
def vetNamesUptoCard : Claim7 := { stood := { row := vetNamesUptoRow, standIns := [], harness := (true, "758d42f3fe4efa62678768a215a7d8156626ecc34d028e87f0c6dc94bd6d0525"), looks := true }, kinds := [], alts := [], laidByText := true, laidKinds := [.sentinel], laidTests := true, laidLooks := .later }
def VetNamesUptoCardSaid : Prop := Claim7.holds Tryd.pinned (.plain (OpenSpec.upto vetNamesSpec)) vetNamesUptoCard
end Rows
end Go.Proofs.YtnanlkoldloolaaDoor
