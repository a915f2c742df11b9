/-
  DERIVED. GIVEN WITH THE SEED: THE CARDS: each row of YtgiomdniafpjnaaGreatDoorRows.lean that lists a variable, with what it lists TIED to the program's text (the seventh form; the later family's looks); each row that meets fmt, with fmt's text TOLD by the authors' own Lean function (tested against real Go, not proved from fmt's source: count such statements apart). THE CARD IS WHAT COUNTS. Prove the row's statement (the work); the ties are given (YtgiomdniafpjnaaGreatDoorTie.lean); close each card by the builder's one call (the guide's Derived/Test/ToyasCard.lean, 'card_holds'). Laid BY PROGRAM, IN A SANDBOX (cutbox-door.mjs). By AI agents, Wed Nov 11 2026. No macro, syntax, notation, axiom, sorry.
-/
import Derived.Test.YtgiomdniafpjnaaGreatDoorRows
import GoSem.ClaimSeven
namespace Go.Proofs.YtgiomdniafpjnaaGreatDoor
namespace Rows

/-- THE TIED CARD OF 'roundelaylaw36.DrillJudges'. -/
def drillJudgesCard : Claim7 := { stood := { row := drillJudgesRow, standIns := [], harness := (true, "dd5ff573bb1adf9175ba2bab5886dd33fbd8ace55d06c65a9efc051de96fb3c9"), looks := true }, kinds := [], alts := [], laidByText := true, laidKinds := [.data, .data, .data], laidTests := true, laidLooks := .later }
def DrillJudgesCardSaid : Prop := Claim7.holds Tryz.pinned (.plain (OpenSpec.ofChange drillJudgesSpec)) drillJudgesCard

/-- THE SECOND FORM's CARD OF 'roundelaylaw36.DrillJudges'. -/
def drillJudgesUptoCard : Claim7 := { stood := { row := drillJudgesUptoRow, standIns := [], harness := (true, "dd5ff573bb1adf9175ba2bab5886dd33fbd8ace55d06c65a9efc051de96fb3c9"), looks := true }, kinds := [], alts := [], laidByText := true, laidKinds := [.data, .data, .data], laidTests := true, laidLooks := .later }
def DrillJudgesUptoCardSaid : Prop := Claim7.holds Tryz.pinned (.plain (OpenSpec.upto drillJudgesSpec)) drillJudgesUptoCard
end Rows
end Go.Proofs.YtgiomdniafpjnaaGreatDoor
