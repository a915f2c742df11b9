/-
  DERIVED. GIVEN WITH THE SEED: THE CARDS: each row of YtglghnfbkiondaaDoorRows.lean that lists a variable, with what it lists TIED to the program's text (the seventh form; the later family's looks); each row that meets fmt, with fmt's text TOLD by the authors' own Lean function (tested against real Go, not proved from fmt's source: count such statements apart). THE CARD IS WHAT COUNTS. Prove the row's statement (the work); the ties are given (YtglghnfbkiondaaDoorTie.lean); close each card by the builder's one call (the guide's Derived/Test/ToyasCard.lean, 'card_holds'). Laid BY PROGRAM, IN A SANDBOX (cutbox-door.mjs). By AI agents, Wed Nov 11 2026. No macro, syntax, notation, axiom, sorry.
-/
import Derived.Test.YtglghnfbkiondaaDoorRows
import GoSem.ClaimSeven
namespace Go.Proofs.YtglghnfbkiondaaDoor
namespace Rows

/-- THE TIED CARD OF 'roundelaylaw38.RankTells'. -/
def rankTellsCard : Claim7 := { stood := { row := rankTellsRow, standIns := [], harness := (true, "583a2a14ff11d25de00d2d9e7528b11c3fed0d84f28d0840f5457a614fc9d40a"), looks := false }, kinds := [], alts := [], laidByText := true, laidKinds := [.data, .data, .data], laidTests := true, laidLooks := .later }
def RankTellsCardSaid : Prop := Claim7.holds Tryd.pinned (.plain (OpenSpec.ofChange rankTellsSpec)) rankTellsCard

/-- THE TIED CARD OF 'roundelaylaw38.RankTables'. -/
def rankTablesCard : Claim7 := { stood := { row := rankTablesRow, standIns := [], harness := (true, "583a2a14ff11d25de00d2d9e7528b11c3fed0d84f28d0840f5457a614fc9d40a"), looks := false }, kinds := [], alts := [], laidByText := true, laidKinds := [.data, .data, .data], laidTests := true, laidLooks := .later }
def RankTablesCardSaid : Prop := Claim7.holds Tryd.pinned (.plain (OpenSpec.ofChange rankTablesSpec)) rankTablesCard

/-- THE TIED CARD OF 'roundelaylaw38.RankOrders'. -/
def rankOrdersCard : Claim7 := { stood := { row := rankOrdersRow, standIns := [], harness := (true, "583a2a14ff11d25de00d2d9e7528b11c3fed0d84f28d0840f5457a614fc9d40a"), looks := false }, kinds := [], alts := [], laidByText := true, laidKinds := [.data, .data, .data], laidTests := true, laidLooks := .later }
def RankOrdersCardSaid : Prop := Claim7.holds Tryd.pinned (.plain (OpenSpec.ofChange rankOrdersSpec)) rankOrdersCard

/-- THE SECOND FORM's CARD OF 'roundelaylaw38.RankTells'. -/
def rankTellsUptoCard : Claim7 := { stood := { row := rankTellsUptoRow, standIns := [], harness := (true, "583a2a14ff11d25de00d2d9e7528b11c3fed0d84f28d0840f5457a614fc9d40a"), looks := false }, kinds := [], alts := [], laidByText := true, laidKinds := [.data, .data, .data], laidTests := true, laidLooks := .later }
def RankTellsUptoCardSaid : Prop := Claim7.holds Tryd.pinned (.plain (OpenSpec.upto rankTellsSpec)) rankTellsUptoCard

/-- THE SECOND FORM's CARD OF 'roundelaylaw38.RankTables'. -/
def rankTablesUptoCard : Claim7 := { stood := { row := rankTablesUptoRow, standIns := [], harness := (true, "583a2a14ff11d25de00d2d9e7528b11c3fed0d84f28d0840f5457a614fc9d40a"), looks := false }, kinds := [], alts := [], laidByText := true, laidKinds := [.data, .data, .data], laidTests := true, laidLooks := .later }
def RankTablesUptoCardSaid : Prop := Claim7.holds Tryd.pinned (.plain (OpenSpec.upto rankTablesSpec)) rankTablesUptoCard

/-- THE SECOND FORM's CARD OF 'roundelaylaw38.RankOrders'. -/
def rankOrdersUptoCard : Claim7 := { stood := { row := rankOrdersUptoRow, standIns := [], harness := (true, "583a2a14ff11d25de00d2d9e7528b11c3fed0d84f28d0840f5457a614fc9d40a"), looks := false }, kinds := [], alts := [], laidByText := true, laidKinds := [.data, .data, .data], laidTests := true, laidLooks := .later }
def RankOrdersUptoCardSaid : Prop := Claim7.holds Tryd.pinned (.plain (OpenSpec.upto rankOrdersSpec)) rankOrdersUptoCard
end Rows
end Go.Proofs.YtglghnfbkiondaaDoor
