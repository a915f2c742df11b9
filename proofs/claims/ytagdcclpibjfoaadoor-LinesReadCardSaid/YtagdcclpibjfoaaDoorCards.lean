/-
  DERIVED. GIVEN WITH THE SEED: THE CARDS: each row of YtagdcclpibjfoaaDoorRows.lean that lists a variable, with what it lists TIED to the program's text (the seventh form; the later family's looks); each row that meets fmt, with fmt's text TOLD by the authors' own Lean function (tested against real Go, not proved from fmt's source: count such statements apart). THE CARD IS WHAT COUNTS. Prove the row's statement (the work); the ties are given (YtagdcclpibjfoaaDoorTie.lean); close each card by the builder's one call (the guide's Derived/Test/ToyasCard.lean, 'card_holds'). Laid BY PROGRAM, IN A SANDBOX (cutbox-door.mjs). By AI agents, Wed Nov 11 2026. No macro, syntax, notation, axiom, sorry.
-/
import Derived.Test.YtagdcclpibjfoaaDoorRows
import GoSem.ClaimSeven
namespace Go.Proofs.YtagdcclpibjfoaaDoor
namespace Rows

/-- THE TIED CARD OF 'roundelaylaw27.HistoryTells'. -/
def historyTellsCard : Claim7 := { stood := { row := historyTellsRow, standIns := [], harness := (true, "6f186e824863e89d21c552bc6c3e54d829edc7aaceb73cb7ea2125217d4780c8"), looks := true }, kinds := [], alts := [], laidByText := true, laidKinds := [.data, .data, .data], laidTests := true, laidLooks := .later }
def HistoryTellsCardSaid : Prop := Claim7.holds Tryd.pinned (.plain (OpenSpec.ofChange historyTellsSpec)) historyTellsCard

/-- THE TIED CARD OF 'roundelaylaw27.HistoryWide'. -/
def historyWideCard : Claim7 := { stood := { row := historyWideRow, standIns := [], harness := (true, "6f186e824863e89d21c552bc6c3e54d829edc7aaceb73cb7ea2125217d4780c8"), looks := true }, kinds := [], alts := [], laidByText := true, laidKinds := [.data, .data, .data], laidTests := true, laidLooks := .later }
def HistoryWideCardSaid : Prop := Claim7.holds Tryd.pinned (.plain (OpenSpec.ofChange historyWideSpec)) historyWideCard

/-- THE TIED CARD OF 'roundelaylaw27.HistoryOrders'. -/
def historyOrdersCard : Claim7 := { stood := { row := historyOrdersRow, standIns := [], harness := (true, "6f186e824863e89d21c552bc6c3e54d829edc7aaceb73cb7ea2125217d4780c8"), looks := true }, kinds := [], alts := [], laidByText := true, laidKinds := [.data, .data, .data], laidTests := true, laidLooks := .later }
def HistoryOrdersCardSaid : Prop := Claim7.holds Tryd.pinned (.plain (OpenSpec.ofChange historyOrdersSpec)) historyOrdersCard

/-- THE TIED CARD OF 'roundelaylaw38.RankTells'. -/
def rankTellsCard : Claim7 := { stood := { row := rankTellsRow, standIns := [], harness := (true, "6f186e824863e89d21c552bc6c3e54d829edc7aaceb73cb7ea2125217d4780c8"), looks := true }, kinds := [], alts := [], laidByText := true, laidKinds := [.data, .data, .data], laidTests := true, laidLooks := .later }
def RankTellsCardSaid : Prop := Claim7.holds Tryd.pinned (.plain (OpenSpec.ofChange rankTellsSpec)) rankTellsCard

/-- THE TIED CARD OF 'roundelaylaw38.RankTables'. -/
def rankTablesCard : Claim7 := { stood := { row := rankTablesRow, standIns := [], harness := (true, "6f186e824863e89d21c552bc6c3e54d829edc7aaceb73cb7ea2125217d4780c8"), looks := true }, kinds := [], alts := [], laidByText := true, laidKinds := [.data, .data, .data], laidTests := true, laidLooks := .later }
def RankTablesCardSaid : Prop := Claim7.holds Tryd.pinned (.plain (OpenSpec.ofChange rankTablesSpec)) rankTablesCard

/-- THE TIED CARD OF 'roundelaylaw38.RankOrders'. -/
def rankOrdersCard : Claim7 := { stood := { row := rankOrdersRow, standIns := [], harness := (true, "6f186e824863e89d21c552bc6c3e54d829edc7aaceb73cb7ea2125217d4780c8"), looks := true }, kinds := [], alts := [], laidByText := true, laidKinds := [.data, .data, .data], laidTests := true, laidLooks := .later }
def RankOrdersCardSaid : Prop := Claim7.holds Tryd.pinned (.plain (OpenSpec.ofChange rankOrdersSpec)) rankOrdersCard

/-- THE TIED CARD OF 'roundelaylaw05.OpsPack'. -/
def opsPackCard : Claim7 := { stood := { row := opsPackRow, standIns := [], harness := (true, "6f186e824863e89d21c552bc6c3e54d829edc7aaceb73cb7ea2125217d4780c8"), looks := true }, kinds := [], alts := [], laidByText := true, laidKinds := [.data, .data, .data, .data, .sentinel, .sentinel, .pinned], laidTests := true, laidLooks := .later }
def OpsPackCardSaid : Prop := Claim7.holds Tryd.pinned (.plain (OpenSpec.ofChange opsPackSpec)) opsPackCard

/-- THE TIED CARD OF 'roundelaylaw05.OpsUnpack'. -/
def opsUnpackCard : Claim7 := { stood := { row := opsUnpackRow, standIns := [], harness := (true, "6f186e824863e89d21c552bc6c3e54d829edc7aaceb73cb7ea2125217d4780c8"), looks := true }, kinds := [], alts := [], laidByText := true, laidKinds := [.data, .data, .data, .data, .sentinel, .sentinel, .pinned], laidTests := true, laidLooks := .later }
def OpsUnpackCardSaid : Prop := Claim7.holds Tryd.pinned (.plain (OpenSpec.ofChange opsUnpackSpec)) opsUnpackCard

/-- THE TIED CARD OF 'roundelaylaw05.OpsTexts'. -/
def opsTextsCard : Claim7 := { stood := { row := opsTextsRow, standIns := [], harness := (true, "6f186e824863e89d21c552bc6c3e54d829edc7aaceb73cb7ea2125217d4780c8"), looks := true }, kinds := [], alts := [], laidByText := true, laidKinds := [.data, .data, .data, .data, .sentinel, .sentinel, .pinned], laidTests := true, laidLooks := .later }
def OpsTextsCardSaid : Prop := Claim7.holds Tryd.pinned (.plain (OpenSpec.ofChange opsTextsSpec)) opsTextsCard

/-- THE TIED CARD OF 'roundelaylaw05.OpsBack'. -/
def opsBackCard : Claim7 := { stood := { row := opsBackRow, standIns := [], harness := (true, "6f186e824863e89d21c552bc6c3e54d829edc7aaceb73cb7ea2125217d4780c8"), looks := true }, kinds := [], alts := [], laidByText := true, laidKinds := [.data, .data, .data, .data, .sentinel, .sentinel, .pinned], laidTests := true, laidLooks := .later }
def OpsBackCardSaid : Prop := Claim7.holds Tryd.pinned (.plain (OpenSpec.ofChange opsBackSpec)) opsBackCard

/-- THE TIED CARD OF 'roundelaylaw32.LinesTell'. -/
def linesTellCard : Claim7 := { stood := { row := linesTellRow, standIns := [], harness := (true, "6f186e824863e89d21c552bc6c3e54d829edc7aaceb73cb7ea2125217d4780c8"), looks := true }, kinds := [], alts := [], laidByText := true, laidKinds := [.data, .data, .data, .data, .sentinel, .sentinel, .pinned], laidTests := true, laidLooks := .later }
def LinesTellCardSaid : Prop := Claim7.holds Tryd.pinned (.plain (OpenSpec.ofChange linesTellSpec)) linesTellCard

/-- THE TIED CARD OF 'roundelaylaw32.LinesRead'. -/
def linesReadCard : Claim7 := { stood := { row := linesReadRow, standIns := [], harness := (true, "6f186e824863e89d21c552bc6c3e54d829edc7aaceb73cb7ea2125217d4780c8"), looks := true }, kinds := [], alts := [], laidByText := true, laidKinds := [.data, .data, .data, .data, .sentinel, .sentinel, .pinned], laidTests := true, laidLooks := .later }
def LinesReadCardSaid : Prop := Claim7.holds Tryd.pinned (.plain (OpenSpec.ofChange linesReadSpec)) linesReadCard

/-- THE TIED CARD OF 'roundelaylaw32.LinesBack'. -/
def linesBackCard : Claim7 := { stood := { row := linesBackRow, standIns := [], harness := (true, "6f186e824863e89d21c552bc6c3e54d829edc7aaceb73cb7ea2125217d4780c8"), looks := true }, kinds := [], alts := [], laidByText := true, laidKinds := [.data, .data, .data, .data, .sentinel, .sentinel, .pinned], laidTests := true, laidLooks := .later }
def LinesBackCardSaid : Prop := Claim7.holds Tryd.pinned (.plain (OpenSpec.ofChange linesBackSpec)) linesBackCard

/-- THE SECOND FORM's CARD OF 'roundelaylaw27.HistoryTells'. -/
def historyTellsUptoCard : Claim7 := { stood := { row := historyTellsUptoRow, standIns := [], harness := (true, "6f186e824863e89d21c552bc6c3e54d829edc7aaceb73cb7ea2125217d4780c8"), looks := true }, kinds := [], alts := [], laidByText := true, laidKinds := [.data, .data, .data], laidTests := true, laidLooks := .later }
def HistoryTellsUptoCardSaid : Prop := Claim7.holds Tryd.pinned (.plain (OpenSpec.upto historyTellsSpec)) historyTellsUptoCard

/-- THE SECOND FORM's CARD OF 'roundelaylaw27.HistoryWide'. -/
def historyWideUptoCard : Claim7 := { stood := { row := historyWideUptoRow, standIns := [], harness := (true, "6f186e824863e89d21c552bc6c3e54d829edc7aaceb73cb7ea2125217d4780c8"), looks := true }, kinds := [], alts := [], laidByText := true, laidKinds := [.data, .data, .data], laidTests := true, laidLooks := .later }
def HistoryWideUptoCardSaid : Prop := Claim7.holds Tryd.pinned (.plain (OpenSpec.upto historyWideSpec)) historyWideUptoCard

/-- THE SECOND FORM's CARD OF 'roundelaylaw27.HistoryOrders'. -/
def historyOrdersUptoCard : Claim7 := { stood := { row := historyOrdersUptoRow, standIns := [], harness := (true, "6f186e824863e89d21c552bc6c3e54d829edc7aaceb73cb7ea2125217d4780c8"), looks := true }, kinds := [], alts := [], laidByText := true, laidKinds := [.data, .data, .data], laidTests := true, laidLooks := .later }
def HistoryOrdersUptoCardSaid : Prop := Claim7.holds Tryd.pinned (.plain (OpenSpec.upto historyOrdersSpec)) historyOrdersUptoCard

/-- THE SECOND FORM's CARD OF 'roundelaylaw38.RankTells'. -/
def rankTellsUptoCard : Claim7 := { stood := { row := rankTellsUptoRow, standIns := [], harness := (true, "6f186e824863e89d21c552bc6c3e54d829edc7aaceb73cb7ea2125217d4780c8"), looks := true }, kinds := [], alts := [], laidByText := true, laidKinds := [.data, .data, .data], laidTests := true, laidLooks := .later }
def RankTellsUptoCardSaid : Prop := Claim7.holds Tryd.pinned (.plain (OpenSpec.upto rankTellsSpec)) rankTellsUptoCard

/-- THE SECOND FORM's CARD OF 'roundelaylaw38.RankTables'. -/
def rankTablesUptoCard : Claim7 := { stood := { row := rankTablesUptoRow, standIns := [], harness := (true, "6f186e824863e89d21c552bc6c3e54d829edc7aaceb73cb7ea2125217d4780c8"), looks := true }, kinds := [], alts := [], laidByText := true, laidKinds := [.data, .data, .data], laidTests := true, laidLooks := .later }
def RankTablesUptoCardSaid : Prop := Claim7.holds Tryd.pinned (.plain (OpenSpec.upto rankTablesSpec)) rankTablesUptoCard

/-- THE SECOND FORM's CARD OF 'roundelaylaw38.RankOrders'. -/
def rankOrdersUptoCard : Claim7 := { stood := { row := rankOrdersUptoRow, standIns := [], harness := (true, "6f186e824863e89d21c552bc6c3e54d829edc7aaceb73cb7ea2125217d4780c8"), looks := true }, kinds := [], alts := [], laidByText := true, laidKinds := [.data, .data, .data], laidTests := true, laidLooks := .later }
def RankOrdersUptoCardSaid : Prop := Claim7.holds Tryd.pinned (.plain (OpenSpec.upto rankOrdersSpec)) rankOrdersUptoCard

/-- THE SECOND FORM's CARD OF 'roundelaylaw05.OpsPack'. -/
def opsPackUptoCard : Claim7 := { stood := { row := opsPackUptoRow, standIns := [], harness := (true, "6f186e824863e89d21c552bc6c3e54d829edc7aaceb73cb7ea2125217d4780c8"), looks := true }, kinds := [], alts := [], laidByText := true, laidKinds := [.data, .data, .data, .data, .sentinel, .sentinel, .pinned], laidTests := true, laidLooks := .later }
def OpsPackUptoCardSaid : Prop := Claim7.holds Tryd.pinned (.plain (OpenSpec.upto opsPackSpec)) opsPackUptoCard

/-- THE SECOND FORM's CARD OF 'roundelaylaw05.OpsUnpack'. -/
def opsUnpackUptoCard : Claim7 := { stood := { row := opsUnpackUptoRow, standIns := [], harness := (true, "6f186e824863e89d21c552bc6c3e54d829edc7aaceb73cb7ea2125217d4780c8"), looks := true }, kinds := [], alts := [], laidByText := true, laidKinds := [.data, .data, .data, .data, .sentinel, .sentinel, .pinned], laidTests := true, laidLooks := .later }
def OpsUnpackUptoCardSaid : Prop := Claim7.holds Tryd.pinned (.plain (OpenSpec.upto opsUnpackSpec)) opsUnpackUptoCard

/-- THE SECOND FORM's CARD OF 'roundelaylaw05.OpsTexts'. -/
def opsTextsUptoCard : Claim7 := { stood := { row := opsTextsUptoRow, standIns := [], harness := (true, "6f186e824863e89d21c552bc6c3e54d829edc7aaceb73cb7ea2125217d4780c8"), looks := true }, kinds := [], alts := [], laidByText := true, laidKinds := [.data, .data, .data, .data, .sentinel, .sentinel, .pinned], laidTests := true, laidLooks := .later }
def OpsTextsUptoCardSaid : Prop := Claim7.holds Tryd.pinned (.plain (OpenSpec.upto opsTextsSpec)) opsTextsUptoCard

/-- THE SECOND FORM's CARD OF 'roundelaylaw05.OpsBack'. -/
def opsBackUptoCard : Claim7 := { stood := { row := opsBackUptoRow, standIns := [], harness := (true, "6f186e824863e89d21c552bc6c3e54d829edc7aaceb73cb7ea2125217d4780c8"), looks := true }, kinds := [], alts := [], laidByText := true, laidKinds := [.data, .data, .data, .data, .sentinel, .sentinel, .pinned], laidTests := true, laidLooks := .later }
def OpsBackUptoCardSaid : Prop := Claim7.holds Tryd.pinned (.plain (OpenSpec.upto opsBackSpec)) opsBackUptoCard

/-- THE SECOND FORM's CARD OF 'roundelaylaw32.LinesTell'. -/
def linesTellUptoCard : Claim7 := { stood := { row := linesTellUptoRow, standIns := [], harness := (true, "6f186e824863e89d21c552bc6c3e54d829edc7aaceb73cb7ea2125217d4780c8"), looks := true }, kinds := [], alts := [], laidByText := true, laidKinds := [.data, .data, .data, .data, .sentinel, .sentinel, .pinned], laidTests := true, laidLooks := .later }
def LinesTellUptoCardSaid : Prop := Claim7.holds Tryd.pinned (.plain (OpenSpec.upto linesTellSpec)) linesTellUptoCard

/-- THE SECOND FORM's CARD OF 'roundelaylaw32.LinesRead'. -/
def linesReadUptoCard : Claim7 := { stood := { row := linesReadUptoRow, standIns := [], harness := (true, "6f186e824863e89d21c552bc6c3e54d829edc7aaceb73cb7ea2125217d4780c8"), looks := true }, kinds := [], alts := [], laidByText := true, laidKinds := [.data, .data, .data, .data, .sentinel, .sentinel, .pinned], laidTests := true, laidLooks := .later }
def LinesReadUptoCardSaid : Prop := Claim7.holds Tryd.pinned (.plain (OpenSpec.upto linesReadSpec)) linesReadUptoCard

/-- THE SECOND FORM's CARD OF 'roundelaylaw32.LinesBack'. -/
def linesBackUptoCard : Claim7 := { stood := { row := linesBackUptoRow, standIns := [], harness := (true, "6f186e824863e89d21c552bc6c3e54d829edc7aaceb73cb7ea2125217d4780c8"), looks := true }, kinds := [], alts := [], laidByText := true, laidKinds := [.data, .data, .data, .data, .sentinel, .sentinel, .pinned], laidTests := true, laidLooks := .later }
def LinesBackUptoCardSaid : Prop := Claim7.holds Tryd.pinned (.plain (OpenSpec.upto linesBackSpec)) linesBackUptoCard
end Rows
end Go.Proofs.YtagdcclpibjfoaaDoor
