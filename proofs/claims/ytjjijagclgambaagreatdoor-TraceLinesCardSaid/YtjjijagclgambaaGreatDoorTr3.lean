/-
  TraceLines (law 39) holds of every input (its row and its card): the log line of any batch, and which kinds any letters have, are as the document says.
-/
import Derived.Test.YtjjijagclgambaaGreatDoorTr2
namespace Go.Proofs.YtjjijagclgambaaGreatDoor
open Go.ChangeShapes Go.WideShapes Go.ChangeAt Go.RowKit
theorem card_w : Rows.traceLinesRow.wfByText (OpenSpec.ofChange Rows.traceLinesSpec) = true := by kernel_rfl
theorem card_m : Tryz.pinned.checked.prog.mainIs = some (true, "5c4b2815c7dd97afad61ff81cf758c31c276723f23de4f4d846a4a16ed2b5f94".toList) := by kernel_rfl
theorem card_g : false = Rows.traceLinesRow.goesBy Tryz.pinned.checked.prog := by kernel_rfl
/-- THE CARD. -/
theorem cardX : Rows.TraceLinesCardSaid :=
  Claim7.holds_tied_plain_at .later [] _ _ _ _ Txt.said (fun _ h => by cases h) card_w (fun _ h => by cases h) traceLines_row_tie rfl ⟨rfl, rfl⟩ card_m rfl Txt.plain card_g
end Go.Proofs.YtjjijagclgambaaGreatDoor
