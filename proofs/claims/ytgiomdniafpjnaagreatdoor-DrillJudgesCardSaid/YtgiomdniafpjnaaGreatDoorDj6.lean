/-
  Reports (Dgo): a program in which no go statement stands starts no goroutine.
-/
import Derived.Test.YtgiomdniafpjnaaGreatDoorRows
import GoSem.ClaimGoes
import Derived.Test.YtgiomdniafpjnaaGreatDoorDj5
import Derived.Test.YtgiomdniafpjnaaGreatDoorCards
import Derived.Test.YtgiomdniafpjnaaGreatDoorTie
section
namespace Go.Proofs.YtgiomdniafpjnaaGreatDoor
open Go
theorem no_goes {P : Program} (h : P.funcs.toList.all (fun g => !g.goes) = true) (f : FuncId) : P.goes f = false := by
  have h1 : ∀ g : FuncId, (P.funcs[g]?).any Func.goes = false := fun g => by
    cases hg : P.funcs[g]? with
    | none => rfl
    | some fn =>
      have hm : fn ∈ P.funcs.toList := Array.mem_toList_iff.2 (Array.mem_of_getElem? hg)
      have := List.all_eq_true.1 h fn hm
      simpa using this
  have h2 : P.funcs.any Func.goes = false := by
    rw [← Array.any_toList, List.any_eq_false]
    intro fn hm
    have := List.all_eq_true.1 h fn hm
    simpa using this
  unfold Program.goes
  rw [h2, Bool.and_false, Bool.or_false, List.any_eq_false]
  intro g _
  rw [h1]; decide
theorem goesBy_none {P : Program} (h : P.funcs.toList.all (fun g => !g.goes) = true) (c : OpenClaim) : false = c.goesBy P := by
  unfold OpenClaim.goesBy Program.goesAt Program.goesFrom
  have hs : (P.funcNamed c.func).any P.goes = false := by
    cases P.funcNamed c.func with
    | none => rfl
    | some f => exact no_goes h f
  rw [hs, Bool.false_or]
  split
  · rfl
  · symm
    rw [List.any_eq_false]
    intro f _
    rw [no_goes h]; decide
theorem no_go : Tryz.prog.funcs.toList.all (fun g => !g.goes) = true := by kernel_rfl
end Go.Proofs.YtgiomdniafpjnaaGreatDoor
end

/-
  DrillJudges (law 36) holds of every input (its card): which reports are sound, and the text of any one, are as the document says.
-/
section
namespace Go.Proofs.YtgiomdniafpjnaaGreatDoor
open Go.ChangeShapes Go.WideShapes Go.ChangeAt Go.RowKit
theorem card_w : Rows.drillJudgesRow.wfByText (OpenSpec.ofChange Rows.drillJudgesSpec) = true := by kernel_rfl
theorem card_m : Tryz.pinned.checked.prog.mainIs = some (true, "dd5ff573bb1adf9175ba2bab5886dd33fbd8ace55d06c65a9efc051de96fb3c9".toList) := by kernel_rfl
theorem card_g : false = Rows.drillJudgesRow.goesBy Tryz.pinned.checked.prog := goesBy_none no_go _
/-- THE CARD. -/
theorem cardJ : Rows.DrillJudgesCardSaid :=
  Claim7.holds_tied_plain_at .later [] _ _ _ _ Txt.said (fun _ h => by cases h) card_w (fun _ h => by cases h) drillJudges_row_tie rfl ⟨rfl, rfl⟩ card_m rfl Txt.plain card_g
end Go.Proofs.YtgiomdniafpjnaaGreatDoor
end
