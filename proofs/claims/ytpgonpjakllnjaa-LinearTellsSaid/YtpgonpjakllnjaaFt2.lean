/-
  The closed facts of the row LinearTells, one by one.
-/
import Derived.Test.YtpgonpjakllnjaaRows
import Derived.WalkKit
import Derived.ProofKit
import Derived.OpenShut
import Derived.JoinedOf
namespace Go.Proofs.Ytpgonpjakllnjaa
open Go.ChangeShapes Go.WideShapes Go.ChangeAt Go.RowKit
theorem andT {a b : Bool} (h : a = true) (g : b = true) : (a && b) = true := by rw [h, g]; rfl
theorem linearTells_k0 : (Rows.linearTellsRow.wf (OpenSpec.ofChange Rows.linearTellsSpec)) = true := by kernel_rfl
theorem linearTells_k1 : (laidOutB Try.prog) = true := by kernel_rfl
theorem linearTells_k2 : (mapsRowed Try.prog) = true := by kernel_rfl
theorem linearTells_k3 : (Try.f5.params.all (Try.prog.readableRec ·)) = true := by kernel_rfl
theorem linearTells_k4 : (namedTie Try.prog Rows.linearTellsRow.named Rows.linearTellsSpec.vars) = true := by kernel_rfl
theorem linearTells_k5 : ((Rows.linearTellsRow.stops == [])) = true := by kernel_rfl
theorem linearTells_k6 : ((Try.prog.stops == [])) = true := by kernel_rfl
theorem linearTells_k7 : ((Rows.linearTellsRow.knobs == [])) = true := by kernel_rfl
theorem linearTells_k8 : ((Try.prog.stopKnobs == [])) = true := by kernel_rfl
theorem linearTells_k9 : ((Rows.linearTellsRow.inPlace == Try.prog.inPlace 5)) = true := by kernel_rfl
theorem linearTells_k10 : ((Rows.linearTellsRow.unfollowed == Try.prog.unfollowed 5)) = true := by kernel_rfl
theorem linearTells_k11 : ((Rows.linearTellsRow.recurses == Try.prog.recurses 5)) = true := by kernel_rfl
theorem linearTells_k12 : ((Rows.linearTellsRow.named == Try.prog.varsNamed 5)) = true := by kernel_rfl
theorem linearTells_k13 : ((Rows.linearTellsRow.maps == (Try.f5.params.toList ++ Rows.linearTellsSpec.plain.varTypes Try.prog).any (Try.prog.mapsRec ·))) = true := by kernel_rfl
theorem linearTells_k14 : ((Rows.linearTellsRow.ifaces == (Try.f5.params.toList ++ Rows.linearTellsSpec.plain.varTypes Try.prog).any (Try.prog.ifacesRec ·))) = true := by kernel_rfl
theorem linearTells_k15 : ((Rows.linearTellsRow.mapsOut == Try.prog.mapsAmong Try.f5.resultTypes.toList)) = true := by kernel_rfl
theorem linearTells_k16 : ((Rows.linearTellsRow.loops == (Try.f5.params.toList ++ Rows.linearTellsSpec.plain.varTypes Try.prog).any (Try.prog.loopsFrom ·))) = true := by kernel_rfl
theorem linearTells_k17 : ((Rows.linearTellsRow.wideKeys == (Try.f5.params.toList ++ Rows.linearTellsSpec.plain.varTypes Try.prog ++ Try.f5.resultTypes.toList).any (Try.prog.wideKeysFrom ·))) = true := by kernel_rfl
theorem linearTells_k18 : (Rows.linearTellsSpec.vars.all (Try.prog.varReadable ·)) = true := by kernel_rfl
theorem linearTells_k19 : (Try.f5.resultTypes.all (fun t => Try.prog.readableRec t && decide (t < Try.prog.types.size))) = true := by kernel_rfl
theorem linearTells_k20 : ((Rows.linearTellsRow.ifacesOut == Try.f5.resultTypes.toList.any (Try.prog.ifacesRec ·))) = true := by kernel_rfl
theorem linearTells_k21 : ((Rows.linearTellsRow.loopsOut == Try.f5.resultTypes.toList.any (Try.prog.loopsFrom ·))) = true := by kernel_rfl
theorem linearTells_k22 : ((Rows.linearTellsRow.plainKeys == Try.prog.plainKeys)) = true := by kernel_rfl
theorem linearTells_k23 : (Rows.linearTellsRow.shortTexts.isNone) = true := by kernel_rfl
theorem linearTells_k24 : (Try.prog.stopsHeard) = true := by kernel_rfl
theorem linearTells_k25 : (Try.prog.mayEnter) = true := by kernel_rfl
theorem linearTells_k26 : ((Rows.linearTellsRow.lifted == Try.prog.liftsFinal)) = true := by kernel_rfl
theorem linearTells_k27 : ((Try.prog.make == some Rows.linearTellsRow.make)) = true := by kernel_rfl
theorem linearTells_k28 : ((Rows.linearTellsRow.kinds == (if Rows.linearTellsRow.domain.isEmpty then [] else Try.f5.params.toList.map fun t => match Try.prog.underlying t with | some (.int k) => some k | _ => none))) = true := by kernel_rfl
theorem linearTells_k29 : ((Rows.linearTellsRow.pinned == Rows.linearTellsRow.pinnedBy)) = true := by kernel_rfl
theorem linearTells_k30 : ((Rows.linearTellsRow.veiled == (Try.f5.params.toList ++ Rows.linearTellsSpec.plain.varTypes Try.prog ++ Try.f5.resultTypes.toList).any (Try.prog.veiledRec ·))) = true := by kernel_rfl
theorem linearTells_k31 : (Rows.linearTellsRow.veiledFits Try.prog Try.f5.params.toList (Try.f5.params.toList ++ Rows.linearTellsSpec.plain.varTypes Try.prog ++ Try.f5.resultTypes.toList)) = true := by kernel_rfl
set_option maxRecDepth 100000 in
theorem linearTells_closed : joinedFacts Try.prog 5 Try.f5 Rows.linearTellsSpec Rows.linearTellsRow = true := (andT (andT (andT (andT (andT (andT (andT (andT (andT (andT (andT (andT (andT (andT (andT (andT (andT (andT (andT (andT (andT (andT (andT (andT (andT (andT (andT (andT (andT (andT (andT linearTells_k0 linearTells_k1) linearTells_k2) linearTells_k3) linearTells_k4) linearTells_k5) linearTells_k6) linearTells_k7) linearTells_k8) linearTells_k9) linearTells_k10) linearTells_k11) linearTells_k12) linearTells_k13) linearTells_k14) linearTells_k15) linearTells_k16) linearTells_k17) linearTells_k18) linearTells_k19) linearTells_k20) linearTells_k21) linearTells_k22) linearTells_k23) linearTells_k24) linearTells_k25) linearTells_k26) linearTells_k27) linearTells_k28) linearTells_k29) linearTells_k30) linearTells_k31)
theorem linearTells_named : Try.prog.funcNamed "roundelay/roundelaylaw28.LinearTells" = some 5 := by kernel_rfl
theorem linearTells_inst : Try.f5.isInstance Try.prog Rows.linearTellsRow.origin Rows.linearTellsRow.targs := of_decide_eq_true (by kernel_rfl)
theorem linearTells_wrap : Try.f5.isWrapper Try.prog Rows.linearTellsRow.wrapper Rows.linearTellsRow.mainSum := by unfold Func.isWrapper; first | (rw [if_pos (by decide +kernel)]; kernel_rfl) | (rw [if_neg (by decide +kernel)]; exact ⟨rfl, rfl⟩)
end Go.Proofs.Ytpgonpjakllnjaa
