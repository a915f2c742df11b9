/-
  The closed facts of the row LinearModel, one by one.
-/
import Derived.Test.YtpgonpjakllnjaaRows
import Derived.WalkKit
import Derived.ProofKit
import Derived.OpenShut
import Derived.JoinedOf
namespace Go.Proofs.Ytpgonpjakllnjaa
open Go.ChangeShapes Go.WideShapes Go.ChangeAt Go.RowKit
theorem andT {a b : Bool} (h : a = true) (g : b = true) : (a && b) = true := by rw [h, g]; rfl
theorem linearModel_k0 : (Rows.linearModelRow.wf (OpenSpec.ofChange Rows.linearModelSpec)) = true := by kernel_rfl
theorem linearModel_k1 : (laidOutB Try.prog) = true := by kernel_rfl
theorem linearModel_k2 : (mapsRowed Try.prog) = true := by kernel_rfl
theorem linearModel_k3 : (Try.f4.params.all (Try.prog.readableRec ·)) = true := by kernel_rfl
theorem linearModel_k4 : (namedTie Try.prog Rows.linearModelRow.named Rows.linearModelSpec.vars) = true := by kernel_rfl
theorem linearModel_k5 : ((Rows.linearModelRow.stops == [])) = true := by kernel_rfl
theorem linearModel_k6 : ((Try.prog.stops == [])) = true := by kernel_rfl
theorem linearModel_k7 : ((Rows.linearModelRow.knobs == [])) = true := by kernel_rfl
theorem linearModel_k8 : ((Try.prog.stopKnobs == [])) = true := by kernel_rfl
theorem linearModel_k9 : ((Rows.linearModelRow.inPlace == Try.prog.inPlace 4)) = true := by kernel_rfl
theorem linearModel_k10 : ((Rows.linearModelRow.unfollowed == Try.prog.unfollowed 4)) = true := by kernel_rfl
theorem linearModel_k11 : ((Rows.linearModelRow.recurses == Try.prog.recurses 4)) = true := by kernel_rfl
theorem linearModel_k12 : ((Rows.linearModelRow.named == Try.prog.varsNamed 4)) = true := by kernel_rfl
theorem linearModel_k13 : ((Rows.linearModelRow.maps == (Try.f4.params.toList ++ Rows.linearModelSpec.plain.varTypes Try.prog).any (Try.prog.mapsRec ·))) = true := by kernel_rfl
theorem linearModel_k14 : ((Rows.linearModelRow.ifaces == (Try.f4.params.toList ++ Rows.linearModelSpec.plain.varTypes Try.prog).any (Try.prog.ifacesRec ·))) = true := by kernel_rfl
theorem linearModel_k15 : ((Rows.linearModelRow.mapsOut == Try.prog.mapsAmong Try.f4.resultTypes.toList)) = true := by kernel_rfl
theorem linearModel_k16 : ((Rows.linearModelRow.loops == (Try.f4.params.toList ++ Rows.linearModelSpec.plain.varTypes Try.prog).any (Try.prog.loopsFrom ·))) = true := by kernel_rfl
theorem linearModel_k17 : ((Rows.linearModelRow.wideKeys == (Try.f4.params.toList ++ Rows.linearModelSpec.plain.varTypes Try.prog ++ Try.f4.resultTypes.toList).any (Try.prog.wideKeysFrom ·))) = true := by kernel_rfl
theorem linearModel_k18 : (Rows.linearModelSpec.vars.all (Try.prog.varReadable ·)) = true := by kernel_rfl
theorem linearModel_k19 : (Try.f4.resultTypes.all (fun t => Try.prog.readableRec t && decide (t < Try.prog.types.size))) = true := by kernel_rfl
theorem linearModel_k20 : ((Rows.linearModelRow.ifacesOut == Try.f4.resultTypes.toList.any (Try.prog.ifacesRec ·))) = true := by kernel_rfl
theorem linearModel_k21 : ((Rows.linearModelRow.loopsOut == Try.f4.resultTypes.toList.any (Try.prog.loopsFrom ·))) = true := by kernel_rfl
theorem linearModel_k22 : ((Rows.linearModelRow.plainKeys == Try.prog.plainKeys)) = true := by kernel_rfl
theorem linearModel_k23 : (Rows.linearModelRow.shortTexts.isNone) = true := by kernel_rfl
theorem linearModel_k24 : (Try.prog.stopsHeard) = true := by kernel_rfl
theorem linearModel_k25 : (Try.prog.mayEnter) = true := by kernel_rfl
theorem linearModel_k26 : ((Rows.linearModelRow.lifted == Try.prog.liftsFinal)) = true := by kernel_rfl
theorem linearModel_k27 : ((Try.prog.make == some Rows.linearModelRow.make)) = true := by kernel_rfl
theorem linearModel_k28 : ((Rows.linearModelRow.kinds == (if Rows.linearModelRow.domain.isEmpty then [] else Try.f4.params.toList.map fun t => match Try.prog.underlying t with | some (.int k) => some k | _ => none))) = true := by kernel_rfl
theorem linearModel_k29 : ((Rows.linearModelRow.pinned == Rows.linearModelRow.pinnedBy)) = true := by kernel_rfl
theorem linearModel_k30 : ((Rows.linearModelRow.veiled == (Try.f4.params.toList ++ Rows.linearModelSpec.plain.varTypes Try.prog ++ Try.f4.resultTypes.toList).any (Try.prog.veiledRec ·))) = true := by kernel_rfl
theorem linearModel_k31 : (Rows.linearModelRow.veiledFits Try.prog Try.f4.params.toList (Try.f4.params.toList ++ Rows.linearModelSpec.plain.varTypes Try.prog ++ Try.f4.resultTypes.toList)) = true := by kernel_rfl
set_option maxRecDepth 100000 in
theorem linearModel_closed : joinedFacts Try.prog 4 Try.f4 Rows.linearModelSpec Rows.linearModelRow = true := (andT (andT (andT (andT (andT (andT (andT (andT (andT (andT (andT (andT (andT (andT (andT (andT (andT (andT (andT (andT (andT (andT (andT (andT (andT (andT (andT (andT (andT (andT (andT linearModel_k0 linearModel_k1) linearModel_k2) linearModel_k3) linearModel_k4) linearModel_k5) linearModel_k6) linearModel_k7) linearModel_k8) linearModel_k9) linearModel_k10) linearModel_k11) linearModel_k12) linearModel_k13) linearModel_k14) linearModel_k15) linearModel_k16) linearModel_k17) linearModel_k18) linearModel_k19) linearModel_k20) linearModel_k21) linearModel_k22) linearModel_k23) linearModel_k24) linearModel_k25) linearModel_k26) linearModel_k27) linearModel_k28) linearModel_k29) linearModel_k30) linearModel_k31)
theorem linearModel_named : Try.prog.funcNamed "roundelay/roundelaylaw28.LinearModel" = some 4 := by kernel_rfl
theorem linearModel_inst : Try.f4.isInstance Try.prog Rows.linearModelRow.origin Rows.linearModelRow.targs := of_decide_eq_true (by kernel_rfl)
theorem linearModel_wrap : Try.f4.isWrapper Try.prog Rows.linearModelRow.wrapper Rows.linearModelRow.mainSum := by unfold Func.isWrapper; first | (rw [if_pos (by decide +kernel)]; kernel_rfl) | (rw [if_neg (by decide +kernel)]; exact ⟨rfl, rfl⟩)
end Go.Proofs.Ytpgonpjakllnjaa
