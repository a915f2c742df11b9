/-
  The closed facts of the row PaceLatest, one by one.
-/
import Derived.Test.YtighjgmgpphohaaRows
import Derived.WalkKit
import Derived.ProofKit
import Derived.OpenShut
import Derived.JoinedOf
namespace Go.Proofs.Ytighjgmgpphohaa
open Go.ChangeShapes Go.WideShapes Go.ChangeAt Go.RowKit
theorem andT {a b : Bool} (h : a = true) (g : b = true) : (a && b) = true := by rw [h, g]; rfl
theorem paceLatest_k0 : (Rows.paceLatestRow.wf (OpenSpec.ofChange Rows.paceLatestSpec)) = true := by kernel_rfl
theorem paceLatest_k1 : (laidOutB Try.prog) = true := by kernel_rfl
theorem paceLatest_k2 : (mapsRowed Try.prog) = true := by kernel_rfl
theorem paceLatest_k3 : (Try.f3.params.all (Try.prog.readableRec ·)) = true := by kernel_rfl
theorem paceLatest_k4 : (namedTie Try.prog Rows.paceLatestRow.named Rows.paceLatestSpec.vars) = true := by kernel_rfl
theorem paceLatest_k5 : ((Rows.paceLatestRow.stops == [])) = true := by kernel_rfl
theorem paceLatest_k6 : ((Try.prog.stops == [])) = true := by kernel_rfl
theorem paceLatest_k7 : ((Rows.paceLatestRow.knobs == [])) = true := by kernel_rfl
theorem paceLatest_k8 : ((Try.prog.stopKnobs == [])) = true := by kernel_rfl
theorem paceLatest_k9 : ((Rows.paceLatestRow.inPlace == Try.prog.inPlace 3)) = true := by kernel_rfl
theorem paceLatest_k10 : ((Rows.paceLatestRow.unfollowed == Try.prog.unfollowed 3)) = true := by kernel_rfl
theorem paceLatest_k11 : ((Rows.paceLatestRow.recurses == Try.prog.recurses 3)) = true := by kernel_rfl
theorem paceLatest_k12 : ((Rows.paceLatestRow.named == Try.prog.varsNamed 3)) = true := by kernel_rfl
theorem paceLatest_k13 : ((Rows.paceLatestRow.maps == (Try.f3.params.toList ++ Rows.paceLatestSpec.plain.varTypes Try.prog).any (Try.prog.mapsRec ·))) = true := by kernel_rfl
theorem paceLatest_k14 : ((Rows.paceLatestRow.ifaces == (Try.f3.params.toList ++ Rows.paceLatestSpec.plain.varTypes Try.prog).any (Try.prog.ifacesRec ·))) = true := by kernel_rfl
theorem paceLatest_k15 : ((Rows.paceLatestRow.mapsOut == Try.prog.mapsAmong Try.f3.resultTypes.toList)) = true := by kernel_rfl
theorem paceLatest_k16 : ((Rows.paceLatestRow.loops == (Try.f3.params.toList ++ Rows.paceLatestSpec.plain.varTypes Try.prog).any (Try.prog.loopsFrom ·))) = true := by kernel_rfl
theorem paceLatest_k17 : ((Rows.paceLatestRow.wideKeys == (Try.f3.params.toList ++ Rows.paceLatestSpec.plain.varTypes Try.prog ++ Try.f3.resultTypes.toList).any (Try.prog.wideKeysFrom ·))) = true := by kernel_rfl
theorem paceLatest_k18 : (Rows.paceLatestSpec.vars.all (Try.prog.varReadable ·)) = true := by kernel_rfl
theorem paceLatest_k19 : (Try.f3.resultTypes.all (fun t => Try.prog.readableRec t && decide (t < Try.prog.types.size))) = true := by kernel_rfl
theorem paceLatest_k20 : ((Rows.paceLatestRow.ifacesOut == Try.f3.resultTypes.toList.any (Try.prog.ifacesRec ·))) = true := by kernel_rfl
theorem paceLatest_k21 : ((Rows.paceLatestRow.loopsOut == Try.f3.resultTypes.toList.any (Try.prog.loopsFrom ·))) = true := by kernel_rfl
theorem paceLatest_k22 : ((Rows.paceLatestRow.plainKeys == Try.prog.plainKeys)) = true := by kernel_rfl
theorem paceLatest_k23 : (Rows.paceLatestRow.shortTexts.isNone) = true := by kernel_rfl
theorem paceLatest_k24 : (Try.prog.stopsHeard) = true := by kernel_rfl
theorem paceLatest_k25 : (Try.prog.mayEnter) = true := by kernel_rfl
theorem paceLatest_k26 : ((Rows.paceLatestRow.lifted == Try.prog.liftsFinal)) = true := by kernel_rfl
theorem paceLatest_k27 : ((Try.prog.make == some Rows.paceLatestRow.make)) = true := by kernel_rfl
theorem paceLatest_k28 : ((Rows.paceLatestRow.kinds == (if Rows.paceLatestRow.domain.isEmpty then [] else Try.f3.params.toList.map fun t => match Try.prog.underlying t with | some (.int k) => some k | _ => none))) = true := by kernel_rfl
theorem paceLatest_k29 : ((Rows.paceLatestRow.pinned == Rows.paceLatestRow.pinnedBy)) = true := by kernel_rfl
theorem paceLatest_k30 : ((Rows.paceLatestRow.veiled == (Try.f3.params.toList ++ Rows.paceLatestSpec.plain.varTypes Try.prog ++ Try.f3.resultTypes.toList).any (Try.prog.veiledRec ·))) = true := by kernel_rfl
theorem paceLatest_k31 : (Rows.paceLatestRow.veiledFits Try.prog Try.f3.params.toList (Try.f3.params.toList ++ Rows.paceLatestSpec.plain.varTypes Try.prog ++ Try.f3.resultTypes.toList)) = true := by kernel_rfl
set_option maxRecDepth 100000 in
theorem paceLatest_closed : joinedFacts Try.prog 3 Try.f3 Rows.paceLatestSpec Rows.paceLatestRow = true := (andT (andT (andT (andT (andT (andT (andT (andT (andT (andT (andT (andT (andT (andT (andT (andT (andT (andT (andT (andT (andT (andT (andT (andT (andT (andT (andT (andT (andT (andT (andT paceLatest_k0 paceLatest_k1) paceLatest_k2) paceLatest_k3) paceLatest_k4) paceLatest_k5) paceLatest_k6) paceLatest_k7) paceLatest_k8) paceLatest_k9) paceLatest_k10) paceLatest_k11) paceLatest_k12) paceLatest_k13) paceLatest_k14) paceLatest_k15) paceLatest_k16) paceLatest_k17) paceLatest_k18) paceLatest_k19) paceLatest_k20) paceLatest_k21) paceLatest_k22) paceLatest_k23) paceLatest_k24) paceLatest_k25) paceLatest_k26) paceLatest_k27) paceLatest_k28) paceLatest_k29) paceLatest_k30) paceLatest_k31)
theorem paceLatest_named : Try.prog.funcNamed "roundelay/roundelaylaw04.PaceLatest" = some 3 := by kernel_rfl
theorem paceLatest_inst : Try.f3.isInstance Try.prog Rows.paceLatestRow.origin Rows.paceLatestRow.targs := of_decide_eq_true (by kernel_rfl)
theorem paceLatest_wrap : Try.f3.isWrapper Try.prog Rows.paceLatestRow.wrapper Rows.paceLatestRow.mainSum := by unfold Func.isWrapper; first | (rw [if_pos (by decide +kernel)]; kernel_rfl) | (rw [if_neg (by decide +kernel)]; exact ⟨rfl, rfl⟩)
end Go.Proofs.Ytighjgmgpphohaa
