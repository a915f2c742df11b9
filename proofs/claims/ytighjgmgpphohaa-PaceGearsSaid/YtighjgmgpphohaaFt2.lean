/-
  The closed facts of the row PaceGears, one by one.
-/
import Derived.Test.YtighjgmgpphohaaRows
import Derived.WalkKit
import Derived.ProofKit
import Derived.OpenShut
import Derived.JoinedOf
import Derived.Test.YtighjgmgpphohaaFt1
namespace Go.Proofs.Ytighjgmgpphohaa
open Go.ChangeShapes Go.WideShapes Go.ChangeAt Go.RowKit
theorem paceGears_k0 : (Rows.paceGearsRow.wf (OpenSpec.ofChange Rows.paceGearsSpec)) = true := by kernel_rfl
theorem paceGears_k1 : (laidOutB Try.prog) = true := paceLatest_k1
theorem paceGears_k2 : (mapsRowed Try.prog) = true := by kernel_rfl
theorem paceGears_k3 : (Try.f4.params.all (Try.prog.readableRec ·)) = true := by kernel_rfl
theorem paceGears_k4 : (namedTie Try.prog Rows.paceGearsRow.named Rows.paceGearsSpec.vars) = true := by kernel_rfl
theorem paceGears_k5 : ((Rows.paceGearsRow.stops == [])) = true := by kernel_rfl
theorem paceGears_k6 : ((Try.prog.stops == [])) = true := by kernel_rfl
theorem paceGears_k7 : ((Rows.paceGearsRow.knobs == [])) = true := by kernel_rfl
theorem paceGears_k8 : ((Try.prog.stopKnobs == [])) = true := by kernel_rfl
theorem paceGears_k9 : ((Rows.paceGearsRow.inPlace == Try.prog.inPlace 4)) = true := by kernel_rfl
theorem paceGears_k10 : ((Rows.paceGearsRow.unfollowed == Try.prog.unfollowed 4)) = true := by kernel_rfl
theorem paceGears_k11 : ((Rows.paceGearsRow.recurses == Try.prog.recurses 4)) = true := by kernel_rfl
theorem paceGears_k12 : ((Rows.paceGearsRow.named == Try.prog.varsNamed 4)) = true := by kernel_rfl
theorem paceGears_k13 : ((Rows.paceGearsRow.maps == (Try.f4.params.toList ++ Rows.paceGearsSpec.plain.varTypes Try.prog).any (Try.prog.mapsRec ·))) = true := by kernel_rfl
theorem paceGears_k14 : ((Rows.paceGearsRow.ifaces == (Try.f4.params.toList ++ Rows.paceGearsSpec.plain.varTypes Try.prog).any (Try.prog.ifacesRec ·))) = true := by kernel_rfl
theorem paceGears_k15 : ((Rows.paceGearsRow.mapsOut == Try.prog.mapsAmong Try.f4.resultTypes.toList)) = true := by kernel_rfl
theorem paceGears_k16 : ((Rows.paceGearsRow.loops == (Try.f4.params.toList ++ Rows.paceGearsSpec.plain.varTypes Try.prog).any (Try.prog.loopsFrom ·))) = true := by kernel_rfl
theorem paceGears_k17 : ((Rows.paceGearsRow.wideKeys == (Try.f4.params.toList ++ Rows.paceGearsSpec.plain.varTypes Try.prog ++ Try.f4.resultTypes.toList).any (Try.prog.wideKeysFrom ·))) = true := by kernel_rfl
theorem paceGears_k18 : (Rows.paceGearsSpec.vars.all (Try.prog.varReadable ·)) = true := by kernel_rfl
theorem paceGears_k19 : (Try.f4.resultTypes.all (fun t => Try.prog.readableRec t && decide (t < Try.prog.types.size))) = true := by kernel_rfl
theorem paceGears_k20 : ((Rows.paceGearsRow.ifacesOut == Try.f4.resultTypes.toList.any (Try.prog.ifacesRec ·))) = true := by kernel_rfl
theorem paceGears_k21 : ((Rows.paceGearsRow.loopsOut == Try.f4.resultTypes.toList.any (Try.prog.loopsFrom ·))) = true := by kernel_rfl
theorem paceGears_k22 : ((Rows.paceGearsRow.plainKeys == Try.prog.plainKeys)) = true := by kernel_rfl
theorem paceGears_k23 : (Rows.paceGearsRow.shortTexts.isNone) = true := by kernel_rfl
theorem paceGears_k24 : (Try.prog.stopsHeard) = true := by kernel_rfl
theorem paceGears_k25 : (Try.prog.mayEnter) = true := by kernel_rfl
theorem paceGears_k26 : ((Rows.paceGearsRow.lifted == Try.prog.liftsFinal)) = true := by kernel_rfl
theorem paceGears_k27 : ((Try.prog.make == some Rows.paceGearsRow.make)) = true := by kernel_rfl
theorem paceGears_k28 : ((Rows.paceGearsRow.kinds == (if Rows.paceGearsRow.domain.isEmpty then [] else Try.f4.params.toList.map fun t => match Try.prog.underlying t with | some (.int k) => some k | _ => none))) = true := by kernel_rfl
theorem paceGears_k29 : ((Rows.paceGearsRow.pinned == Rows.paceGearsRow.pinnedBy)) = true := by kernel_rfl
theorem paceGears_k30 : ((Rows.paceGearsRow.veiled == (Try.f4.params.toList ++ Rows.paceGearsSpec.plain.varTypes Try.prog ++ Try.f4.resultTypes.toList).any (Try.prog.veiledRec ·))) = true := by kernel_rfl
theorem paceGears_k31 : (Rows.paceGearsRow.veiledFits Try.prog Try.f4.params.toList (Try.f4.params.toList ++ Rows.paceGearsSpec.plain.varTypes Try.prog ++ Try.f4.resultTypes.toList)) = true := by kernel_rfl
set_option maxRecDepth 100000 in
theorem paceGears_closed : joinedFacts Try.prog 4 Try.f4 Rows.paceGearsSpec Rows.paceGearsRow = true := (andT (andT (andT (andT (andT (andT (andT (andT (andT (andT (andT (andT (andT (andT (andT (andT (andT (andT (andT (andT (andT (andT (andT (andT (andT (andT (andT (andT (andT (andT (andT paceGears_k0 paceGears_k1) paceGears_k2) paceGears_k3) paceGears_k4) paceGears_k5) paceGears_k6) paceGears_k7) paceGears_k8) paceGears_k9) paceGears_k10) paceGears_k11) paceGears_k12) paceGears_k13) paceGears_k14) paceGears_k15) paceGears_k16) paceGears_k17) paceGears_k18) paceGears_k19) paceGears_k20) paceGears_k21) paceGears_k22) paceGears_k23) paceGears_k24) paceGears_k25) paceGears_k26) paceGears_k27) paceGears_k28) paceGears_k29) paceGears_k30) paceGears_k31)
theorem paceGears_named : Try.prog.funcNamed "roundelay/roundelaylaw04.PaceGears" = some 4 := by kernel_rfl
theorem paceGears_inst : Try.f4.isInstance Try.prog Rows.paceGearsRow.origin Rows.paceGearsRow.targs := of_decide_eq_true (by kernel_rfl)
theorem paceGears_wrap : Try.f4.isWrapper Try.prog Rows.paceGearsRow.wrapper Rows.paceGearsRow.mainSum := by unfold Func.isWrapper; first | (rw [if_pos (by decide +kernel)]; kernel_rfl) | (rw [if_neg (by decide +kernel)]; exact ⟨rfl, rfl⟩)
end Go.Proofs.Ytighjgmgpphohaa
