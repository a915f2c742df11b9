/-
  The closed facts of the row LeastFirst, one by one.
-/
import Derived.Test.YtlcjgmehccopkaaRows
import Derived.WalkKit
import Derived.ProofKit
import Derived.OpenShut
import Derived.JoinedOf
import Derived.Test.YtlcjgmehccopkaaFt1
namespace Go.Proofs.Ytlcjgmehccopkaa
open Go.ChangeShapes Go.WideShapes Go.ChangeAt Go.RowKit

theorem leastFirst_k0 : (Rows.leastFirstRow.wf (OpenSpec.ofChange Rows.leastFirstSpec)) = true := by kernel_rfl
theorem leastFirst_k1 : (laidOutB Try.prog) = true := by kernel_rfl
theorem leastFirst_k2 : (mapsRowed Try.prog) = true := by kernel_rfl
theorem leastFirst_k3 : (Try.f4.params.all (Try.prog.readableRec ·)) = true := by kernel_rfl
theorem leastFirst_k4 : (namedTie Try.prog Rows.leastFirstRow.named Rows.leastFirstSpec.vars) = true := by kernel_rfl
theorem leastFirst_k5 : ((Rows.leastFirstRow.stops == [])) = true := by kernel_rfl
theorem leastFirst_k6 : ((Try.prog.stops == [])) = true := by kernel_rfl
theorem leastFirst_k7 : ((Rows.leastFirstRow.knobs == [])) = true := by kernel_rfl
theorem leastFirst_k8 : ((Try.prog.stopKnobs == [])) = true := by kernel_rfl
theorem leastFirst_k9 : ((Rows.leastFirstRow.inPlace == Try.prog.inPlace 4)) = true := by kernel_rfl
theorem leastFirst_k10 : ((Rows.leastFirstRow.unfollowed == Try.prog.unfollowed 4)) = true := by kernel_rfl
theorem leastFirst_k11 : ((Rows.leastFirstRow.recurses == Try.prog.recurses 4)) = true := by kernel_rfl
theorem leastFirst_k12 : ((Rows.leastFirstRow.named == Try.prog.varsNamed 4)) = true := by kernel_rfl
theorem leastFirst_k13 : ((Rows.leastFirstRow.maps == (Try.f4.params.toList ++ Rows.leastFirstSpec.plain.varTypes Try.prog).any (Try.prog.mapsRec ·))) = true := by kernel_rfl
theorem leastFirst_k14 : ((Rows.leastFirstRow.ifaces == (Try.f4.params.toList ++ Rows.leastFirstSpec.plain.varTypes Try.prog).any (Try.prog.ifacesRec ·))) = true := by kernel_rfl
theorem leastFirst_k15 : ((Rows.leastFirstRow.mapsOut == Try.prog.mapsAmong Try.f4.resultTypes.toList)) = true := by kernel_rfl
theorem leastFirst_k16 : ((Rows.leastFirstRow.loops == (Try.f4.params.toList ++ Rows.leastFirstSpec.plain.varTypes Try.prog).any (Try.prog.loopsFrom ·))) = true := by kernel_rfl
theorem leastFirst_k17 : ((Rows.leastFirstRow.wideKeys == (Try.f4.params.toList ++ Rows.leastFirstSpec.plain.varTypes Try.prog ++ Try.f4.resultTypes.toList).any (Try.prog.wideKeysFrom ·))) = true := by kernel_rfl
theorem leastFirst_k18 : (Rows.leastFirstSpec.vars.all (Try.prog.varReadable ·)) = true := by kernel_rfl
theorem leastFirst_k19 : (Try.f4.resultTypes.all (fun t => Try.prog.readableRec t && decide (t < Try.prog.types.size))) = true := by kernel_rfl
theorem leastFirst_k20 : ((Rows.leastFirstRow.ifacesOut == Try.f4.resultTypes.toList.any (Try.prog.ifacesRec ·))) = true := by kernel_rfl
theorem leastFirst_k21 : ((Rows.leastFirstRow.loopsOut == Try.f4.resultTypes.toList.any (Try.prog.loopsFrom ·))) = true := by kernel_rfl
theorem leastFirst_k22 : ((Rows.leastFirstRow.plainKeys == Try.prog.plainKeys)) = true := by kernel_rfl
theorem leastFirst_k23 : (Rows.leastFirstRow.shortTexts.isNone) = true := by kernel_rfl
theorem leastFirst_k24 : (Try.prog.stopsHeard) = true := by kernel_rfl
theorem leastFirst_k25 : (Try.prog.mayEnter) = true := by kernel_rfl
theorem leastFirst_k26 : ((Rows.leastFirstRow.lifted == Try.prog.liftsFinal)) = true := by kernel_rfl
theorem leastFirst_k27 : ((Try.prog.make == some Rows.leastFirstRow.make)) = true := by kernel_rfl
theorem leastFirst_k28 : ((Rows.leastFirstRow.kinds == (if Rows.leastFirstRow.domain.isEmpty then [] else Try.f4.params.toList.map fun t => match Try.prog.underlying t with | some (.int k) => some k | _ => none))) = true := by kernel_rfl
theorem leastFirst_k29 : ((Rows.leastFirstRow.pinned == Rows.leastFirstRow.pinnedBy)) = true := by kernel_rfl
theorem leastFirst_k30 : ((Rows.leastFirstRow.veiled == (Try.f4.params.toList ++ Rows.leastFirstSpec.plain.varTypes Try.prog ++ Try.f4.resultTypes.toList).any (Try.prog.veiledRec ·))) = true := by kernel_rfl
theorem leastFirst_k31 : (Rows.leastFirstRow.veiledFits Try.prog Try.f4.params.toList (Try.f4.params.toList ++ Rows.leastFirstSpec.plain.varTypes Try.prog ++ Try.f4.resultTypes.toList)) = true := by kernel_rfl
set_option maxRecDepth 100000 in
theorem leastFirst_closed : joinedFacts Try.prog 4 Try.f4 Rows.leastFirstSpec Rows.leastFirstRow = true := (andT (andT (andT (andT (andT (andT (andT (andT (andT (andT (andT (andT (andT (andT (andT (andT (andT (andT (andT (andT (andT (andT (andT (andT (andT (andT (andT (andT (andT (andT (andT leastFirst_k0 leastFirst_k1) leastFirst_k2) leastFirst_k3) leastFirst_k4) leastFirst_k5) leastFirst_k6) leastFirst_k7) leastFirst_k8) leastFirst_k9) leastFirst_k10) leastFirst_k11) leastFirst_k12) leastFirst_k13) leastFirst_k14) leastFirst_k15) leastFirst_k16) leastFirst_k17) leastFirst_k18) leastFirst_k19) leastFirst_k20) leastFirst_k21) leastFirst_k22) leastFirst_k23) leastFirst_k24) leastFirst_k25) leastFirst_k26) leastFirst_k27) leastFirst_k28) leastFirst_k29) leastFirst_k30) leastFirst_k31)
theorem leastFirst_named : Try.prog.funcNamed "roundelay/roundelaylaw02.LeastFirst" = some 4 := by kernel_rfl
theorem leastFirst_inst : Try.f4.isInstance Try.prog Rows.leastFirstRow.origin Rows.leastFirstRow.targs := of_decide_eq_true (by kernel_rfl)
theorem leastFirst_wrap : Try.f4.isWrapper Try.prog Rows.leastFirstRow.wrapper Rows.leastFirstRow.mainSum := by unfold Func.isWrapper; first | (rw [if_pos (by decide +kernel)]; kernel_rfl) | (rw [if_neg (by decide +kernel)]; exact ⟨rfl, rfl⟩)
end Go.Proofs.Ytlcjgmehccopkaa
