/-
  The closed facts of the row LeastHolds, one by one.
-/
import Derived.Test.YtlcjgmehccopkaaRows
import Derived.WalkKit
import Derived.ProofKit
import Derived.OpenShut
import Derived.JoinedOf
namespace Go.Proofs.Ytlcjgmehccopkaa
open Go.ChangeShapes Go.WideShapes Go.ChangeAt Go.RowKit
theorem andT {a b : Bool} (h : a = true) (g : b = true) : (a && b) = true := by rw [h, g]; rfl
theorem leastHolds_k0 : (Rows.leastHoldsRow.wf (OpenSpec.ofChange Rows.leastHoldsSpec)) = true := by kernel_rfl
theorem leastHolds_k1 : (laidOutB Try.prog) = true := by kernel_rfl
theorem leastHolds_k2 : (mapsRowed Try.prog) = true := by kernel_rfl
theorem leastHolds_k3 : (Try.f3.params.all (Try.prog.readableRec ·)) = true := by kernel_rfl
theorem leastHolds_k4 : (namedTie Try.prog Rows.leastHoldsRow.named Rows.leastHoldsSpec.vars) = true := by kernel_rfl
theorem leastHolds_k5 : ((Rows.leastHoldsRow.stops == [])) = true := by kernel_rfl
theorem leastHolds_k6 : ((Try.prog.stops == [])) = true := by kernel_rfl
theorem leastHolds_k7 : ((Rows.leastHoldsRow.knobs == [])) = true := by kernel_rfl
theorem leastHolds_k8 : ((Try.prog.stopKnobs == [])) = true := by kernel_rfl
theorem leastHolds_k9 : ((Rows.leastHoldsRow.inPlace == Try.prog.inPlace 3)) = true := by kernel_rfl
theorem leastHolds_k10 : ((Rows.leastHoldsRow.unfollowed == Try.prog.unfollowed 3)) = true := by kernel_rfl
theorem leastHolds_k11 : ((Rows.leastHoldsRow.recurses == Try.prog.recurses 3)) = true := by kernel_rfl
theorem leastHolds_k12 : ((Rows.leastHoldsRow.named == Try.prog.varsNamed 3)) = true := by kernel_rfl
theorem leastHolds_k13 : ((Rows.leastHoldsRow.maps == (Try.f3.params.toList ++ Rows.leastHoldsSpec.plain.varTypes Try.prog).any (Try.prog.mapsRec ·))) = true := by kernel_rfl
theorem leastHolds_k14 : ((Rows.leastHoldsRow.ifaces == (Try.f3.params.toList ++ Rows.leastHoldsSpec.plain.varTypes Try.prog).any (Try.prog.ifacesRec ·))) = true := by kernel_rfl
theorem leastHolds_k15 : ((Rows.leastHoldsRow.mapsOut == Try.prog.mapsAmong Try.f3.resultTypes.toList)) = true := by kernel_rfl
theorem leastHolds_k16 : ((Rows.leastHoldsRow.loops == (Try.f3.params.toList ++ Rows.leastHoldsSpec.plain.varTypes Try.prog).any (Try.prog.loopsFrom ·))) = true := by kernel_rfl
theorem leastHolds_k17 : ((Rows.leastHoldsRow.wideKeys == (Try.f3.params.toList ++ Rows.leastHoldsSpec.plain.varTypes Try.prog ++ Try.f3.resultTypes.toList).any (Try.prog.wideKeysFrom ·))) = true := by kernel_rfl
theorem leastHolds_k18 : (Rows.leastHoldsSpec.vars.all (Try.prog.varReadable ·)) = true := by kernel_rfl
theorem leastHolds_k19 : (Try.f3.resultTypes.all (fun t => Try.prog.readableRec t && decide (t < Try.prog.types.size))) = true := by kernel_rfl
theorem leastHolds_k20 : ((Rows.leastHoldsRow.ifacesOut == Try.f3.resultTypes.toList.any (Try.prog.ifacesRec ·))) = true := by kernel_rfl
theorem leastHolds_k21 : ((Rows.leastHoldsRow.loopsOut == Try.f3.resultTypes.toList.any (Try.prog.loopsFrom ·))) = true := by kernel_rfl
theorem leastHolds_k22 : ((Rows.leastHoldsRow.plainKeys == Try.prog.plainKeys)) = true := by kernel_rfl
theorem leastHolds_k23 : (Rows.leastHoldsRow.shortTexts.isNone) = true := by kernel_rfl
theorem leastHolds_k24 : (Try.prog.stopsHeard) = true := by kernel_rfl
theorem leastHolds_k25 : (Try.prog.mayEnter) = true := by kernel_rfl
theorem leastHolds_k26 : ((Rows.leastHoldsRow.lifted == Try.prog.liftsFinal)) = true := by kernel_rfl
theorem leastHolds_k27 : ((Try.prog.make == some Rows.leastHoldsRow.make)) = true := by kernel_rfl
theorem leastHolds_k28 : ((Rows.leastHoldsRow.kinds == (if Rows.leastHoldsRow.domain.isEmpty then [] else Try.f3.params.toList.map fun t => match Try.prog.underlying t with | some (.int k) => some k | _ => none))) = true := by kernel_rfl
theorem leastHolds_k29 : ((Rows.leastHoldsRow.pinned == Rows.leastHoldsRow.pinnedBy)) = true := by kernel_rfl
theorem leastHolds_k30 : ((Rows.leastHoldsRow.veiled == (Try.f3.params.toList ++ Rows.leastHoldsSpec.plain.varTypes Try.prog ++ Try.f3.resultTypes.toList).any (Try.prog.veiledRec ·))) = true := by kernel_rfl
theorem leastHolds_k31 : (Rows.leastHoldsRow.veiledFits Try.prog Try.f3.params.toList (Try.f3.params.toList ++ Rows.leastHoldsSpec.plain.varTypes Try.prog ++ Try.f3.resultTypes.toList)) = true := by kernel_rfl
set_option maxRecDepth 100000 in
theorem leastHolds_closed : joinedFacts Try.prog 3 Try.f3 Rows.leastHoldsSpec Rows.leastHoldsRow = true := (andT (andT (andT (andT (andT (andT (andT (andT (andT (andT (andT (andT (andT (andT (andT (andT (andT (andT (andT (andT (andT (andT (andT (andT (andT (andT (andT (andT (andT (andT (andT leastHolds_k0 leastHolds_k1) leastHolds_k2) leastHolds_k3) leastHolds_k4) leastHolds_k5) leastHolds_k6) leastHolds_k7) leastHolds_k8) leastHolds_k9) leastHolds_k10) leastHolds_k11) leastHolds_k12) leastHolds_k13) leastHolds_k14) leastHolds_k15) leastHolds_k16) leastHolds_k17) leastHolds_k18) leastHolds_k19) leastHolds_k20) leastHolds_k21) leastHolds_k22) leastHolds_k23) leastHolds_k24) leastHolds_k25) leastHolds_k26) leastHolds_k27) leastHolds_k28) leastHolds_k29) leastHolds_k30) leastHolds_k31)
theorem leastHolds_named : Try.prog.funcNamed "roundelay/roundelaylaw02.LeastHolds" = some 3 := by kernel_rfl
theorem leastHolds_inst : Try.f3.isInstance Try.prog Rows.leastHoldsRow.origin Rows.leastHoldsRow.targs := of_decide_eq_true (by kernel_rfl)
theorem leastHolds_wrap : Try.f3.isWrapper Try.prog Rows.leastHoldsRow.wrapper Rows.leastHoldsRow.mainSum := by unfold Func.isWrapper; first | (rw [if_pos (by decide +kernel)]; kernel_rfl) | (rw [if_neg (by decide +kernel)]; exact ⟨rfl, rfl⟩)
end Go.Proofs.Ytlcjgmehccopkaa
