/-
  The closed facts of the row LeastPlays, one by one.
-/
import Derived.Test.YtlcjgmehccopkaaRows
import Derived.WalkKit
import Derived.ProofKit
import Derived.OpenShut
import Derived.JoinedOf
namespace Go.Proofs.Ytlcjgmehccopkaa
open Go.ChangeShapes Go.WideShapes Go.ChangeAt Go.RowKit
theorem andT {a b : Bool} (h : a = true) (g : b = true) : (a && b) = true := by rw [h, g]; rfl
theorem leastPlays_k0 : (Rows.leastPlaysRow.wf (OpenSpec.ofChange Rows.leastPlaysSpec)) = true := by kernel_rfl
theorem leastPlays_k1 : (laidOutB Try.prog) = true := by kernel_rfl
theorem leastPlays_k2 : (mapsRowed Try.prog) = true := by kernel_rfl
theorem leastPlays_k3 : (Try.f5.params.all (Try.prog.readableRec ·)) = true := by kernel_rfl
theorem leastPlays_k4 : (namedTie Try.prog Rows.leastPlaysRow.named Rows.leastPlaysSpec.vars) = true := by kernel_rfl
theorem leastPlays_k5 : ((Rows.leastPlaysRow.stops == [])) = true := by kernel_rfl
theorem leastPlays_k6 : ((Try.prog.stops == [])) = true := by kernel_rfl
theorem leastPlays_k7 : ((Rows.leastPlaysRow.knobs == [])) = true := by kernel_rfl
theorem leastPlays_k8 : ((Try.prog.stopKnobs == [])) = true := by kernel_rfl
theorem leastPlays_k9 : ((Rows.leastPlaysRow.inPlace == Try.prog.inPlace 5)) = true := by kernel_rfl
theorem leastPlays_k10 : ((Rows.leastPlaysRow.unfollowed == Try.prog.unfollowed 5)) = true := by kernel_rfl
theorem leastPlays_k11 : ((Rows.leastPlaysRow.recurses == Try.prog.recurses 5)) = true := by kernel_rfl
theorem leastPlays_k12 : ((Rows.leastPlaysRow.named == Try.prog.varsNamed 5)) = true := by kernel_rfl
theorem leastPlays_k13 : ((Rows.leastPlaysRow.maps == (Try.f5.params.toList ++ Rows.leastPlaysSpec.plain.varTypes Try.prog).any (Try.prog.mapsRec ·))) = true := by kernel_rfl
theorem leastPlays_k14 : ((Rows.leastPlaysRow.ifaces == (Try.f5.params.toList ++ Rows.leastPlaysSpec.plain.varTypes Try.prog).any (Try.prog.ifacesRec ·))) = true := by kernel_rfl
theorem leastPlays_k15 : ((Rows.leastPlaysRow.mapsOut == Try.prog.mapsAmong Try.f5.resultTypes.toList)) = true := by kernel_rfl
theorem leastPlays_k16 : ((Rows.leastPlaysRow.loops == (Try.f5.params.toList ++ Rows.leastPlaysSpec.plain.varTypes Try.prog).any (Try.prog.loopsFrom ·))) = true := by kernel_rfl
theorem leastPlays_k17 : ((Rows.leastPlaysRow.wideKeys == (Try.f5.params.toList ++ Rows.leastPlaysSpec.plain.varTypes Try.prog ++ Try.f5.resultTypes.toList).any (Try.prog.wideKeysFrom ·))) = true := by kernel_rfl
theorem leastPlays_k18 : (Rows.leastPlaysSpec.vars.all (Try.prog.varReadable ·)) = true := by kernel_rfl
theorem leastPlays_k19 : (Try.f5.resultTypes.all (fun t => Try.prog.readableRec t && decide (t < Try.prog.types.size))) = true := by kernel_rfl
theorem leastPlays_k20 : ((Rows.leastPlaysRow.ifacesOut == Try.f5.resultTypes.toList.any (Try.prog.ifacesRec ·))) = true := by kernel_rfl
theorem leastPlays_k21 : ((Rows.leastPlaysRow.loopsOut == Try.f5.resultTypes.toList.any (Try.prog.loopsFrom ·))) = true := by kernel_rfl
theorem leastPlays_k22 : ((Rows.leastPlaysRow.plainKeys == Try.prog.plainKeys)) = true := by kernel_rfl
theorem leastPlays_k23 : (Rows.leastPlaysRow.shortTexts.isNone) = true := by kernel_rfl
theorem leastPlays_k24 : (Try.prog.stopsHeard) = true := by kernel_rfl
theorem leastPlays_k25 : (Try.prog.mayEnter) = true := by kernel_rfl
theorem leastPlays_k26 : ((Rows.leastPlaysRow.lifted == Try.prog.liftsFinal)) = true := by kernel_rfl
theorem leastPlays_k27 : ((Try.prog.make == some Rows.leastPlaysRow.make)) = true := by kernel_rfl
theorem leastPlays_k28 : ((Rows.leastPlaysRow.kinds == (if Rows.leastPlaysRow.domain.isEmpty then [] else Try.f5.params.toList.map fun t => match Try.prog.underlying t with | some (.int k) => some k | _ => none))) = true := by kernel_rfl
theorem leastPlays_k29 : ((Rows.leastPlaysRow.pinned == Rows.leastPlaysRow.pinnedBy)) = true := by kernel_rfl
theorem leastPlays_k30 : ((Rows.leastPlaysRow.veiled == (Try.f5.params.toList ++ Rows.leastPlaysSpec.plain.varTypes Try.prog ++ Try.f5.resultTypes.toList).any (Try.prog.veiledRec ·))) = true := by kernel_rfl
theorem leastPlays_k31 : (Rows.leastPlaysRow.veiledFits Try.prog Try.f5.params.toList (Try.f5.params.toList ++ Rows.leastPlaysSpec.plain.varTypes Try.prog ++ Try.f5.resultTypes.toList)) = true := by kernel_rfl
set_option maxRecDepth 100000 in
theorem leastPlays_closed : joinedFacts Try.prog 5 Try.f5 Rows.leastPlaysSpec Rows.leastPlaysRow = true := (andT (andT (andT (andT (andT (andT (andT (andT (andT (andT (andT (andT (andT (andT (andT (andT (andT (andT (andT (andT (andT (andT (andT (andT (andT (andT (andT (andT (andT (andT (andT leastPlays_k0 leastPlays_k1) leastPlays_k2) leastPlays_k3) leastPlays_k4) leastPlays_k5) leastPlays_k6) leastPlays_k7) leastPlays_k8) leastPlays_k9) leastPlays_k10) leastPlays_k11) leastPlays_k12) leastPlays_k13) leastPlays_k14) leastPlays_k15) leastPlays_k16) leastPlays_k17) leastPlays_k18) leastPlays_k19) leastPlays_k20) leastPlays_k21) leastPlays_k22) leastPlays_k23) leastPlays_k24) leastPlays_k25) leastPlays_k26) leastPlays_k27) leastPlays_k28) leastPlays_k29) leastPlays_k30) leastPlays_k31)
theorem leastPlays_named : Try.prog.funcNamed "roundelay/roundelaylaw02.LeastPlays" = some 5 := by kernel_rfl
theorem leastPlays_inst : Try.f5.isInstance Try.prog Rows.leastPlaysRow.origin Rows.leastPlaysRow.targs := of_decide_eq_true (by kernel_rfl)
theorem leastPlays_wrap : Try.f5.isWrapper Try.prog Rows.leastPlaysRow.wrapper Rows.leastPlaysRow.mainSum := by unfold Func.isWrapper; first | (rw [if_pos (by decide +kernel)]; kernel_rfl) | (rw [if_neg (by decide +kernel)]; exact ⟨rfl, rfl⟩)
end Go.Proofs.Ytlcjgmehccopkaa
