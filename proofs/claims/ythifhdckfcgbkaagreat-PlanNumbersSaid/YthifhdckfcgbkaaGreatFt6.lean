/-
  The closed facts of the row PlanNumbers, one by one.
-/
import Derived.Test.YthifhdckfcgbkaaGreatRows
import Derived.WalkKit
import Derived.ProofKit
import Derived.OpenShut
import Derived.JoinedOf
namespace Go.Proofs.YthifhdckfcgbkaaGreat
open Go.ChangeShapes Go.WideShapes Go.ChangeAt Go.RowKit
theorem planNumbers_andT {a b : Bool} (h : a = true) (g : b = true) : (a && b) = true := by rw [h, g]; rfl
theorem planNumbers_k0 : (Rows.planNumbersRow.wf (OpenSpec.ofChange Rows.planNumbersSpec)) = true := by kernel_rfl
theorem planNumbers_k1 : (laidOutB Tryz.prog) = true := by kernel_rfl
theorem planNumbers_k2 : (mapsRowed Tryz.prog) = true := by kernel_rfl
theorem planNumbers_k3 : (Tryz.f6.params.all (Tryz.prog.readableRec ·)) = true := by kernel_rfl
theorem planNumbers_k4 : (namedTie Tryz.prog Rows.planNumbersRow.named Rows.planNumbersSpec.vars) = true := by kernel_rfl
theorem planNumbers_k5 : ((Rows.planNumbersRow.stops == [])) = true := by kernel_rfl
theorem planNumbers_k6 : ((Tryz.prog.stops == [])) = true := by kernel_rfl
theorem planNumbers_k7 : ((Rows.planNumbersRow.knobs == [])) = true := by kernel_rfl
theorem planNumbers_k8 : ((Tryz.prog.stopKnobs == [])) = true := by kernel_rfl
theorem planNumbers_k9 : ((Rows.planNumbersRow.inPlace == Tryz.prog.inPlace 6)) = true := by kernel_rfl
theorem planNumbers_k10 : ((Rows.planNumbersRow.unfollowed == Tryz.prog.unfollowed 6)) = true := by kernel_rfl
theorem planNumbers_k11 : ((Rows.planNumbersRow.recurses == Tryz.prog.recurses 6)) = true := by kernel_rfl
theorem planNumbers_k12 : ((Rows.planNumbersRow.named == Tryz.prog.varsNamed 6)) = true := by kernel_rfl
theorem planNumbers_k13 : ((Rows.planNumbersRow.maps == (Tryz.f6.params.toList ++ Rows.planNumbersSpec.plain.varTypes Tryz.prog).any (Tryz.prog.mapsRec ·))) = true := by kernel_rfl
theorem planNumbers_k14 : ((Rows.planNumbersRow.ifaces == (Tryz.f6.params.toList ++ Rows.planNumbersSpec.plain.varTypes Tryz.prog).any (Tryz.prog.ifacesRec ·))) = true := by kernel_rfl
theorem planNumbers_k15 : ((Rows.planNumbersRow.mapsOut == Tryz.prog.mapsAmong Tryz.f6.resultTypes.toList)) = true := by kernel_rfl
theorem planNumbers_k16 : ((Rows.planNumbersRow.loops == (Tryz.f6.params.toList ++ Rows.planNumbersSpec.plain.varTypes Tryz.prog).any (Tryz.prog.loopsFrom ·))) = true := by kernel_rfl
theorem planNumbers_k17 : ((Rows.planNumbersRow.wideKeys == (Tryz.f6.params.toList ++ Rows.planNumbersSpec.plain.varTypes Tryz.prog ++ Tryz.f6.resultTypes.toList).any (Tryz.prog.wideKeysFrom ·))) = true := by kernel_rfl
theorem planNumbers_k18 : (Rows.planNumbersSpec.vars.all (Tryz.prog.varReadable ·)) = true := by kernel_rfl
theorem planNumbers_k19 : (Tryz.f6.resultTypes.all (fun t => Tryz.prog.readableRec t && decide (t < Tryz.prog.types.size))) = true := by kernel_rfl
theorem planNumbers_k20 : ((Rows.planNumbersRow.ifacesOut == Tryz.f6.resultTypes.toList.any (Tryz.prog.ifacesRec ·))) = true := by kernel_rfl
theorem planNumbers_k21 : ((Rows.planNumbersRow.loopsOut == Tryz.f6.resultTypes.toList.any (Tryz.prog.loopsFrom ·))) = true := by kernel_rfl
theorem planNumbers_k22 : ((Rows.planNumbersRow.plainKeys == Tryz.prog.plainKeys)) = true := by kernel_rfl
theorem planNumbers_k23 : (Rows.planNumbersRow.shortTexts.isNone) = true := by kernel_rfl
theorem planNumbers_k24 : (Tryz.prog.stopsHeard) = true := by kernel_rfl
theorem planNumbers_k25 : (Tryz.prog.mayEnter) = true := by kernel_rfl
theorem planNumbers_k26 : ((Rows.planNumbersRow.lifted == Tryz.prog.liftsFinal)) = true := by kernel_rfl
theorem planNumbers_k27 : ((Tryz.prog.make == some Rows.planNumbersRow.make)) = true := by kernel_rfl
theorem planNumbers_k28 : ((Rows.planNumbersRow.kinds == (if Rows.planNumbersRow.domain.isEmpty then [] else Tryz.f6.params.toList.map fun t => match Tryz.prog.underlying t with | some (.int k) => some k | _ => none))) = true := by kernel_rfl
theorem planNumbers_k29 : ((Rows.planNumbersRow.pinned == Rows.planNumbersRow.pinnedBy)) = true := by kernel_rfl
theorem planNumbers_k30 : ((Rows.planNumbersRow.veiled == (Tryz.f6.params.toList ++ Rows.planNumbersSpec.plain.varTypes Tryz.prog ++ Tryz.f6.resultTypes.toList).any (Tryz.prog.veiledRec ·))) = true := by kernel_rfl
theorem planNumbers_k31 : (Rows.planNumbersRow.veiledFits Tryz.prog Tryz.f6.params.toList (Tryz.f6.params.toList ++ Rows.planNumbersSpec.plain.varTypes Tryz.prog ++ Tryz.f6.resultTypes.toList)) = true := by kernel_rfl
set_option maxRecDepth 100000 in
theorem planNumbers_closed : joinedFacts Tryz.prog 6 Tryz.f6 Rows.planNumbersSpec Rows.planNumbersRow = true := (planNumbers_andT (planNumbers_andT (planNumbers_andT (planNumbers_andT (planNumbers_andT (planNumbers_andT (planNumbers_andT (planNumbers_andT (planNumbers_andT (planNumbers_andT (planNumbers_andT (planNumbers_andT (planNumbers_andT (planNumbers_andT (planNumbers_andT (planNumbers_andT (planNumbers_andT (planNumbers_andT (planNumbers_andT (planNumbers_andT (planNumbers_andT (planNumbers_andT (planNumbers_andT (planNumbers_andT (planNumbers_andT (planNumbers_andT (planNumbers_andT (planNumbers_andT (planNumbers_andT (planNumbers_andT (planNumbers_andT planNumbers_k0 planNumbers_k1) planNumbers_k2) planNumbers_k3) planNumbers_k4) planNumbers_k5) planNumbers_k6) planNumbers_k7) planNumbers_k8) planNumbers_k9) planNumbers_k10) planNumbers_k11) planNumbers_k12) planNumbers_k13) planNumbers_k14) planNumbers_k15) planNumbers_k16) planNumbers_k17) planNumbers_k18) planNumbers_k19) planNumbers_k20) planNumbers_k21) planNumbers_k22) planNumbers_k23) planNumbers_k24) planNumbers_k25) planNumbers_k26) planNumbers_k27) planNumbers_k28) planNumbers_k29) planNumbers_k30) planNumbers_k31)
theorem planNumbers_named : Tryz.prog.funcNamed "roundelay/roundelaylaw35.PlanNumbers" = some 6 := by kernel_rfl
theorem planNumbers_inst : Tryz.f6.isInstance Tryz.prog Rows.planNumbersRow.origin Rows.planNumbersRow.targs := of_decide_eq_true (by kernel_rfl)
theorem planNumbers_wrap : Tryz.f6.isWrapper Tryz.prog Rows.planNumbersRow.wrapper Rows.planNumbersRow.mainSum := by unfold Func.isWrapper; first | (rw [if_pos (by decide +kernel)]; kernel_rfl) | (rw [if_neg (by decide +kernel)]; exact ⟨rfl, rfl⟩)
end Go.Proofs.YthifhdckfcgbkaaGreat
