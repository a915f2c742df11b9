/-
  The closed facts of the row PlanDraws, one by one.
-/
import Derived.Test.YthifhdckfcgbkaaGreatRows
import Derived.WalkKit
import Derived.ProofKit
import Derived.OpenShut
import Derived.JoinedOf
namespace Go.Proofs.YthifhdckfcgbkaaGreat
open Go.ChangeShapes Go.WideShapes Go.ChangeAt Go.RowKit
theorem planDraws_andT {a b : Bool} (h : a = true) (g : b = true) : (a && b) = true := by rw [h, g]; rfl
theorem planDraws_k0 : (Rows.planDrawsRow.wf (OpenSpec.ofChange Rows.planDrawsSpec)) = true := by kernel_rfl
theorem planDraws_k1 : (laidOutB Tryz.prog) = true := by kernel_rfl
theorem planDraws_k2 : (mapsRowed Tryz.prog) = true := by kernel_rfl
theorem planDraws_k3 : (Tryz.f5.params.all (Tryz.prog.readableRec ·)) = true := by kernel_rfl
theorem planDraws_k4 : (namedTie Tryz.prog Rows.planDrawsRow.named Rows.planDrawsSpec.vars) = true := by kernel_rfl
theorem planDraws_k5 : ((Rows.planDrawsRow.stops == [])) = true := by kernel_rfl
theorem planDraws_k6 : ((Tryz.prog.stops == [])) = true := by kernel_rfl
theorem planDraws_k7 : ((Rows.planDrawsRow.knobs == [])) = true := by kernel_rfl
theorem planDraws_k8 : ((Tryz.prog.stopKnobs == [])) = true := by kernel_rfl
theorem planDraws_k9 : ((Rows.planDrawsRow.inPlace == Tryz.prog.inPlace 5)) = true := by kernel_rfl
theorem planDraws_k10 : ((Rows.planDrawsRow.unfollowed == Tryz.prog.unfollowed 5)) = true := by kernel_rfl
theorem planDraws_k11 : ((Rows.planDrawsRow.recurses == Tryz.prog.recurses 5)) = true := by kernel_rfl
theorem planDraws_k12 : ((Rows.planDrawsRow.named == Tryz.prog.varsNamed 5)) = true := by kernel_rfl
theorem planDraws_k13 : ((Rows.planDrawsRow.maps == (Tryz.f5.params.toList ++ Rows.planDrawsSpec.plain.varTypes Tryz.prog).any (Tryz.prog.mapsRec ·))) = true := by kernel_rfl
theorem planDraws_k14 : ((Rows.planDrawsRow.ifaces == (Tryz.f5.params.toList ++ Rows.planDrawsSpec.plain.varTypes Tryz.prog).any (Tryz.prog.ifacesRec ·))) = true := by kernel_rfl
theorem planDraws_k15 : ((Rows.planDrawsRow.mapsOut == Tryz.prog.mapsAmong Tryz.f5.resultTypes.toList)) = true := by kernel_rfl
theorem planDraws_k16 : ((Rows.planDrawsRow.loops == (Tryz.f5.params.toList ++ Rows.planDrawsSpec.plain.varTypes Tryz.prog).any (Tryz.prog.loopsFrom ·))) = true := by kernel_rfl
theorem planDraws_k17 : ((Rows.planDrawsRow.wideKeys == (Tryz.f5.params.toList ++ Rows.planDrawsSpec.plain.varTypes Tryz.prog ++ Tryz.f5.resultTypes.toList).any (Tryz.prog.wideKeysFrom ·))) = true := by kernel_rfl
theorem planDraws_k18 : (Rows.planDrawsSpec.vars.all (Tryz.prog.varReadable ·)) = true := by kernel_rfl
theorem planDraws_k19 : (Tryz.f5.resultTypes.all (fun t => Tryz.prog.readableRec t && decide (t < Tryz.prog.types.size))) = true := by kernel_rfl
theorem planDraws_k20 : ((Rows.planDrawsRow.ifacesOut == Tryz.f5.resultTypes.toList.any (Tryz.prog.ifacesRec ·))) = true := by kernel_rfl
theorem planDraws_k21 : ((Rows.planDrawsRow.loopsOut == Tryz.f5.resultTypes.toList.any (Tryz.prog.loopsFrom ·))) = true := by kernel_rfl
theorem planDraws_k22 : ((Rows.planDrawsRow.plainKeys == Tryz.prog.plainKeys)) = true := by kernel_rfl
theorem planDraws_k23 : (Rows.planDrawsRow.shortTexts.isNone) = true := by kernel_rfl
theorem planDraws_k24 : (Tryz.prog.stopsHeard) = true := by kernel_rfl
theorem planDraws_k25 : (Tryz.prog.mayEnter) = true := by kernel_rfl
theorem planDraws_k26 : ((Rows.planDrawsRow.lifted == Tryz.prog.liftsFinal)) = true := by kernel_rfl
theorem planDraws_k27 : ((Tryz.prog.make == some Rows.planDrawsRow.make)) = true := by kernel_rfl
theorem planDraws_k28 : ((Rows.planDrawsRow.kinds == (if Rows.planDrawsRow.domain.isEmpty then [] else Tryz.f5.params.toList.map fun t => match Tryz.prog.underlying t with | some (.int k) => some k | _ => none))) = true := by kernel_rfl
theorem planDraws_k29 : ((Rows.planDrawsRow.pinned == Rows.planDrawsRow.pinnedBy)) = true := by kernel_rfl
theorem planDraws_k30 : ((Rows.planDrawsRow.veiled == (Tryz.f5.params.toList ++ Rows.planDrawsSpec.plain.varTypes Tryz.prog ++ Tryz.f5.resultTypes.toList).any (Tryz.prog.veiledRec ·))) = true := by kernel_rfl
theorem planDraws_k31 : (Rows.planDrawsRow.veiledFits Tryz.prog Tryz.f5.params.toList (Tryz.f5.params.toList ++ Rows.planDrawsSpec.plain.varTypes Tryz.prog ++ Tryz.f5.resultTypes.toList)) = true := by kernel_rfl
set_option maxRecDepth 100000 in
theorem planDraws_closed : joinedFacts Tryz.prog 5 Tryz.f5 Rows.planDrawsSpec Rows.planDrawsRow = true := (planDraws_andT (planDraws_andT (planDraws_andT (planDraws_andT (planDraws_andT (planDraws_andT (planDraws_andT (planDraws_andT (planDraws_andT (planDraws_andT (planDraws_andT (planDraws_andT (planDraws_andT (planDraws_andT (planDraws_andT (planDraws_andT (planDraws_andT (planDraws_andT (planDraws_andT (planDraws_andT (planDraws_andT (planDraws_andT (planDraws_andT (planDraws_andT (planDraws_andT (planDraws_andT (planDraws_andT (planDraws_andT (planDraws_andT (planDraws_andT (planDraws_andT planDraws_k0 planDraws_k1) planDraws_k2) planDraws_k3) planDraws_k4) planDraws_k5) planDraws_k6) planDraws_k7) planDraws_k8) planDraws_k9) planDraws_k10) planDraws_k11) planDraws_k12) planDraws_k13) planDraws_k14) planDraws_k15) planDraws_k16) planDraws_k17) planDraws_k18) planDraws_k19) planDraws_k20) planDraws_k21) planDraws_k22) planDraws_k23) planDraws_k24) planDraws_k25) planDraws_k26) planDraws_k27) planDraws_k28) planDraws_k29) planDraws_k30) planDraws_k31)
theorem planDraws_named : Tryz.prog.funcNamed "roundelay/roundelaylaw35.PlanDraws" = some 5 := by kernel_rfl
theorem planDraws_inst : Tryz.f5.isInstance Tryz.prog Rows.planDrawsRow.origin Rows.planDrawsRow.targs := of_decide_eq_true (by kernel_rfl)
theorem planDraws_wrap : Tryz.f5.isWrapper Tryz.prog Rows.planDrawsRow.wrapper Rows.planDrawsRow.mainSum := by unfold Func.isWrapper; first | (rw [if_pos (by decide +kernel)]; kernel_rfl) | (rw [if_neg (by decide +kernel)]; exact ⟨rfl, rfl⟩)
end Go.Proofs.YthifhdckfcgbkaaGreat
