/-
  The closed facts of the row BoundTells, one by one.
-/
import Derived.Test.YthifhdckfcgbkaaGreatRows
import Derived.WalkKit
import Derived.ProofKit
import Derived.OpenShut
import Derived.JoinedOf
namespace Go.Proofs.YthifhdckfcgbkaaGreat
open Go.ChangeShapes Go.WideShapes Go.ChangeAt Go.RowKit
theorem boundTells_andT {a b : Bool} (h : a = true) (g : b = true) : (a && b) = true := by rw [h, g]; rfl
theorem boundTells_k0 : (Rows.boundTellsRow.wf (OpenSpec.ofChange Rows.boundTellsSpec)) = true := by kernel_rfl
theorem boundTells_k1 : (laidOutB Tryz.prog) = true := by kernel_rfl
theorem boundTells_k2 : (mapsRowed Tryz.prog) = true := by kernel_rfl
theorem boundTells_k3 : (Tryz.f3.params.all (Tryz.prog.readableRec ·)) = true := by kernel_rfl
theorem boundTells_k4 : (namedTie Tryz.prog Rows.boundTellsRow.named Rows.boundTellsSpec.vars) = true := by kernel_rfl
theorem boundTells_k5 : ((Rows.boundTellsRow.stops == [])) = true := by kernel_rfl
theorem boundTells_k6 : ((Tryz.prog.stops == [])) = true := by kernel_rfl
theorem boundTells_k7 : ((Rows.boundTellsRow.knobs == [])) = true := by kernel_rfl
theorem boundTells_k8 : ((Tryz.prog.stopKnobs == [])) = true := by kernel_rfl
theorem boundTells_k9 : ((Rows.boundTellsRow.inPlace == Tryz.prog.inPlace 3)) = true := by kernel_rfl
theorem boundTells_k10 : ((Rows.boundTellsRow.unfollowed == Tryz.prog.unfollowed 3)) = true := by kernel_rfl
theorem boundTells_k11 : ((Rows.boundTellsRow.recurses == Tryz.prog.recurses 3)) = true := by kernel_rfl
theorem boundTells_k12 : ((Rows.boundTellsRow.named == Tryz.prog.varsNamed 3)) = true := by kernel_rfl
theorem boundTells_k13 : ((Rows.boundTellsRow.maps == (Tryz.f3.params.toList ++ Rows.boundTellsSpec.plain.varTypes Tryz.prog).any (Tryz.prog.mapsRec ·))) = true := by kernel_rfl
theorem boundTells_k14 : ((Rows.boundTellsRow.ifaces == (Tryz.f3.params.toList ++ Rows.boundTellsSpec.plain.varTypes Tryz.prog).any (Tryz.prog.ifacesRec ·))) = true := by kernel_rfl
theorem boundTells_k15 : ((Rows.boundTellsRow.mapsOut == Tryz.prog.mapsAmong Tryz.f3.resultTypes.toList)) = true := by kernel_rfl
theorem boundTells_k16 : ((Rows.boundTellsRow.loops == (Tryz.f3.params.toList ++ Rows.boundTellsSpec.plain.varTypes Tryz.prog).any (Tryz.prog.loopsFrom ·))) = true := by kernel_rfl
theorem boundTells_k17 : ((Rows.boundTellsRow.wideKeys == (Tryz.f3.params.toList ++ Rows.boundTellsSpec.plain.varTypes Tryz.prog ++ Tryz.f3.resultTypes.toList).any (Tryz.prog.wideKeysFrom ·))) = true := by kernel_rfl
theorem boundTells_k18 : (Rows.boundTellsSpec.vars.all (Tryz.prog.varReadable ·)) = true := by kernel_rfl
theorem boundTells_k19 : (Tryz.f3.resultTypes.all (fun t => Tryz.prog.readableRec t && decide (t < Tryz.prog.types.size))) = true := by kernel_rfl
theorem boundTells_k20 : ((Rows.boundTellsRow.ifacesOut == Tryz.f3.resultTypes.toList.any (Tryz.prog.ifacesRec ·))) = true := by kernel_rfl
theorem boundTells_k21 : ((Rows.boundTellsRow.loopsOut == Tryz.f3.resultTypes.toList.any (Tryz.prog.loopsFrom ·))) = true := by kernel_rfl
theorem boundTells_k22 : ((Rows.boundTellsRow.plainKeys == Tryz.prog.plainKeys)) = true := by kernel_rfl
theorem boundTells_k23 : (Rows.boundTellsRow.shortTexts.isNone) = true := by kernel_rfl
theorem boundTells_k24 : (Tryz.prog.stopsHeard) = true := by kernel_rfl
theorem boundTells_k25 : (Tryz.prog.mayEnter) = true := by kernel_rfl
theorem boundTells_k26 : ((Rows.boundTellsRow.lifted == Tryz.prog.liftsFinal)) = true := by kernel_rfl
theorem boundTells_k27 : ((Tryz.prog.make == some Rows.boundTellsRow.make)) = true := by kernel_rfl
theorem boundTells_k28 : ((Rows.boundTellsRow.kinds == (if Rows.boundTellsRow.domain.isEmpty then [] else Tryz.f3.params.toList.map fun t => match Tryz.prog.underlying t with | some (.int k) => some k | _ => none))) = true := by kernel_rfl
theorem boundTells_k29 : ((Rows.boundTellsRow.pinned == Rows.boundTellsRow.pinnedBy)) = true := by kernel_rfl
theorem boundTells_k30 : ((Rows.boundTellsRow.veiled == (Tryz.f3.params.toList ++ Rows.boundTellsSpec.plain.varTypes Tryz.prog ++ Tryz.f3.resultTypes.toList).any (Tryz.prog.veiledRec ·))) = true := by kernel_rfl
theorem boundTells_k31 : (Rows.boundTellsRow.veiledFits Tryz.prog Tryz.f3.params.toList (Tryz.f3.params.toList ++ Rows.boundTellsSpec.plain.varTypes Tryz.prog ++ Tryz.f3.resultTypes.toList)) = true := by kernel_rfl
set_option maxRecDepth 100000 in
theorem boundTells_closed : joinedFacts Tryz.prog 3 Tryz.f3 Rows.boundTellsSpec Rows.boundTellsRow = true := (boundTells_andT (boundTells_andT (boundTells_andT (boundTells_andT (boundTells_andT (boundTells_andT (boundTells_andT (boundTells_andT (boundTells_andT (boundTells_andT (boundTells_andT (boundTells_andT (boundTells_andT (boundTells_andT (boundTells_andT (boundTells_andT (boundTells_andT (boundTells_andT (boundTells_andT (boundTells_andT (boundTells_andT (boundTells_andT (boundTells_andT (boundTells_andT (boundTells_andT (boundTells_andT (boundTells_andT (boundTells_andT (boundTells_andT (boundTells_andT (boundTells_andT boundTells_k0 boundTells_k1) boundTells_k2) boundTells_k3) boundTells_k4) boundTells_k5) boundTells_k6) boundTells_k7) boundTells_k8) boundTells_k9) boundTells_k10) boundTells_k11) boundTells_k12) boundTells_k13) boundTells_k14) boundTells_k15) boundTells_k16) boundTells_k17) boundTells_k18) boundTells_k19) boundTells_k20) boundTells_k21) boundTells_k22) boundTells_k23) boundTells_k24) boundTells_k25) boundTells_k26) boundTells_k27) boundTells_k28) boundTells_k29) boundTells_k30) boundTells_k31)
theorem boundTells_named : Tryz.prog.funcNamed "roundelay/roundelaylaw29.BoundTells" = some 3 := by kernel_rfl
theorem boundTells_inst : Tryz.f3.isInstance Tryz.prog Rows.boundTellsRow.origin Rows.boundTellsRow.targs := of_decide_eq_true (by kernel_rfl)
theorem boundTells_wrap : Tryz.f3.isWrapper Tryz.prog Rows.boundTellsRow.wrapper Rows.boundTellsRow.mainSum := by unfold Func.isWrapper; first | (rw [if_pos (by decide +kernel)]; kernel_rfl) | (rw [if_neg (by decide +kernel)]; exact ⟨rfl, rfl⟩)
end Go.Proofs.YthifhdckfcgbkaaGreat
