/-
  The closed facts of the row ScriptEncodes, one by one.
-/
import Derived.Test.YthifhdckfcgbkaaGreatRows
import Derived.WalkKit
import Derived.ProofKit
import Derived.OpenShut
import Derived.JoinedOf
namespace Go.Proofs.YthifhdckfcgbkaaGreat
open Go.ChangeShapes Go.WideShapes Go.ChangeAt Go.RowKit
theorem scriptEncodes_andT {a b : Bool} (h : a = true) (g : b = true) : (a && b) = true := by rw [h, g]; rfl
theorem scriptEncodes_k0 : (Rows.scriptEncodesRow.wf (OpenSpec.ofChange Rows.scriptEncodesSpec)) = true := by kernel_rfl
theorem scriptEncodes_k1 : (laidOutB Tryz.prog) = true := by kernel_rfl
theorem scriptEncodes_k2 : (mapsRowed Tryz.prog) = true := by kernel_rfl
theorem scriptEncodes_k3 : (Tryz.f8.params.all (Tryz.prog.readableRec ·)) = true := by kernel_rfl
theorem scriptEncodes_k4 : (namedTie Tryz.prog Rows.scriptEncodesRow.named Rows.scriptEncodesSpec.vars) = true := by kernel_rfl
theorem scriptEncodes_k5 : ((Rows.scriptEncodesRow.stops == [])) = true := by kernel_rfl
theorem scriptEncodes_k6 : ((Tryz.prog.stops == [])) = true := by kernel_rfl
theorem scriptEncodes_k7 : ((Rows.scriptEncodesRow.knobs == [])) = true := by kernel_rfl
theorem scriptEncodes_k8 : ((Tryz.prog.stopKnobs == [])) = true := by kernel_rfl
theorem scriptEncodes_k9 : ((Rows.scriptEncodesRow.inPlace == Tryz.prog.inPlace 8)) = true := by kernel_rfl
theorem scriptEncodes_k10 : ((Rows.scriptEncodesRow.unfollowed == Tryz.prog.unfollowed 8)) = true := by kernel_rfl
theorem scriptEncodes_k11 : ((Rows.scriptEncodesRow.recurses == Tryz.prog.recurses 8)) = true := by kernel_rfl
theorem scriptEncodes_k12 : ((Rows.scriptEncodesRow.named == Tryz.prog.varsNamed 8)) = true := by kernel_rfl
theorem scriptEncodes_k13 : ((Rows.scriptEncodesRow.maps == (Tryz.f8.params.toList ++ Rows.scriptEncodesSpec.plain.varTypes Tryz.prog).any (Tryz.prog.mapsRec ·))) = true := by kernel_rfl
theorem scriptEncodes_k14 : ((Rows.scriptEncodesRow.ifaces == (Tryz.f8.params.toList ++ Rows.scriptEncodesSpec.plain.varTypes Tryz.prog).any (Tryz.prog.ifacesRec ·))) = true := by kernel_rfl
theorem scriptEncodes_k15 : ((Rows.scriptEncodesRow.mapsOut == Tryz.prog.mapsAmong Tryz.f8.resultTypes.toList)) = true := by kernel_rfl
theorem scriptEncodes_k16 : ((Rows.scriptEncodesRow.loops == (Tryz.f8.params.toList ++ Rows.scriptEncodesSpec.plain.varTypes Tryz.prog).any (Tryz.prog.loopsFrom ·))) = true := by kernel_rfl
theorem scriptEncodes_k17 : ((Rows.scriptEncodesRow.wideKeys == (Tryz.f8.params.toList ++ Rows.scriptEncodesSpec.plain.varTypes Tryz.prog ++ Tryz.f8.resultTypes.toList).any (Tryz.prog.wideKeysFrom ·))) = true := by kernel_rfl
theorem scriptEncodes_k18 : (Rows.scriptEncodesSpec.vars.all (Tryz.prog.varReadable ·)) = true := by kernel_rfl
theorem scriptEncodes_k19 : (Tryz.f8.resultTypes.all (fun t => Tryz.prog.readableRec t && decide (t < Tryz.prog.types.size))) = true := by kernel_rfl
theorem scriptEncodes_k20 : ((Rows.scriptEncodesRow.ifacesOut == Tryz.f8.resultTypes.toList.any (Tryz.prog.ifacesRec ·))) = true := by kernel_rfl
theorem scriptEncodes_k21 : ((Rows.scriptEncodesRow.loopsOut == Tryz.f8.resultTypes.toList.any (Tryz.prog.loopsFrom ·))) = true := by kernel_rfl
theorem scriptEncodes_k22 : ((Rows.scriptEncodesRow.plainKeys == Tryz.prog.plainKeys)) = true := by kernel_rfl
theorem scriptEncodes_k23 : (Rows.scriptEncodesRow.shortTexts.isNone) = true := by kernel_rfl
theorem scriptEncodes_k24 : (Tryz.prog.stopsHeard) = true := by kernel_rfl
theorem scriptEncodes_k25 : (Tryz.prog.mayEnter) = true := by kernel_rfl
theorem scriptEncodes_k26 : ((Rows.scriptEncodesRow.lifted == Tryz.prog.liftsFinal)) = true := by kernel_rfl
theorem scriptEncodes_k27 : ((Tryz.prog.make == some Rows.scriptEncodesRow.make)) = true := by kernel_rfl
theorem scriptEncodes_k28 : ((Rows.scriptEncodesRow.kinds == (if Rows.scriptEncodesRow.domain.isEmpty then [] else Tryz.f8.params.toList.map fun t => match Tryz.prog.underlying t with | some (.int k) => some k | _ => none))) = true := by kernel_rfl
theorem scriptEncodes_k29 : ((Rows.scriptEncodesRow.pinned == Rows.scriptEncodesRow.pinnedBy)) = true := by kernel_rfl
theorem scriptEncodes_k30 : ((Rows.scriptEncodesRow.veiled == (Tryz.f8.params.toList ++ Rows.scriptEncodesSpec.plain.varTypes Tryz.prog ++ Tryz.f8.resultTypes.toList).any (Tryz.prog.veiledRec ·))) = true := by kernel_rfl
theorem scriptEncodes_k31 : (Rows.scriptEncodesRow.veiledFits Tryz.prog Tryz.f8.params.toList (Tryz.f8.params.toList ++ Rows.scriptEncodesSpec.plain.varTypes Tryz.prog ++ Tryz.f8.resultTypes.toList)) = true := by kernel_rfl
set_option maxRecDepth 100000 in
theorem scriptEncodes_closed : joinedFacts Tryz.prog 8 Tryz.f8 Rows.scriptEncodesSpec Rows.scriptEncodesRow = true := (scriptEncodes_andT (scriptEncodes_andT (scriptEncodes_andT (scriptEncodes_andT (scriptEncodes_andT (scriptEncodes_andT (scriptEncodes_andT (scriptEncodes_andT (scriptEncodes_andT (scriptEncodes_andT (scriptEncodes_andT (scriptEncodes_andT (scriptEncodes_andT (scriptEncodes_andT (scriptEncodes_andT (scriptEncodes_andT (scriptEncodes_andT (scriptEncodes_andT (scriptEncodes_andT (scriptEncodes_andT (scriptEncodes_andT (scriptEncodes_andT (scriptEncodes_andT (scriptEncodes_andT (scriptEncodes_andT (scriptEncodes_andT (scriptEncodes_andT (scriptEncodes_andT (scriptEncodes_andT (scriptEncodes_andT (scriptEncodes_andT scriptEncodes_k0 scriptEncodes_k1) scriptEncodes_k2) scriptEncodes_k3) scriptEncodes_k4) scriptEncodes_k5) scriptEncodes_k6) scriptEncodes_k7) scriptEncodes_k8) scriptEncodes_k9) scriptEncodes_k10) scriptEncodes_k11) scriptEncodes_k12) scriptEncodes_k13) scriptEncodes_k14) scriptEncodes_k15) scriptEncodes_k16) scriptEncodes_k17) scriptEncodes_k18) scriptEncodes_k19) scriptEncodes_k20) scriptEncodes_k21) scriptEncodes_k22) scriptEncodes_k23) scriptEncodes_k24) scriptEncodes_k25) scriptEncodes_k26) scriptEncodes_k27) scriptEncodes_k28) scriptEncodes_k29) scriptEncodes_k30) scriptEncodes_k31)
theorem scriptEncodes_named : Tryz.prog.funcNamed "roundelay/roundelaylaw26.ScriptEncodes" = some 8 := by kernel_rfl
theorem scriptEncodes_inst : Tryz.f8.isInstance Tryz.prog Rows.scriptEncodesRow.origin Rows.scriptEncodesRow.targs := of_decide_eq_true (by kernel_rfl)
theorem scriptEncodes_wrap : Tryz.f8.isWrapper Tryz.prog Rows.scriptEncodesRow.wrapper Rows.scriptEncodesRow.mainSum := by unfold Func.isWrapper; first | (rw [if_pos (by decide +kernel)]; kernel_rfl) | (rw [if_neg (by decide +kernel)]; exact ⟨rfl, rfl⟩)
end Go.Proofs.YthifhdckfcgbkaaGreat
