/-
  The closed facts of the row ScriptDecodes, one by one.
-/
import Derived.Test.YthifhdckfcgbkaaGreatRows
import Derived.WalkKit
import Derived.ProofKit
import Derived.OpenShut
import Derived.JoinedOf
namespace Go.Proofs.YthifhdckfcgbkaaGreat
open Go.ChangeShapes Go.WideShapes Go.ChangeAt Go.RowKit
theorem scriptDecodes_andT {a b : Bool} (h : a = true) (g : b = true) : (a && b) = true := by rw [h, g]; rfl
theorem scriptDecodes_k0 : (Rows.scriptDecodesRow.wf (OpenSpec.ofChange Rows.scriptDecodesSpec)) = true := by kernel_rfl
theorem scriptDecodes_k1 : (laidOutB Tryz.prog) = true := by kernel_rfl
theorem scriptDecodes_k2 : (mapsRowed Tryz.prog) = true := by kernel_rfl
theorem scriptDecodes_k3 : (Tryz.f7.params.all (Tryz.prog.readableRec ·)) = true := by kernel_rfl
theorem scriptDecodes_k4 : (namedTie Tryz.prog Rows.scriptDecodesRow.named Rows.scriptDecodesSpec.vars) = true := by kernel_rfl
theorem scriptDecodes_k5 : ((Rows.scriptDecodesRow.stops == [])) = true := by kernel_rfl
theorem scriptDecodes_k6 : ((Tryz.prog.stops == [])) = true := by kernel_rfl
theorem scriptDecodes_k7 : ((Rows.scriptDecodesRow.knobs == [])) = true := by kernel_rfl
theorem scriptDecodes_k8 : ((Tryz.prog.stopKnobs == [])) = true := by kernel_rfl
theorem scriptDecodes_k9 : ((Rows.scriptDecodesRow.inPlace == Tryz.prog.inPlace 7)) = true := by kernel_rfl
theorem scriptDecodes_k10 : ((Rows.scriptDecodesRow.unfollowed == Tryz.prog.unfollowed 7)) = true := by kernel_rfl
theorem scriptDecodes_k11 : ((Rows.scriptDecodesRow.recurses == Tryz.prog.recurses 7)) = true := by kernel_rfl
theorem scriptDecodes_k12 : ((Rows.scriptDecodesRow.named == Tryz.prog.varsNamed 7)) = true := by kernel_rfl
theorem scriptDecodes_k13 : ((Rows.scriptDecodesRow.maps == (Tryz.f7.params.toList ++ Rows.scriptDecodesSpec.plain.varTypes Tryz.prog).any (Tryz.prog.mapsRec ·))) = true := by kernel_rfl
theorem scriptDecodes_k14 : ((Rows.scriptDecodesRow.ifaces == (Tryz.f7.params.toList ++ Rows.scriptDecodesSpec.plain.varTypes Tryz.prog).any (Tryz.prog.ifacesRec ·))) = true := by kernel_rfl
theorem scriptDecodes_k15 : ((Rows.scriptDecodesRow.mapsOut == Tryz.prog.mapsAmong Tryz.f7.resultTypes.toList)) = true := by kernel_rfl
theorem scriptDecodes_k16 : ((Rows.scriptDecodesRow.loops == (Tryz.f7.params.toList ++ Rows.scriptDecodesSpec.plain.varTypes Tryz.prog).any (Tryz.prog.loopsFrom ·))) = true := by kernel_rfl
theorem scriptDecodes_k17 : ((Rows.scriptDecodesRow.wideKeys == (Tryz.f7.params.toList ++ Rows.scriptDecodesSpec.plain.varTypes Tryz.prog ++ Tryz.f7.resultTypes.toList).any (Tryz.prog.wideKeysFrom ·))) = true := by kernel_rfl
theorem scriptDecodes_k18 : (Rows.scriptDecodesSpec.vars.all (Tryz.prog.varReadable ·)) = true := by kernel_rfl
theorem scriptDecodes_k19 : (Tryz.f7.resultTypes.all (fun t => Tryz.prog.readableRec t && decide (t < Tryz.prog.types.size))) = true := by kernel_rfl
theorem scriptDecodes_k20 : ((Rows.scriptDecodesRow.ifacesOut == Tryz.f7.resultTypes.toList.any (Tryz.prog.ifacesRec ·))) = true := by kernel_rfl
theorem scriptDecodes_k21 : ((Rows.scriptDecodesRow.loopsOut == Tryz.f7.resultTypes.toList.any (Tryz.prog.loopsFrom ·))) = true := by kernel_rfl
theorem scriptDecodes_k22 : ((Rows.scriptDecodesRow.plainKeys == Tryz.prog.plainKeys)) = true := by kernel_rfl
theorem scriptDecodes_k23 : (Rows.scriptDecodesRow.shortTexts.isNone) = true := by kernel_rfl
theorem scriptDecodes_k24 : (Tryz.prog.stopsHeard) = true := by kernel_rfl
theorem scriptDecodes_k25 : (Tryz.prog.mayEnter) = true := by kernel_rfl
theorem scriptDecodes_k26 : ((Rows.scriptDecodesRow.lifted == Tryz.prog.liftsFinal)) = true := by kernel_rfl
theorem scriptDecodes_k27 : ((Tryz.prog.make == some Rows.scriptDecodesRow.make)) = true := by kernel_rfl
theorem scriptDecodes_k28 : ((Rows.scriptDecodesRow.kinds == (if Rows.scriptDecodesRow.domain.isEmpty then [] else Tryz.f7.params.toList.map fun t => match Tryz.prog.underlying t with | some (.int k) => some k | _ => none))) = true := by kernel_rfl
theorem scriptDecodes_k29 : ((Rows.scriptDecodesRow.pinned == Rows.scriptDecodesRow.pinnedBy)) = true := by kernel_rfl
theorem scriptDecodes_k30 : ((Rows.scriptDecodesRow.veiled == (Tryz.f7.params.toList ++ Rows.scriptDecodesSpec.plain.varTypes Tryz.prog ++ Tryz.f7.resultTypes.toList).any (Tryz.prog.veiledRec ·))) = true := by kernel_rfl
theorem scriptDecodes_k31 : (Rows.scriptDecodesRow.veiledFits Tryz.prog Tryz.f7.params.toList (Tryz.f7.params.toList ++ Rows.scriptDecodesSpec.plain.varTypes Tryz.prog ++ Tryz.f7.resultTypes.toList)) = true := by kernel_rfl
set_option maxRecDepth 100000 in
theorem scriptDecodes_closed : joinedFacts Tryz.prog 7 Tryz.f7 Rows.scriptDecodesSpec Rows.scriptDecodesRow = true := (scriptDecodes_andT (scriptDecodes_andT (scriptDecodes_andT (scriptDecodes_andT (scriptDecodes_andT (scriptDecodes_andT (scriptDecodes_andT (scriptDecodes_andT (scriptDecodes_andT (scriptDecodes_andT (scriptDecodes_andT (scriptDecodes_andT (scriptDecodes_andT (scriptDecodes_andT (scriptDecodes_andT (scriptDecodes_andT (scriptDecodes_andT (scriptDecodes_andT (scriptDecodes_andT (scriptDecodes_andT (scriptDecodes_andT (scriptDecodes_andT (scriptDecodes_andT (scriptDecodes_andT (scriptDecodes_andT (scriptDecodes_andT (scriptDecodes_andT (scriptDecodes_andT (scriptDecodes_andT (scriptDecodes_andT (scriptDecodes_andT scriptDecodes_k0 scriptDecodes_k1) scriptDecodes_k2) scriptDecodes_k3) scriptDecodes_k4) scriptDecodes_k5) scriptDecodes_k6) scriptDecodes_k7) scriptDecodes_k8) scriptDecodes_k9) scriptDecodes_k10) scriptDecodes_k11) scriptDecodes_k12) scriptDecodes_k13) scriptDecodes_k14) scriptDecodes_k15) scriptDecodes_k16) scriptDecodes_k17) scriptDecodes_k18) scriptDecodes_k19) scriptDecodes_k20) scriptDecodes_k21) scriptDecodes_k22) scriptDecodes_k23) scriptDecodes_k24) scriptDecodes_k25) scriptDecodes_k26) scriptDecodes_k27) scriptDecodes_k28) scriptDecodes_k29) scriptDecodes_k30) scriptDecodes_k31)
theorem scriptDecodes_named : Tryz.prog.funcNamed "roundelay/roundelaylaw26.ScriptDecodes" = some 7 := by kernel_rfl
theorem scriptDecodes_inst : Tryz.f7.isInstance Tryz.prog Rows.scriptDecodesRow.origin Rows.scriptDecodesRow.targs := of_decide_eq_true (by kernel_rfl)
theorem scriptDecodes_wrap : Tryz.f7.isWrapper Tryz.prog Rows.scriptDecodesRow.wrapper Rows.scriptDecodesRow.mainSum := by unfold Func.isWrapper; first | (rw [if_pos (by decide +kernel)]; kernel_rfl) | (rw [if_neg (by decide +kernel)]; exact ⟨rfl, rfl⟩)
end Go.Proofs.YthifhdckfcgbkaaGreat
