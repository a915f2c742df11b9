/-
  The closed facts of the row DrillJudges, one by one.
-/
import Derived.Test.YtgiomdniafpjnaaGreatDoorRows
import Derived.WalkKit
import Derived.ProofKit
import Derived.OpenShut
import Derived.JoinedCond
namespace Go.Proofs.YtgiomdniafpjnaaGreatDoor
open Go.ChangeShapes Go.WideShapes Go.ChangeAt Go.RowKit
theorem andT {a b : Bool} (h : a = true) (g : b = true) : (a && b) = true := by rw [h, g]; rfl
theorem drillJudges_k0 : (Rows.drillJudgesRow.wf (OpenSpec.ofChange (OpenSpec.ofChange Rows.drillJudgesSpec).bare)) = true := by kernel_rfl
theorem drillJudges_k1 : (laidOutB Tryz.prog) = true := by kernel_rfl
theorem drillJudges_k2 : (mapsRowed Tryz.prog) = true := by kernel_rfl
theorem drillJudges_k3 : (Tryz.f3.params.all (Tryz.prog.readableRec ·)) = true := by kernel_rfl
theorem drillJudges_k4 : (namedTie Tryz.prog Rows.drillJudgesRow.named (OpenSpec.ofChange Rows.drillJudgesSpec).bare.vars) = true := by kernel_rfl
theorem drillJudges_k5 : ((Rows.drillJudgesRow.stops == [])) = true := by kernel_rfl
theorem drillJudges_k6 : ((Tryz.prog.stops == [])) = true := by kernel_rfl
theorem drillJudges_k7 : ((Rows.drillJudgesRow.knobs == [])) = true := by kernel_rfl
theorem drillJudges_k8 : ((Tryz.prog.stopKnobs == [])) = true := by kernel_rfl
theorem drillJudges_k9 : ((Rows.drillJudgesRow.inPlace == Tryz.prog.inPlace 3)) = true := by kernel_rfl
theorem drillJudges_k10 : ((Rows.drillJudgesRow.unfollowed == Tryz.prog.unfollowed 3)) = true := by kernel_rfl
theorem drillJudges_k11 : ((Rows.drillJudgesRow.recurses == Tryz.prog.recurses 3)) = true := by kernel_rfl
theorem drillJudges_k12 : ((Rows.drillJudgesRow.named == Tryz.prog.varsNamed 3)) = true := by kernel_rfl
theorem drillJudges_k13 : ((Rows.drillJudgesRow.maps == (Tryz.f3.params.toList ++ (OpenSpec.ofChange Rows.drillJudgesSpec).bare.plain.varTypes Tryz.prog).any (Tryz.prog.mapsRec ·))) = true := by kernel_rfl
theorem drillJudges_k14 : ((Rows.drillJudgesRow.ifaces == (Tryz.f3.params.toList ++ (OpenSpec.ofChange Rows.drillJudgesSpec).bare.plain.varTypes Tryz.prog).any (Tryz.prog.ifacesRec ·))) = true := by kernel_rfl
theorem drillJudges_k15 : ((Rows.drillJudgesRow.mapsOut == Tryz.prog.mapsAmong Tryz.f3.resultTypes.toList)) = true := by kernel_rfl
theorem drillJudges_k16 : ((Rows.drillJudgesRow.loops == (Tryz.f3.params.toList ++ (OpenSpec.ofChange Rows.drillJudgesSpec).bare.plain.varTypes Tryz.prog).any (Tryz.prog.loopsFrom ·))) = true := by kernel_rfl
theorem drillJudges_k17 : ((Rows.drillJudgesRow.wideKeys == (Tryz.f3.params.toList ++ (OpenSpec.ofChange Rows.drillJudgesSpec).bare.plain.varTypes Tryz.prog ++ Tryz.f3.resultTypes.toList).any (Tryz.prog.wideKeysFrom ·))) = true := by kernel_rfl
theorem drillJudges_k18 : ((OpenSpec.ofChange Rows.drillJudgesSpec).bare.vars.all (Tryz.prog.varReadable ·)) = true := by kernel_rfl
theorem drillJudges_k19 : (Tryz.f3.resultTypes.all (fun t => Tryz.prog.readableRec t && decide (t < Tryz.prog.types.size))) = true := by kernel_rfl
theorem drillJudges_k20 : ((Rows.drillJudgesRow.ifacesOut == Tryz.f3.resultTypes.toList.any (Tryz.prog.ifacesRec ·))) = true := by kernel_rfl
theorem drillJudges_k21 : ((Rows.drillJudgesRow.loopsOut == Tryz.f3.resultTypes.toList.any (Tryz.prog.loopsFrom ·))) = true := by kernel_rfl
theorem drillJudges_k22 : ((Rows.drillJudgesRow.plainKeys == Tryz.prog.plainKeys)) = true := by kernel_rfl
theorem drillJudges_k23 : (Rows.drillJudgesRow.shortTexts.isNone) = true := by kernel_rfl
theorem drillJudges_k24 : (Tryz.prog.stopsHeard) = true := by kernel_rfl
theorem drillJudges_k25 : (Tryz.prog.mayEnter) = true := by kernel_rfl
theorem drillJudges_k26 : ((Rows.drillJudgesRow.lifted == Tryz.prog.liftsFinal)) = true := by kernel_rfl
theorem drillJudges_k27 : ((Tryz.prog.make == some Rows.drillJudgesRow.make)) = true := by kernel_rfl
theorem drillJudges_k28 : ((Rows.drillJudgesRow.kinds == (if Rows.drillJudgesRow.domain.isEmpty then [] else Tryz.f3.params.toList.map fun t => match Tryz.prog.underlying t with | some (.int k) => some k | _ => none))) = true := by kernel_rfl
theorem drillJudges_k29 : ((Rows.drillJudgesRow.pinned == Rows.drillJudgesRow.pinnedBy)) = true := by kernel_rfl
theorem drillJudges_k30 : ((Rows.drillJudgesRow.veiled == (Tryz.f3.params.toList ++ (OpenSpec.ofChange Rows.drillJudgesSpec).bare.plain.varTypes Tryz.prog ++ Tryz.f3.resultTypes.toList).any (Tryz.prog.veiledRec ·))) = true := by kernel_rfl
theorem drillJudges_k31 : (Rows.drillJudgesRow.veiledFits Tryz.prog Tryz.f3.params.toList (Tryz.f3.params.toList ++ (OpenSpec.ofChange Rows.drillJudgesSpec).bare.plain.varTypes Tryz.prog ++ Tryz.f3.resultTypes.toList)) = true := by kernel_rfl
set_option maxRecDepth 100000 in
theorem drillJudges_closed : joinedFacts Tryz.prog 3 Tryz.f3 (OpenSpec.ofChange Rows.drillJudgesSpec).bare Rows.drillJudgesRow = true := (andT (andT (andT (andT (andT (andT (andT (andT (andT (andT (andT (andT (andT (andT (andT (andT (andT (andT (andT (andT (andT (andT (andT (andT (andT (andT (andT (andT (andT (andT (andT drillJudges_k0 drillJudges_k1) drillJudges_k2) drillJudges_k3) drillJudges_k4) drillJudges_k5) drillJudges_k6) drillJudges_k7) drillJudges_k8) drillJudges_k9) drillJudges_k10) drillJudges_k11) drillJudges_k12) drillJudges_k13) drillJudges_k14) drillJudges_k15) drillJudges_k16) drillJudges_k17) drillJudges_k18) drillJudges_k19) drillJudges_k20) drillJudges_k21) drillJudges_k22) drillJudges_k23) drillJudges_k24) drillJudges_k25) drillJudges_k26) drillJudges_k27) drillJudges_k28) drillJudges_k29) drillJudges_k30) drillJudges_k31)
theorem drillJudges_named : Tryz.prog.funcNamed "roundelay/roundelaylaw36.DrillJudges" = some 3 := by kernel_rfl
theorem drillJudges_inst : Tryz.f3.isInstance Tryz.prog Rows.drillJudgesRow.origin Rows.drillJudgesRow.targs := of_decide_eq_true (by kernel_rfl)
theorem drillJudges_wrap : Tryz.f3.isWrapper Tryz.prog Rows.drillJudgesRow.wrapper Rows.drillJudgesRow.mainSum := by unfold Func.isWrapper; first | (rw [if_pos (by decide +kernel)]; kernel_rfl) | (rw [if_neg (by decide +kernel)]; exact ⟨rfl, rfl⟩)
end Go.Proofs.YtgiomdniafpjnaaGreatDoor
