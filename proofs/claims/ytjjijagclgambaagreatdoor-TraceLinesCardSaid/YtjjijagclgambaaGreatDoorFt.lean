/-
  The closed facts of the row TraceLines, one by one.
-/
import Derived.Test.YtjjijagclgambaaGreatDoorRows
import Derived.WalkKit
import Derived.ProofKit
import Derived.OpenShut
import Derived.JoinedCond
namespace Go.Proofs.YtjjijagclgambaaGreatDoor
open Go.ChangeShapes Go.WideShapes Go.ChangeAt Go.RowKit
theorem andT {a b : Bool} (h : a = true) (g : b = true) : (a && b) = true := by rw [h, g]; rfl
theorem traceLines_k0 : (Rows.traceLinesRow.wf (OpenSpec.ofChange (OpenSpec.ofChange Rows.traceLinesSpec).bare)) = true := by kernel_rfl
theorem traceLines_k1 : (laidOutB Tryz.prog) = true := by kernel_rfl
theorem traceLines_k2 : (mapsRowed Tryz.prog) = true := by kernel_rfl
theorem traceLines_k3 : (Tryz.f3.params.all (Tryz.prog.readableRec ·)) = true := by kernel_rfl
theorem traceLines_k4 : (namedTie Tryz.prog Rows.traceLinesRow.named (OpenSpec.ofChange Rows.traceLinesSpec).bare.vars) = true := by kernel_rfl
theorem traceLines_k5 : ((Rows.traceLinesRow.stops == [])) = true := by kernel_rfl
theorem traceLines_k6 : ((Tryz.prog.stops == [])) = true := by kernel_rfl
theorem traceLines_k7 : ((Rows.traceLinesRow.knobs == [])) = true := by kernel_rfl
theorem traceLines_k8 : ((Tryz.prog.stopKnobs == [])) = true := by kernel_rfl
theorem traceLines_k9 : ((Rows.traceLinesRow.inPlace == Tryz.prog.inPlace 3)) = true := by kernel_rfl
theorem traceLines_k10 : ((Rows.traceLinesRow.unfollowed == Tryz.prog.unfollowed 3)) = true := by kernel_rfl
theorem traceLines_k11 : ((Rows.traceLinesRow.recurses == Tryz.prog.recurses 3)) = true := by kernel_rfl
theorem traceLines_k12 : ((Rows.traceLinesRow.named == Tryz.prog.varsNamed 3)) = true := by kernel_rfl
theorem traceLines_k13 : ((Rows.traceLinesRow.maps == (Tryz.f3.params.toList ++ (OpenSpec.ofChange Rows.traceLinesSpec).bare.plain.varTypes Tryz.prog).any (Tryz.prog.mapsRec ·))) = true := by kernel_rfl
theorem traceLines_k14 : ((Rows.traceLinesRow.ifaces == (Tryz.f3.params.toList ++ (OpenSpec.ofChange Rows.traceLinesSpec).bare.plain.varTypes Tryz.prog).any (Tryz.prog.ifacesRec ·))) = true := by kernel_rfl
theorem traceLines_k15 : ((Rows.traceLinesRow.mapsOut == Tryz.prog.mapsAmong Tryz.f3.resultTypes.toList)) = true := by kernel_rfl
theorem traceLines_k16 : ((Rows.traceLinesRow.loops == (Tryz.f3.params.toList ++ (OpenSpec.ofChange Rows.traceLinesSpec).bare.plain.varTypes Tryz.prog).any (Tryz.prog.loopsFrom ·))) = true := by kernel_rfl
theorem traceLines_k17 : ((Rows.traceLinesRow.wideKeys == (Tryz.f3.params.toList ++ (OpenSpec.ofChange Rows.traceLinesSpec).bare.plain.varTypes Tryz.prog ++ Tryz.f3.resultTypes.toList).any (Tryz.prog.wideKeysFrom ·))) = true := by kernel_rfl
theorem traceLines_k18 : ((OpenSpec.ofChange Rows.traceLinesSpec).bare.vars.all (Tryz.prog.varReadable ·)) = true := by kernel_rfl
theorem traceLines_k19 : (Tryz.f3.resultTypes.all (fun t => Tryz.prog.readableRec t && decide (t < Tryz.prog.types.size))) = true := by kernel_rfl
theorem traceLines_k20 : ((Rows.traceLinesRow.ifacesOut == Tryz.f3.resultTypes.toList.any (Tryz.prog.ifacesRec ·))) = true := by kernel_rfl
theorem traceLines_k21 : ((Rows.traceLinesRow.loopsOut == Tryz.f3.resultTypes.toList.any (Tryz.prog.loopsFrom ·))) = true := by kernel_rfl
theorem traceLines_k22 : ((Rows.traceLinesRow.plainKeys == Tryz.prog.plainKeys)) = true := by kernel_rfl
theorem traceLines_k23 : (Rows.traceLinesRow.shortTexts.isNone) = true := by kernel_rfl
theorem traceLines_k24 : (Tryz.prog.stopsHeard) = true := by kernel_rfl
theorem traceLines_k25 : (Tryz.prog.mayEnter) = true := by kernel_rfl
theorem traceLines_k26 : ((Rows.traceLinesRow.lifted == Tryz.prog.liftsFinal)) = true := by kernel_rfl
theorem traceLines_k27 : ((Tryz.prog.make == some Rows.traceLinesRow.make)) = true := by kernel_rfl
theorem traceLines_k28 : ((Rows.traceLinesRow.kinds == (if Rows.traceLinesRow.domain.isEmpty then [] else Tryz.f3.params.toList.map fun t => match Tryz.prog.underlying t with | some (.int k) => some k | _ => none))) = true := by kernel_rfl
theorem traceLines_k29 : ((Rows.traceLinesRow.pinned == Rows.traceLinesRow.pinnedBy)) = true := by kernel_rfl
theorem traceLines_k30 : ((Rows.traceLinesRow.veiled == (Tryz.f3.params.toList ++ (OpenSpec.ofChange Rows.traceLinesSpec).bare.plain.varTypes Tryz.prog ++ Tryz.f3.resultTypes.toList).any (Tryz.prog.veiledRec ·))) = true := by kernel_rfl
theorem traceLines_k31 : (Rows.traceLinesRow.veiledFits Tryz.prog Tryz.f3.params.toList (Tryz.f3.params.toList ++ (OpenSpec.ofChange Rows.traceLinesSpec).bare.plain.varTypes Tryz.prog ++ Tryz.f3.resultTypes.toList)) = true := by kernel_rfl
set_option maxRecDepth 100000 in
theorem traceLines_closed : joinedFacts Tryz.prog 3 Tryz.f3 (OpenSpec.ofChange Rows.traceLinesSpec).bare Rows.traceLinesRow = true := (andT (andT (andT (andT (andT (andT (andT (andT (andT (andT (andT (andT (andT (andT (andT (andT (andT (andT (andT (andT (andT (andT (andT (andT (andT (andT (andT (andT (andT (andT (andT traceLines_k0 traceLines_k1) traceLines_k2) traceLines_k3) traceLines_k4) traceLines_k5) traceLines_k6) traceLines_k7) traceLines_k8) traceLines_k9) traceLines_k10) traceLines_k11) traceLines_k12) traceLines_k13) traceLines_k14) traceLines_k15) traceLines_k16) traceLines_k17) traceLines_k18) traceLines_k19) traceLines_k20) traceLines_k21) traceLines_k22) traceLines_k23) traceLines_k24) traceLines_k25) traceLines_k26) traceLines_k27) traceLines_k28) traceLines_k29) traceLines_k30) traceLines_k31)
theorem traceLines_named : Tryz.prog.funcNamed "roundelay/roundelaylaw39.TraceLines" = some 3 := by kernel_rfl
theorem traceLines_inst : Tryz.f3.isInstance Tryz.prog Rows.traceLinesRow.origin Rows.traceLinesRow.targs := of_decide_eq_true (by kernel_rfl)
theorem traceLines_wrap : Tryz.f3.isWrapper Tryz.prog Rows.traceLinesRow.wrapper Rows.traceLinesRow.mainSum := by unfold Func.isWrapper; first | (rw [if_pos (by decide +kernel)]; kernel_rfl) | (rw [if_neg (by decide +kernel)]; exact ⟨rfl, rfl⟩)
end Go.Proofs.YtjjijagclgambaaGreatDoor
