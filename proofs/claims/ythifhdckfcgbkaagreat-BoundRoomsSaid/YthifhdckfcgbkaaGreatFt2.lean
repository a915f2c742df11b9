/-
  The closed facts of the row BoundRooms, one by one.
-/
import Derived.Test.YthifhdckfcgbkaaGreatRows
import Derived.WalkKit
import Derived.ProofKit
import Derived.OpenShut
import Derived.JoinedOf
namespace Go.Proofs.YthifhdckfcgbkaaGreat
open Go.ChangeShapes Go.WideShapes Go.ChangeAt Go.RowKit
theorem boundRooms_andT {a b : Bool} (h : a = true) (g : b = true) : (a && b) = true := by rw [h, g]; rfl
theorem boundRooms_k0 : (Rows.boundRoomsRow.wf (OpenSpec.ofChange Rows.boundRoomsSpec)) = true := by kernel_rfl
theorem boundRooms_k1 : (laidOutB Tryz.prog) = true := by kernel_rfl
theorem boundRooms_k2 : (mapsRowed Tryz.prog) = true := by kernel_rfl
theorem boundRooms_k3 : (Tryz.f4.params.all (Tryz.prog.readableRec ·)) = true := by kernel_rfl
theorem boundRooms_k4 : (namedTie Tryz.prog Rows.boundRoomsRow.named Rows.boundRoomsSpec.vars) = true := by kernel_rfl
theorem boundRooms_k5 : ((Rows.boundRoomsRow.stops == [])) = true := by kernel_rfl
theorem boundRooms_k6 : ((Tryz.prog.stops == [])) = true := by kernel_rfl
theorem boundRooms_k7 : ((Rows.boundRoomsRow.knobs == [])) = true := by kernel_rfl
theorem boundRooms_k8 : ((Tryz.prog.stopKnobs == [])) = true := by kernel_rfl
theorem boundRooms_k9 : ((Rows.boundRoomsRow.inPlace == Tryz.prog.inPlace 4)) = true := by kernel_rfl
theorem boundRooms_k10 : ((Rows.boundRoomsRow.unfollowed == Tryz.prog.unfollowed 4)) = true := by kernel_rfl
theorem boundRooms_k11 : ((Rows.boundRoomsRow.recurses == Tryz.prog.recurses 4)) = true := by kernel_rfl
theorem boundRooms_k12 : ((Rows.boundRoomsRow.named == Tryz.prog.varsNamed 4)) = true := by kernel_rfl
theorem boundRooms_k13 : ((Rows.boundRoomsRow.maps == (Tryz.f4.params.toList ++ Rows.boundRoomsSpec.plain.varTypes Tryz.prog).any (Tryz.prog.mapsRec ·))) = true := by kernel_rfl
theorem boundRooms_k14 : ((Rows.boundRoomsRow.ifaces == (Tryz.f4.params.toList ++ Rows.boundRoomsSpec.plain.varTypes Tryz.prog).any (Tryz.prog.ifacesRec ·))) = true := by kernel_rfl
theorem boundRooms_k15 : ((Rows.boundRoomsRow.mapsOut == Tryz.prog.mapsAmong Tryz.f4.resultTypes.toList)) = true := by kernel_rfl
theorem boundRooms_k16 : ((Rows.boundRoomsRow.loops == (Tryz.f4.params.toList ++ Rows.boundRoomsSpec.plain.varTypes Tryz.prog).any (Tryz.prog.loopsFrom ·))) = true := by kernel_rfl
theorem boundRooms_k17 : ((Rows.boundRoomsRow.wideKeys == (Tryz.f4.params.toList ++ Rows.boundRoomsSpec.plain.varTypes Tryz.prog ++ Tryz.f4.resultTypes.toList).any (Tryz.prog.wideKeysFrom ·))) = true := by kernel_rfl
theorem boundRooms_k18 : (Rows.boundRoomsSpec.vars.all (Tryz.prog.varReadable ·)) = true := by kernel_rfl
theorem boundRooms_k19 : (Tryz.f4.resultTypes.all (fun t => Tryz.prog.readableRec t && decide (t < Tryz.prog.types.size))) = true := by kernel_rfl
theorem boundRooms_k20 : ((Rows.boundRoomsRow.ifacesOut == Tryz.f4.resultTypes.toList.any (Tryz.prog.ifacesRec ·))) = true := by kernel_rfl
theorem boundRooms_k21 : ((Rows.boundRoomsRow.loopsOut == Tryz.f4.resultTypes.toList.any (Tryz.prog.loopsFrom ·))) = true := by kernel_rfl
theorem boundRooms_k22 : ((Rows.boundRoomsRow.plainKeys == Tryz.prog.plainKeys)) = true := by kernel_rfl
theorem boundRooms_k23 : (Rows.boundRoomsRow.shortTexts.isNone) = true := by kernel_rfl
theorem boundRooms_k24 : (Tryz.prog.stopsHeard) = true := by kernel_rfl
theorem boundRooms_k25 : (Tryz.prog.mayEnter) = true := by kernel_rfl
theorem boundRooms_k26 : ((Rows.boundRoomsRow.lifted == Tryz.prog.liftsFinal)) = true := by kernel_rfl
theorem boundRooms_k27 : ((Tryz.prog.make == some Rows.boundRoomsRow.make)) = true := by kernel_rfl
theorem boundRooms_k28 : ((Rows.boundRoomsRow.kinds == (if Rows.boundRoomsRow.domain.isEmpty then [] else Tryz.f4.params.toList.map fun t => match Tryz.prog.underlying t with | some (.int k) => some k | _ => none))) = true := by kernel_rfl
theorem boundRooms_k29 : ((Rows.boundRoomsRow.pinned == Rows.boundRoomsRow.pinnedBy)) = true := by kernel_rfl
theorem boundRooms_k30 : ((Rows.boundRoomsRow.veiled == (Tryz.f4.params.toList ++ Rows.boundRoomsSpec.plain.varTypes Tryz.prog ++ Tryz.f4.resultTypes.toList).any (Tryz.prog.veiledRec ·))) = true := by kernel_rfl
theorem boundRooms_k31 : (Rows.boundRoomsRow.veiledFits Tryz.prog Tryz.f4.params.toList (Tryz.f4.params.toList ++ Rows.boundRoomsSpec.plain.varTypes Tryz.prog ++ Tryz.f4.resultTypes.toList)) = true := by kernel_rfl
set_option maxRecDepth 100000 in
theorem boundRooms_closed : joinedFacts Tryz.prog 4 Tryz.f4 Rows.boundRoomsSpec Rows.boundRoomsRow = true := (boundRooms_andT (boundRooms_andT (boundRooms_andT (boundRooms_andT (boundRooms_andT (boundRooms_andT (boundRooms_andT (boundRooms_andT (boundRooms_andT (boundRooms_andT (boundRooms_andT (boundRooms_andT (boundRooms_andT (boundRooms_andT (boundRooms_andT (boundRooms_andT (boundRooms_andT (boundRooms_andT (boundRooms_andT (boundRooms_andT (boundRooms_andT (boundRooms_andT (boundRooms_andT (boundRooms_andT (boundRooms_andT (boundRooms_andT (boundRooms_andT (boundRooms_andT (boundRooms_andT (boundRooms_andT (boundRooms_andT boundRooms_k0 boundRooms_k1) boundRooms_k2) boundRooms_k3) boundRooms_k4) boundRooms_k5) boundRooms_k6) boundRooms_k7) boundRooms_k8) boundRooms_k9) boundRooms_k10) boundRooms_k11) boundRooms_k12) boundRooms_k13) boundRooms_k14) boundRooms_k15) boundRooms_k16) boundRooms_k17) boundRooms_k18) boundRooms_k19) boundRooms_k20) boundRooms_k21) boundRooms_k22) boundRooms_k23) boundRooms_k24) boundRooms_k25) boundRooms_k26) boundRooms_k27) boundRooms_k28) boundRooms_k29) boundRooms_k30) boundRooms_k31)
theorem boundRooms_named : Tryz.prog.funcNamed "roundelay/roundelaylaw29.BoundRooms" = some 4 := by kernel_rfl
theorem boundRooms_inst : Tryz.f4.isInstance Tryz.prog Rows.boundRoomsRow.origin Rows.boundRoomsRow.targs := of_decide_eq_true (by kernel_rfl)
theorem boundRooms_wrap : Tryz.f4.isWrapper Tryz.prog Rows.boundRoomsRow.wrapper Rows.boundRoomsRow.mainSum := by unfold Func.isWrapper; first | (rw [if_pos (by decide +kernel)]; kernel_rfl) | (rw [if_neg (by decide +kernel)]; exact ⟨rfl, rfl⟩)
end Go.Proofs.YthifhdckfcgbkaaGreat
