/-
  LinesRead: the row and the card.
-/
import Derived.Test.YtagdcclpibjfoaaDoorRd11
import Derived.Test.YtagdcclpibjfoaaDoorOt8
import Derived.Test.YtagdcclpibjfoaaDoorRw
namespace Go.Proofs.YtagdcclpibjfoaaDoor
open Go.ChangeShapes Go.WideShapes Go.ChangeAt Go.RowKit Go.Vm Go.Joins Txt
namespace Rr

def args0 : Array Value := #[.string ⟨#[]⟩, .int .u16 0]
theorem laid_met (os : Os) : laidMet Tryd.prog Rows.linesReadRow.laid ((laidWorld05 os).forCall (fun _ _ => 0) ⟨#[], args0, []⟩).memory :=
  laidMet_of_run' 8 (by kernel_rfl) (by kernel_rfl)
theorem reads (os : Os) {H : Type} (enc : TypeId × Value → H) : ∃ places, DataW.whole enc Tryd.prog ((laidWorld05 os).forCall (fun _ _ => 0) ⟨#[], args0, []⟩).memory Tryd.f14.params.toList Rows.linesReadSpec.vars false args0.toList 8 = some ([.lit (.string []), .lit (.int .u16 0)], [], places) :=
  ⟨[], by kernel_rfl⟩
set_option maxRecDepth 100000 in
theorem readable14 : ∀ t ∈ Tryd.f14.params.toList, Tryd.prog.readableRec t = true ∧ t < Tryd.prog.types.size := by
  have h : ((Tryd.prog.readableRec 9 && Nat.blt 9 Tryd.prog.types.size) && (Tryd.prog.readableRec 85 && Nat.blt 85 Tryd.prog.types.size)) = true := by kernel_rfl
  simp only [Bool.and_eq_true] at h
  intro t ht
  rw [Tryd.params14] at ht
  have : t = 9 ∨ t = 85 := by simpa using ht
  rcases this with rfl | rfl
  · exact ⟨h.1.1, Nat.le_of_ble_eq_true h.1.2⟩
  · exact ⟨h.2.1, Nat.le_of_ble_eq_true h.2.2⟩
set_option maxRecDepth 100000 in
/-- WHAT THE WALK GIVES, FOR EVERY ARGUMENT. -/
theorem contract (H : Type) (enc : TypeId × Value → H) (W : World) (base : Nat) (args : Array Value) (ds gs : List (DataW H)) (before : List MemPlace)
    (hval : ∀ (j : Nat) t v, Tryd.f14.params[j]? = some t → args[j]? = some v → Value.okWide Tryd.prog W .any base t v)
    (hW : DataW.Whole enc Tryd.prog Tryd.f14.params.toList Rows.linesReadSpec.vars false W args.toList ds gs before) (hT : TabW W) (hM : MaxW W) (hE : ErrW W) :
    Calls Tryd.prog 14 args W fun e W' => ∃ v, e = .returned v ∧ Rows.linesReadSpec.post enc Tryd.prog Tryd.f14 false true false false W args v W' := by
  have hW' := hW
  obtain ⟨p, q, hA0, hV, rfl, hfz, hnd⟩ := hW
  have hA : DataW.TrodAll enc Tryd.prog W 0 (fun _ => true) true Tryd.f14.params.toList args.toList ds p := hA0
  rw [Tryd.params14] at hA hval
  obtain ⟨v0, vs0, d0, ds0, p0, q0, hargs, rfl, rfl, h0, r0⟩ := trodAll_cons hA
  obtain ⟨v1, vs1, d1, ds1, p1, q1, rfl, rfl, rfl, h1, r1⟩ := trodAll_cons r0
  obtain ⟨rfl, rfl, rfl⟩ := trodAll_nil r1
  obtain rfl : args = #[v0, v1] := by cases args; simp_all
  have walk : Calls Tryd.prog 14 #[v0, v1] W fun e w' => e = .returned (.bool true) ∧ Framed W w' := by
    obtain ⟨s, rfl, _, _, _⟩ := Go.ChangeMaps.open_string Tryd.underlying9 (hval 0 9 v0 rfl rfl) h0
    obtain ⟨z, rfl, _, _, hw⟩ := open_int Tryd.underlying85 (hval 1 85 v1 rfl rfl) h1
    simp only [Lit.wf, Bool.and_eq_true, decide_eq_true_eq] at hw
    have e1 : IntKind.u16.min = 0 := by decide
    have e2 : IntKind.u16.max = 65535 := by decide
    obtain ⟨d, rfl⟩ := Int.eq_ofNat_of_zero_le (show 0 ≤ z by omega)
    exact Rd.read_walk W hT hM hE s d (by omega)
  refine walk.mono fun e W' ⟨he, hg⟩ => ⟨_, he, ?_⟩
  exact law_shut (tb := 4) laidOut05 readable14 (by kernel_rfl) Tryd.underlying4 hW' rfl rfl rfl rfl (below_of_framed hg)
theorem laidWR {W : World} (h : laidMetH Tryd.prog Rows.linesReadRow.laid W) : TabW W ∧ ErrW W := Ot.laidW h
set_option maxRecDepth 100000 in
theorem lifted (os : Os) (started : os.Started) (H : Type) (enc : TypeId × Value → H) (F : Stop.Interp) :
    ReturnsInHanded {} Tryd.checked os 14 .any ((OpenSpec.ofChange Rows.linesReadSpec).preRow enc Tryd.prog Tryd.f14 Rows.linesReadRow.domain false Rows.linesReadRow.laid) (((OpenSpec.ofChange Rows.linesReadSpec).at F).post enc Tryd.prog Tryd.f14 false true false false) := by
  obtain ⟨places, hx⟩ := reads os enc
  refine returnsInHanded_of_row (C := Tryd.checked) (s := OpenSpec.ofChange Rows.linesReadSpec) own05 started (by kernel_rfl) Tryd.func14
    (witness_row_at (enc := enc) (C := Tryd.checked) false (laidWorld05 os) args0 rfl (by kernel_rfl) (by kernel_rfl) (by kernel_rfl)
      (OpenSpec.preRow_of_cond 8 hx (by kernel_rfl) (fun k hk => by cases hk) (by kernel_rfl) (laid_met os))) ?_
  intro W base args ds gs before hval hW _ _ _ hL hS _
  exact contract H enc W base args ds gs before hval hW (laidWR hL).1 (Ot.maxW_shape' hS) (laidWR hL).2
theorem said : Rows.LinesReadSaid :=
  OpenClaim.holds_of_cond 14 Tryd.f14 rfl rfl rfl rfl rfl rfl rfl ⟨rfl, rfl, rfl, rfl, rfl⟩ rfl rfl rfl rfl rfl (by kernel_rfl) Tryd.func14 (by kernel_rfl)
    (of_decide_eq_true (by kernel_rfl)) (by unfold Func.isWrapper; first | (rw [if_pos (by decide +kernel)]; kernel_rfl) | (rw [if_neg (by decide +kernel)]; exact ⟨rfl, rfl⟩))
    (fun os started H enc _ F => by rw [OpenClaim.pre_eq_preRow]; exact lifted os started H enc F)
theorem plain (f : FuncId) (fn : Func) (hf : Tryd.pinned.checked.prog.funcNamed "roundelay/roundelaylaw32.LinesRead" = some f) (hfn : Tryd.pinned.checked.prog.funcs[f]? = some fn) :
    true = Tryd.pinned.checked.prog.looks [] ∧ ∀ (j : Nat) t, fn.params[j]? = some t → Tryd.pinned.checked.prog.wantsStandIn t = false := by
  obtain rfl : f = 14 := Option.some.inj ((show Tryd.prog.funcNamed "roundelay/roundelaylaw32.LinesRead" = some 14 by kernel_rfl).symm.trans hf) |>.symm
  obtain rfl : fn = Tryd.f14 := (Option.some.inj (Tryd.func14.symm.trans hfn)).symm
  refine ⟨by kernel_rfl, fun j t ht => ?_⟩
  rw [Tryd.params14] at ht
  have : t = 9 ∨ t = 85 := by simpa using Array.mem_of_getElem? ht
  rcases this with rfl | rfl
  · exact (show Tryd.prog.wantsStandIn 9 = false by kernel_rfl)
  · exact (show Tryd.prog.wantsStandIn 85 = false by kernel_rfl)
end Rr
/-- THE CARD. -/
theorem cardD : Rows.LinesReadCardSaid :=
  Claim7.holds_tied_plain_at .later [] _ _ _ _ Rr.said (fun _ h => by cases h) (by kernel_rfl) (fun _ h => by cases h) linesRead_row_tie rfl ⟨rfl, rfl⟩ (by kernel_rfl) rfl Rr.plain (by kernel_rfl)
end Go.Proofs.YtagdcclpibjfoaaDoor
