/-
  Ranks (14): RankTells: the row and the card.
-/
import Derived.Test.YtglghnfbkiondaaDoorRk8
import Derived.Test.YtglghnfbkiondaaDoorRk13
namespace Go.Proofs.YtglghnfbkiondaaDoor
open Go.ChangeShapes Go.WideShapes Go.ChangeAt Go.RowKit Go.Vm Go.Vm.Rk
set_option linter.unusedVariables false
namespace Rk
namespace Te

theorem readable3 : ∀ t ∈ Tryd.f3.params.toList, Tryd.prog.readableRec t = true ∧ t < Tryd.prog.types.size := readable_of (by kernel_rfl)
set_option maxRecDepth 100000 in
/-- WHAT THE WALK GIVES, FOR EVERY ARGUMENT. -/
theorem contract (H : Type) (enc : TypeId × Value → H) (W : World) (base : Nat) (args : Array Value) (ds gs : List (DataW H)) (before : List MemPlace)
    (hval : ∀ (j : Nat) t v, Tryd.f3.params[j]? = some t → args[j]? = some v → Value.okWide Tryd.prog W .any base t v)
    (hW : DataW.Whole enc Tryd.prog Tryd.f3.params.toList Rows.rankTellsSpec.vars false W args.toList ds gs before) :
    Calls Tryd.prog 3 args W fun e W' => ∃ v, e = .returned v ∧ Rows.rankTellsSpec.post enc Tryd.prog Tryd.f3 false true false false W args v W' := by
  have hW' := hW
  obtain ⟨p, q, hA0, hV, rfl, hfz, hnd⟩ := hW
  have hA : DataW.TrodAll enc Tryd.prog W 0 (fun _ => true) true Tryd.f3.params.toList args.toList ds p := hA0
  rw [Tryd.params3] at hA hval
  obtain ⟨v0, vs0, d0, ds0, p0, q0, hargs, rfl, rfl, h0, r0⟩ := trodAll_cons hA
  obtain ⟨rfl, rfl, rfl⟩ := trodAll_nil r0
  obtain rfl : args = #[v0] := by cases args; simp_all
  have walk : Calls Tryd.prog 3 #[v0] W fun e w' => e = .returned (.bool true) ∧ Framed W w' := by
    rcases open_rowsR Tryd.underlying22 cells3 (by decide) flat3 (hval 0 22 v0 rfl rfl) h0 with rfl | ⟨b, o, len, cap, rfl, hlen, hrow⟩
    · exact law_nil W
    · rcases Nat.eq_zero_or_pos len with rfl | hpos
      · exact law_zero W b o cap
      · obtain ⟨u, hu, hin⟩ := hrow hpos
        obtain ⟨L, rfl, hL, hR⟩ := ints_row hu hin
        exact law_row hL hR hpos
  refine walk.mono fun e W' ⟨he, hg⟩ => ⟨_, he, ?_⟩
  exact law_shut (tb := 4) laidOut readable3 (by kernel_rfl) Tryd.underlying4 hW' rfl rfl rfl rfl (below_of_framed hg)
theorem laid_met (os : Os) : laidMet Tryd.prog Rows.rankTellsRow.laid ((laidWorld os).forCall (fun _ _ => 0) ⟨#[], args0, []⟩).memory :=
  laidMet_of_run' 8 (by kernel_rfl) (by kernel_rfl)
theorem reads (os : Os) {H : Type} (enc : TypeId × Value → H) : ∃ places, DataW.whole enc Tryd.prog ((laidWorld os).forCall (fun _ _ => 0) ⟨#[], args0, []⟩).memory Tryd.f3.params.toList Rows.rankTellsSpec.vars false args0.toList 8 = some ([.nil], [], places) :=
  ⟨[], by kernel_rfl⟩
set_option maxRecDepth 100000 in
theorem lifted (os : Os) (started : os.Started) (H : Type) (enc : TypeId × Value → H) (F : Stop.Interp) :
    ReturnsInHanded {} Tryd.checked os 3 .any ((OpenSpec.ofChange Rows.rankTellsSpec).preRow enc Tryd.prog Tryd.f3 Rows.rankTellsRow.domain false Rows.rankTellsRow.laid) (((OpenSpec.ofChange Rows.rankTellsSpec).at F).post enc Tryd.prog Tryd.f3 false true false false) := by
  obtain ⟨places, hx⟩ := reads os enc
  refine returnsInHanded_of_row (C := Tryd.checked) (s := OpenSpec.ofChange Rows.rankTellsSpec) own started (by kernel_rfl) Tryd.func3
    (witness_row_at (enc := enc) (C := Tryd.checked) false (laidWorld os) args0 rfl (by kernel_rfl) (by kernel_rfl) (by kernel_rfl)
      (OpenSpec.preRow_of_cond 8 hx (by kernel_rfl) (fun k hk => by cases hk) (by kernel_rfl) (laid_met os))) ?_
  intro W base args ds gs before hval hW _ _ _ hL _ _
  exact contract H enc W base args ds gs before hval hW
theorem saidT : Rows.RankTellsSaid :=
  OpenClaim.holds_of_cond 3 Tryd.f3 rfl rfl rfl rfl rfl rfl rfl ⟨rfl, rfl, rfl, rfl, rfl⟩ rfl rfl rfl rfl rfl (by kernel_rfl) Tryd.func3 (by kernel_rfl)
    (of_decide_eq_true (by kernel_rfl)) (by unfold Func.isWrapper; first | (rw [if_pos (by decide +kernel)]; kernel_rfl) | (rw [if_neg (by decide +kernel)]; exact ⟨rfl, rfl⟩))
    (fun os started H enc _ F => by rw [OpenClaim.pre_eq_preRow]; exact lifted os started H enc F)
theorem plainT (f : FuncId) (fn : Func) (hf : Tryd.pinned.checked.prog.funcNamed "roundelay/roundelaylaw38.RankTells" = some f) (hfn : Tryd.pinned.checked.prog.funcs[f]? = some fn) :
    false = Tryd.pinned.checked.prog.looks [] ∧ ∀ (j : Nat) t, fn.params[j]? = some t → Tryd.pinned.checked.prog.wantsStandIn t = false := by
  obtain rfl : f = 3 := Option.some.inj ((show Tryd.prog.funcNamed "roundelay/roundelaylaw38.RankTells" = some 3 by kernel_rfl).symm.trans hf) |>.symm
  obtain rfl : fn = Tryd.f3 := (Option.some.inj (Tryd.func3.symm.trans hfn)).symm
  refine ⟨by kernel_rfl, fun j t ht => ?_⟩
  rw [Tryd.params3] at ht
  obtain rfl : t = 22 := by simpa using Array.mem_of_getElem? ht
  exact (show Tryd.prog.wantsStandIn 22 = false by kernel_rfl)
end Te
end Rk
/-- THE CARD. -/
theorem cardT : Rows.RankTellsCardSaid :=
  Claim7.holds_tied_plain_at .later [] _ _ _ _ Rk.Te.saidT (fun _ h => by cases h) (by kernel_rfl) (fun _ h => by cases h) rankTells_row_tie rfl ⟨rfl, rfl⟩ (by kernel_rfl) rfl Rk.Te.plainT (by kernel_rfl)

end Go.Proofs.YtglghnfbkiondaaDoor
