/-
  LinesBack: the row and the card.
-/
import Derived.Test.YtagdcclpibjfoaaDoorRd6
import Derived.Test.YtagdcclpibjfoaaDoorOt8
import Derived.Test.YtagdcclpibjfoaaDoorRw
namespace Go.Proofs.YtagdcclpibjfoaaDoor
open Go.ChangeShapes Go.WideShapes Go.ChangeAt Go.RowKit Go.Vm Go.Joins Txt
namespace Rd

theorem cells77 : Tryd.prog.cellsOf 77 = ks8.length := by kernel_rfl
theorem flat77' : flat Tryd.prog 4 77 = some ks8 := by kernel_rfl
theorem recIn_of {n : Nat} {u : Value} (h : InRow ks8 n u) : RecIn u := by
  intro i j hj
  have hk : ks8[j]? = some .i64 := by
    rcases (show j = 0 ∨ j = 1 ∨ j = 2 ∨ j = 3 ∨ j = 4 ∨ j = 5 ∨ j = 6 ∨ j = 7 by omega) with rfl | rfl | rfl | rfl | rfl | rfl | rfl | rfl <;> rfl
  have := h.all hk i (by decide)
  have h1 : IntKind.i64.min = -9223372036854775808 := by decide
  have h2 : IntKind.i64.max = 9223372036854775807 := by decide
  have h3 : ks8.length = 8 := rfl
  rw [h1, h2, h3] at this
  exact ⟨this.1, by omega⟩
-- ROWS THAT ARE NONE, OR TOO LONG
def spF : CallF := spL [(62, spTrue)]
theorem spF_ok (w : World) (hT : TabW w) (hE : ErrW w) : CallOk Tryd.prog (.plain w) spF := by
  refine spL_ok fun p hp => ?_
  rw [List.mem_singleton.1 hp]
  intro args H nl cs ls ρ' w' xs hr hx hh hc
  change spTrue args H nl cs = some ls at hr
  unfold spTrue at hr
  split at hr
  · cases hr; cases hx
    exact spV_ok (Ln.first62 w' (TabW.of (β := .plain w) hT rfl hh) (ErrW.of (β := .plain w) hE rfl hh)) rfl hh hc
  · cases hr
theorem run15n : (run Tryd.prog [(127, .same)] spF 4000 false 15 (entry Tryd.f15 (Tryd.f15.body.getD .ret) [.sliceNil] .leaf 0 [])).map (·.all (leafB (.lit true))) = some true := by kernel_rfl
theorem run15z : (run Tryd.prog [(127, .same)] spF 4000 false 15 (entry Tryd.f15 (Tryd.f15.body.getD .ret) [.slice 0 (.var 12) (.lit 0) (.var 11)] .leaf 1 [])).map (·.all (leafB (.lit true))) = some true := by kernel_rfl
theorem run15b : (run Tryd.prog [(127, .same)] spF 4000 false 15 (entry Tryd.f15 (Tryd.f15.body.getD .ret) [sl] .leaf 1 [(.cmp .gtr (.var 10) (.lit 200), true)])).map (·.all (leafB (.lit true))) = some true := by kernel_rfl
theorem back_nil (w : World) (hT : TabW w) (hE : ErrW w) : Calls Tryd.prog 15 #[.slice none 0 0] w (fun e w' => e = .returned (.bool true) ∧ Framed w w') :=
  calls_true (β := .plain w) (ρ := envOf [] [] F0) ext1_ok (spF_ok w hT hE) rfl Tryd.func15 rfl run15n (xs := [.slice none 0 0]) rfl (HRel.start w _ fun _ => rfl) (fun _ h => by cases h)
theorem start0 (w : World) (n cap o b : Nat) : HRel (.plain w) (ρR undef n cap o b) .leaf 1 w :=
  ⟨(fun l k hl => by simp [Tr.get] at hl), (fun l l' k k' hl => by simp [Tr.get] at hl), (fun l k b hl => by simp [Tr.get] at hl), (fun i hi => by show (if i = 0 then some b else none) = none; rw [if_neg (by omega)]), (fun l hl => by cases hl), Nat.le_refl _, fun _ _ _ => rfl, rfl, rfl, rfl, trivial⟩
theorem back_zero (w : World) (hT : TabW w) (hE : ErrW w) (b o cap : Nat) : Calls Tryd.prog 15 #[.slice (some ⟨b, o, none⟩) 0 cap] w (fun e w' => e = .returned (.bool true) ∧ Framed w w') := by
  refine calls_true (β := .plain w) ext1_ok (spF_ok w hT hE) rfl Tryd.func15 rfl run15z (xs := [.slice (some ⟨b, o, none⟩) 0 cap]) ?_ (start0 w 0 cap o b) (fun _ h => by cases h)
  have h0 : natOf ((IT.var 12).den (ρR undef 0 cap o b)) = some o := rfl
  have h1 : natOf ((IT.lit 0).den (ρR undef 0 cap o b)) = some 0 := rfl
  have h2 : natOf ((IT.var 11).den (ρR undef 0 cap o b)) = some cap := rfl
  have h3 : (ρR undef 0 cap o b).N 0 = some b := rfl
  simp only [AVal.denL, AVal.den, h0, h1, h2, h3]
theorem back_big (w : World) (hT : TabW w) (hE : ErrW w) (n b o cap : Nat) (hn : 200 < n) : Calls Tryd.prog 15 #[.slice (some ⟨b, o, none⟩) n cap] w (fun e w' => e = .returned (.bool true) ∧ Framed w w') := by
  refine calls_true (β := .plain w) ext1_ok (spF_ok w hT hE) rfl Tryd.func15 rfl run15b (xs := [.slice (some ⟨b, o, none⟩) n cap]) ?_ (start0 w n cap o b) (CRel_cons.2 ⟨?_, CRel_nil.2 trivial⟩)
  · simp only [AVal.denL, sl_den]
  · show some (decide ((n : Int) > 200)) = some true
    simp; omega
def args0 : Array Value := #[.slice none 0 0]
theorem laid_met (os : Os) : laidMet Tryd.prog Rows.linesBackRow.laid ((laidWorld05 os).forCall (fun _ _ => 0) ⟨#[], args0, []⟩).memory :=
  laidMet_of_run' 8 (by kernel_rfl) (by kernel_rfl)
theorem reads (os : Os) {H : Type} (enc : TypeId × Value → H) : ∃ places, DataW.whole enc Tryd.prog ((laidWorld05 os).forCall (fun _ _ => 0) ⟨#[], args0, []⟩).memory Tryd.f15.params.toList Rows.linesBackSpec.vars false args0.toList 8 = some ([.nil], [], places) :=
  ⟨[], by kernel_rfl⟩
set_option maxRecDepth 100000 in
theorem readable15 : ∀ t ∈ Tryd.f15.params.toList, Tryd.prog.readableRec t = true ∧ t < Tryd.prog.types.size := by
  have h : (Tryd.prog.readableRec 87 && Nat.blt 87 Tryd.prog.types.size) = true := by kernel_rfl
  simp only [Bool.and_eq_true] at h
  intro t ht
  rw [Tryd.params15] at ht
  have : t = 87 := by simpa using ht
  subst this
  exact ⟨h.1, Nat.le_of_ble_eq_true h.2⟩
set_option maxRecDepth 100000 in
/-- WHAT THE WALK GIVES, FOR EVERY ARGUMENT. -/
theorem contract (H : Type) (enc : TypeId × Value → H) (W : World) (base : Nat) (args : Array Value) (ds gs : List (DataW H)) (before : List MemPlace)
    (hval : ∀ (j : Nat) t v, Tryd.f15.params[j]? = some t → args[j]? = some v → Value.okWide Tryd.prog W .any base t v)
    (hW : DataW.Whole enc Tryd.prog Tryd.f15.params.toList Rows.linesBackSpec.vars false W args.toList ds gs before) (hT : TabW W) (hM : MaxW W) (hE : ErrW W) :
    Calls Tryd.prog 15 args W fun e W' => ∃ v, e = .returned v ∧ Rows.linesBackSpec.post enc Tryd.prog Tryd.f15 false true false false W args v W' := by
  have hW' := hW
  obtain ⟨p, q, hA0, hV, rfl, hfz, hnd⟩ := hW
  have hA : DataW.TrodAll enc Tryd.prog W 0 (fun _ => true) true Tryd.f15.params.toList args.toList ds p := hA0
  rw [Tryd.params15] at hA hval
  obtain ⟨v0, vs0, d0, ds0, p0, q0, hargs, rfl, rfl, h0, r0⟩ := trodAll_cons hA
  obtain ⟨rfl, rfl, rfl⟩ := trodAll_nil r0
  obtain rfl : args = #[v0] := by cases args; simp_all
  have walk : Calls Tryd.prog 15 #[v0] W fun e w' => e = .returned (.bool true) ∧ Framed W w' := by
    rcases open_rowsR (ks := ks8) Tryd.underlying87 cells77 (by decide) flat77' (hval 0 87 v0 rfl rfl) h0 with rfl | ⟨b, o, len, cap, rfl, hlen, hrow⟩
    · exact back_nil W hT hE
    · rcases Nat.eq_zero_or_pos len with rfl | hpos
      · exact back_zero W hT hE b o cap
      · obtain ⟨u, hu, hin⟩ := hrow hpos
        rcases Nat.lt_or_ge 200 len with hbig | hsm
        · exact back_big W hT hE len b o cap hbig
        · exact back_walk W u len b o cap (recIn_of hin) hT hM hE hpos hsm hu
  refine walk.mono fun e W' ⟨he, hg⟩ => ⟨_, he, ?_⟩
  exact law_shut (tb := 4) laidOut05 readable15 (by kernel_rfl) Tryd.underlying4 hW' rfl rfl rfl rfl (below_of_framed hg)
theorem laidWB {W : World} (h : laidMetH Tryd.prog Rows.linesBackRow.laid W) : TabW W ∧ ErrW W := Ot.laidW h
set_option maxRecDepth 100000 in
theorem lifted (os : Os) (started : os.Started) (H : Type) (enc : TypeId × Value → H) (F : Stop.Interp) :
    ReturnsInHanded {} Tryd.checked os 15 .any ((OpenSpec.ofChange Rows.linesBackSpec).preRow enc Tryd.prog Tryd.f15 Rows.linesBackRow.domain false Rows.linesBackRow.laid) (((OpenSpec.ofChange Rows.linesBackSpec).at F).post enc Tryd.prog Tryd.f15 false true false false) := by
  obtain ⟨places, hx⟩ := reads os enc
  refine returnsInHanded_of_row (C := Tryd.checked) (s := OpenSpec.ofChange Rows.linesBackSpec) own05 started (by kernel_rfl) Tryd.func15
    (witness_row_at (enc := enc) (C := Tryd.checked) false (laidWorld05 os) args0 rfl (by kernel_rfl) (by kernel_rfl) (by kernel_rfl)
      (OpenSpec.preRow_of_cond 8 hx (by kernel_rfl) (fun k hk => by cases hk) (by kernel_rfl) (laid_met os))) ?_
  intro W base args ds gs before hval hW _ _ _ hL hS _
  exact contract H enc W base args ds gs before hval hW (laidWB hL).1 (Ot.maxW_shape' hS) (laidWB hL).2
theorem said : Rows.LinesBackSaid :=
  OpenClaim.holds_of_cond 15 Tryd.f15 rfl rfl rfl rfl rfl rfl rfl ⟨rfl, rfl, rfl, rfl, rfl⟩ rfl rfl rfl rfl rfl (by kernel_rfl) Tryd.func15 (by kernel_rfl)
    (of_decide_eq_true (by kernel_rfl)) (by unfold Func.isWrapper; first | (rw [if_pos (by decide +kernel)]; kernel_rfl) | (rw [if_neg (by decide +kernel)]; exact ⟨rfl, rfl⟩))
    (fun os started H enc _ F => by rw [OpenClaim.pre_eq_preRow]; exact lifted os started H enc F)
theorem plain (f : FuncId) (fn : Func) (hf : Tryd.pinned.checked.prog.funcNamed "roundelay/roundelaylaw32.LinesBack" = some f) (hfn : Tryd.pinned.checked.prog.funcs[f]? = some fn) :
    true = Tryd.pinned.checked.prog.looks [] ∧ ∀ (j : Nat) t, fn.params[j]? = some t → Tryd.pinned.checked.prog.wantsStandIn t = false := by
  obtain rfl : f = 15 := Option.some.inj ((show Tryd.prog.funcNamed "roundelay/roundelaylaw32.LinesBack" = some 15 by kernel_rfl).symm.trans hf) |>.symm
  obtain rfl : fn = Tryd.f15 := (Option.some.inj (Tryd.func15.symm.trans hfn)).symm
  refine ⟨by kernel_rfl, fun j t ht => ?_⟩
  rw [Tryd.params15] at ht
  have : t = 87 := by simpa using Array.mem_of_getElem? ht
  subst this
  exact (show Tryd.prog.wantsStandIn 87 = false by kernel_rfl)
end Rd
/-- THE CARD. -/
theorem cardK : Rows.LinesBackCardSaid :=
  Claim7.holds_tied_plain_at .later [] _ _ _ _ Rd.said (fun _ h => by cases h) (by kernel_rfl) (fun _ h => by cases h) linesBack_row_tie rfl ⟨rfl, rfl⟩ (by kernel_rfl) rfl Rd.plain (by kernel_rfl)
end Go.Proofs.YtagdcclpibjfoaaDoor
