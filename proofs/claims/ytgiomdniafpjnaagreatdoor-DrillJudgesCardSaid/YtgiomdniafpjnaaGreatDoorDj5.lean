/-
  DrillJudges (law 36) holds of every input (its row): which reports are sound, and the text of any one, are as the document says.
-/
import Derived.Test.YtgiomdniafpjnaaGreatDoorDj4
import Derived.Test.YtgiomdniafpjnaaGreatDoorFt
import Derived.Test.YtgiomdniafpjnaaGreatDoorCards
import Derived.Test.YtgiomdniafpjnaaGreatDoorTie
import Derived.Lib.LaidTab
import Derived.MakeChecks
import Derived.HandedShaped
import Derived.Shelf.Vars
import Derived.LaidLaws
import Derived.Lib.SmallJoins
import Derived.ChangeMaps5
namespace Go.Proofs.YtgiomdniafpjnaaGreatDoor
open Go.ChangeShapes Go.WideShapes Go.ChangeAt Go.RowKit Go.Vm Go.Joins
set_option linter.unusedVariables false
namespace Txt

-- WHAT CAME IN, OPENED
set_option maxRecDepth 100000 in
theorem cells23 : Tryz.prog.cellsOf 23 = 17 := by kernel_rfl
theorem cells3 : Tryz.prog.cellsOf 3 = 1 := by kernel_rfl
theorem cells4 : Tryz.prog.cellsOf 4 = 1 := by kernel_rfl
theorem array17 {α : Type} {cs : Array α} (h : cs.size = 17) : ∃ c0 c1 c2 c3 c4 c5 c6 c7 c8 c9 c10 c11 c12 c13 c14 c15 c16, cs = #[c0, c1, c2, c3, c4, c5, c6, c7, c8, c9, c10, c11, c12, c13, c14, c15, c16] := by
  obtain ⟨l⟩ := cs
  match l, h with
  | [c0, c1, c2, c3, c4, c5, c6, c7, c8, c9, c10, c11, c12, c13, c14, c15, c16], _ => exact ⟨c0, c1, c2, c3, c4, c5, c6, c7, c8, c9, c10, c11, c12, c13, c14, c15, c16, rfl⟩
theorem trod_struct17 {H : Type} {enc : TypeId × Value → H} {P : Program} {w : World} {base : Nat} {spare : Nat → Bool} {held : Bool} {t : TypeId} {f0 f1 f2 f3 f4 f5 f6 f7 f8 f9 f10 f11 f12 f13 f14 f15 f16 : Field} {fuel : Nat} {cs : List Value} {x : DataW H × List MemPlace} (ht : P.underlying t = some (.struct #[f0, f1, f2, f3, f4, f5, f6, f7, f8, f9, f10, f11, f12, f13, f14, f15, f16])) (h : DataW.trod enc P w base spare held fuel t cs = some x) :
    ∃ y0 y1 y2 y3 y4 y5 y6 y7 y8 y9 y10 y11 y12 y13 y14 y15 y16 n, DataW.trod enc P w base spare held n f0.type ((cs.drop f0.offset).take (P.cellsOf f0.type)) = some y0 ∧
      DataW.trod enc P w base spare held n f1.type ((cs.drop f1.offset).take (P.cellsOf f1.type)) = some y1 ∧
      DataW.trod enc P w base spare held n f2.type ((cs.drop f2.offset).take (P.cellsOf f2.type)) = some y2 ∧
      DataW.trod enc P w base spare held n f3.type ((cs.drop f3.offset).take (P.cellsOf f3.type)) = some y3 ∧
      DataW.trod enc P w base spare held n f4.type ((cs.drop f4.offset).take (P.cellsOf f4.type)) = some y4 ∧
      DataW.trod enc P w base spare held n f5.type ((cs.drop f5.offset).take (P.cellsOf f5.type)) = some y5 ∧
      DataW.trod enc P w base spare held n f6.type ((cs.drop f6.offset).take (P.cellsOf f6.type)) = some y6 ∧
      DataW.trod enc P w base spare held n f7.type ((cs.drop f7.offset).take (P.cellsOf f7.type)) = some y7 ∧
      DataW.trod enc P w base spare held n f8.type ((cs.drop f8.offset).take (P.cellsOf f8.type)) = some y8 ∧
      DataW.trod enc P w base spare held n f9.type ((cs.drop f9.offset).take (P.cellsOf f9.type)) = some y9 ∧
      DataW.trod enc P w base spare held n f10.type ((cs.drop f10.offset).take (P.cellsOf f10.type)) = some y10 ∧
      DataW.trod enc P w base spare held n f11.type ((cs.drop f11.offset).take (P.cellsOf f11.type)) = some y11 ∧
      DataW.trod enc P w base spare held n f12.type ((cs.drop f12.offset).take (P.cellsOf f12.type)) = some y12 ∧
      DataW.trod enc P w base spare held n f13.type ((cs.drop f13.offset).take (P.cellsOf f13.type)) = some y13 ∧
      DataW.trod enc P w base spare held n f14.type ((cs.drop f14.offset).take (P.cellsOf f14.type)) = some y14 ∧
      DataW.trod enc P w base spare held n f15.type ((cs.drop f15.offset).take (P.cellsOf f15.type)) = some y15 ∧
      DataW.trod enc P w base spare held n f16.type ((cs.drop f16.offset).take (P.cellsOf f16.type)) = some y16 := by
  obtain ⟨xs, n, _, rfl, hl, hlen, hf⟩ := DataW.trod_struct ht h
  match xs, hlen with
  | [y0, y1, y2, y3, y4, y5, y6, y7, y8, y9, y10, y11, y12, y13, y14, y15, y16], _ => exact ⟨y0, y1, y2, y3, y4, y5, y6, y7, y8, y9, y10, y11, y12, y13, y14, y15, y16, n, by simpa using hf 0 f0 rfl, by simpa using hf 1 f1 rfl, by simpa using hf 2 f2 rfl, by simpa using hf 3 f3 rfl, by simpa using hf 4 f4 rfl, by simpa using hf 5 f5 rfl, by simpa using hf 6 f6 rfl, by simpa using hf 7 f7 rfl, by simpa using hf 8 f8 rfl, by simpa using hf 9 f9 rfl, by simpa using hf 10 f10 rfl, by simpa using hf 11 f11 rfl, by simpa using hf 12 f12 rfl, by simpa using hf 13 f13 rfl, by simpa using hf 14 f14 rfl, by simpa using hf 15 f15 rfl, by simpa using hf 16 f16 rfl⟩
theorem one_intR {H : Type} {enc : TypeId × Value → H} {P : Program} {W : World} {base : Nat} {sp : Nat → Bool} {held : Bool} {n : Nat} {t : TypeId} {c : Value} {y : DataW H × List MemPlace} (ht : P.underlying t = some (.int .i64)) (h : DataW.trod enc P W base sp held n t [c] = some y) :
    ∃ z, (-9223372036854775808 ≤ z ∧ z < 9223372036854775808) ∧ c = .int .i64 z := by
  obtain ⟨z, hz, _, hw⟩ := DataW.trod_int ht h
  simp only [List.cons.injEq, and_true] at hz
  simp only [Lit.wf, Bool.and_eq_true, decide_eq_true_eq] at hw
  have eb : IntKind.i64.min = -9223372036854775808 ∧ IntKind.i64.max = 9223372036854775807 := by decide
  rw [eb.1, eb.2] at hw
  exact ⟨z, by omega, hz⟩
set_option maxRecDepth 100000 in
theorem open_rep {H : Type} {enc : TypeId × Value → H} {W : World} {b0 base : Nat} {r : Reach} {sp : Nat → Bool} {held : Bool} {v : Value} {d : DataW H} {p : List MemPlace} (hv : Value.okWide Tryz.prog W r b0 23 v) (h : DataW.Trod enc Tryz.prog W base sp held 23 v d p) :
    ∃ (x : Nat → Int) (b : Bool), (∀ i, i < 16 → -9223372036854775808 ≤ x i ∧ x i < 9223372036854775808) ∧ v = repV x b := by
  obtain ⟨cs, rfl, hsz⟩ := okWide_struct Tryz.underlying23 hv
  obtain ⟨c0, c1, c2, c3, c4, c5, c6, c7, c8, c9, c10, c11, c12, c13, c14, c15, c16, rfl⟩ := array17 (hsz.trans cells23)
  obtain ⟨fuel, hf⟩ := h
  obtain ⟨y0, y1, y2, y3, y4, y5, y6, y7, y8, y9, y10, y11, y12, y13, y14, y15, y16, n, g0, g1, g2, g3, g4, g5, g6, g7, g8, g9, g10, g11, g12, g13, g14, g15, g16⟩ := trod_struct17 Tryz.underlying23 hf
  dsimp only at g0 g1 g2 g3 g4 g5 g6 g7 g8 g9 g10 g11 g12 g13 g14 g15 g16
  rw [cells3] at g0 g1 g2 g3 g4 g5 g6 g7 g8 g9 g10 g11 g12 g13 g14 g15
  rw [cells4] at g16
  obtain ⟨z0, r0, rfl⟩ := one_intR (y := y0) Tryz.underlying3 g0
  obtain ⟨z1, r1, rfl⟩ := one_intR (y := y1) Tryz.underlying3 g1
  obtain ⟨z2, r2, rfl⟩ := one_intR (y := y2) Tryz.underlying3 g2
  obtain ⟨z3, r3, rfl⟩ := one_intR (y := y3) Tryz.underlying3 g3
  obtain ⟨z4, r4, rfl⟩ := one_intR (y := y4) Tryz.underlying3 g4
  obtain ⟨z5, r5, rfl⟩ := one_intR (y := y5) Tryz.underlying3 g5
  obtain ⟨z6, r6, rfl⟩ := one_intR (y := y6) Tryz.underlying3 g6
  obtain ⟨z7, r7, rfl⟩ := one_intR (y := y7) Tryz.underlying3 g7
  obtain ⟨z8, r8, rfl⟩ := one_intR (y := y8) Tryz.underlying3 g8
  obtain ⟨z9, r9, rfl⟩ := one_intR (y := y9) Tryz.underlying3 g9
  obtain ⟨z10, r10, rfl⟩ := one_intR (y := y10) Tryz.underlying3 g10
  obtain ⟨z11, r11, rfl⟩ := one_intR (y := y11) Tryz.underlying3 g11
  obtain ⟨z12, r12, rfl⟩ := one_intR (y := y12) Tryz.underlying3 g12
  obtain ⟨z13, r13, rfl⟩ := one_intR (y := y13) Tryz.underlying3 g13
  obtain ⟨z14, r14, rfl⟩ := one_intR (y := y14) Tryz.underlying3 g14
  obtain ⟨z15, r15, rfl⟩ := one_intR (y := y15) Tryz.underlying3 g15
  obtain ⟨b, hb, _⟩ := DataW.trod_bool Tryz.underlying4 g16
  obtain rfl : c16 = .bool b := (List.cons.inj (show [c16] = [.bool b] from hb)).1
  refine ⟨fun i => [z0, z1, z2, z3, z4, z5, z6, z7, z8, z9, z10, z11, z12, z13, z14, z15].getD i 0, b, fun i hi => ?_, rfl⟩
  match i, hi with
  | 0, _ => exact r0
  | 1, _ => exact r1
  | 2, _ => exact r2
  | 3, _ => exact r3
  | 4, _ => exact r4
  | 5, _ => exact r5
  | 6, _ => exact r6
  | 7, _ => exact r7
  | 8, _ => exact r8
  | 9, _ => exact r9
  | 10, _ => exact r10
  | 11, _ => exact r11
  | 12, _ => exact r12
  | 13, _ => exact r13
  | 14, _ => exact r14
  | 15, _ => exact r15
  | i + 16, hi => omega
-- WHAT THE ROW LISTS
theorem laidW {W : World} (h : laidMetH Tryz.prog Rows.drillJudgesRow.laid W) : TabW W := by
  rw [MakeChecks.laidMetH_plain _ _ _ (by kernel_rfl)] at h
  obtain ⟨ps, ⟨_, _, _, _, _, _, _, _, _, _, ⟨_, _, _, _, _, _, _, _, _, _, ⟨g', t', cs, fuel, p, q, hg', ht', hvar, hd, _, _⟩, _⟩, _⟩, _⟩ := h
  have hg : Tryz.prog.globalNamed "internal/strconv.uint64pow10" = some 0 := by kernel_rfl
  obtain rfl := Option.some.inj (hg.symm.trans hg')
  have hty : ∃ t e, (Tryz.prog.globals[0]?).map (·.type) = some t ∧ Tryz.prog.underlying t = some (.array 20 e) ∧ Tryz.prog.underlying e = some (.int .u64) ∧ Tryz.prog.cellsOf e = 1 ∧ Tryz.prog.cellsOf t = 20 := ⟨255, 56, by kernel_rfl, by kernel_rfl, by kernel_rfl, by kernel_rfl, by kernel_rfl⟩
  obtain ⟨t, e, h1, h2, h3, h4, h5⟩ := hty
  obtain rfl := Option.some.inj (h1.symm.trans ht')
  have hdd : Rows.laid_internal_strconv_uint64pow10 = (Lib.tabData .u64 Lib.pow10Tab : DataW Unit) := by kernel_rfl
  unfold TabW Lib.TabIs
  rw [hvar, ← Lib.cells_of_tab h2 h3 h4 h5 (hdd ▸ hd)]
-- ROW AND CARD
theorem own : ownKnob Tryz.prog.godebug = none := by kernel_rfl
theorem laidOut : laidOutB Tryz.prog = true := by kernel_rfl
theorem readable_of {f : Func} (h : f.params.toList.all (fun t => Tryz.prog.readableRec t && Nat.blt t Tryz.prog.types.size) = true) : ∀ t ∈ f.params.toList, Tryz.prog.readableRec t = true ∧ t < Tryz.prog.types.size := fun t ht => by
  have := List.all_eq_true.1 h t ht
  simp only [Bool.and_eq_true] at this
  exact ⟨this.1, Nat.le_of_ble_eq_true this.2⟩
theorem readable3 : ∀ t ∈ Tryz.f3.params.toList, Tryz.prog.readableRec t = true ∧ t < Tryz.prog.types.size := readable_of (by kernel_rfl)
set_option maxRecDepth 100000 in
/-- WHAT THE WALK GIVES, FOR EVERY ARGUMENT. -/
theorem contract (H : Type) (enc : TypeId × Value → H) (W : World) (base : Nat) (args : Array Value) (ds gs : List (DataW H)) (before : List MemPlace)
    (hval : ∀ (j : Nat) t v, Tryz.f3.params[j]? = some t → args[j]? = some v → Value.okWide Tryz.prog W .any base t v)
    (hW : DataW.Whole enc Tryz.prog Tryz.f3.params.toList Rows.drillJudgesSpec.vars false W args.toList ds gs before) (hT : TabW W) :
    Calls Tryz.prog 3 args W fun e W' => ∃ v, e = .returned v ∧ Rows.drillJudgesSpec.post enc Tryz.prog Tryz.f3 false true false false W args v W' := by
  have hW' := hW
  obtain ⟨p, q, hA0, hV, rfl, hfz, hnd⟩ := hW
  have hA : DataW.TrodAll enc Tryz.prog W 0 (fun _ => true) true Tryz.f3.params.toList args.toList ds p := hA0
  rw [Tryz.params3] at hA hval
  obtain ⟨v0, vs0, d0, ds0, p0, q0, hargs, rfl, rfl, h0, r0⟩ := trodAll_cons hA
  obtain ⟨rfl, rfl, rfl⟩ := trodAll_nil r0
  obtain rfl : args = #[v0] := by cases args; simp_all
  have walk : Calls Tryz.prog 3 #[v0] W fun e w' => e = .returned (.bool true) ∧ Framed W w' := by
    obtain ⟨x, b, hx, rfl⟩ := open_rep (hval 0 23 v0 rfl rfl) h0
    exact lawD hT x b hx
  refine walk.mono fun e W' ⟨he, hg⟩ => ⟨_, he, ?_⟩
  exact law_shut (tb := 4) laidOut readable3 (by kernel_rfl) Tryz.underlying4 hW' rfl rfl rfl rfl (below_of_framed hg)
/-- A table as its variable's memory bears it. -/
def cellsAt : Nat → DataW Unit → List Value
  | 0, _ => []
  | n + 1, .agg l => l.flatMap (cellsAt n)
  | _, .lit (.int k n) => [.int k n]
  | _, _ => []
def lay (o : Obj) (d : DataW Unit) : Obj := match o with
  | .cells _ t frozen => .cells (cellsAt 4 d).toArray t frozen
  | o => o
def args0 : Array Value := #[repV (fun _ => 0) false]
/-- A world for the witness: the tables hold what their initialisers lay. -/
noncomputable def laidWorld (os : Os) : World :=
  { World.holding Tryz.prog os ⟨#[], #[], []⟩ with heap := (((World.holding Tryz.prog os ⟨#[], #[], []⟩).heap.modify 1 fun o => lay o Rows.laid_math_bits_deBruijn32tab).modify 2 fun o => lay o Rows.laid_math_bits_deBruijn64tab).modify 0 fun o => lay o Rows.laid_internal_strconv_uint64pow10 }
theorem laid_met (os : Os) : laidMet Tryz.prog Rows.drillJudgesRow.laid ((laidWorld os).forCall (fun _ _ => 0) ⟨#[], args0, []⟩).memory :=
  laidMet_of_run' 8 (by kernel_rfl) (by kernel_rfl)
theorem reads (os : Os) {H : Type} (enc : TypeId × Value → H) : ∃ places, DataW.whole enc Tryz.prog ((laidWorld os).forCall (fun _ _ => 0) ⟨#[], args0, []⟩).memory Tryz.f3.params.toList Rows.drillJudgesSpec.vars false args0.toList 8 = some ([.agg (List.replicate 16 (.lit (.int .i64 0)) ++ [.lit (.bool false)])], [], places) :=
  ⟨[], by kernel_rfl⟩
set_option maxRecDepth 100000 in
theorem lifted (os : Os) (started : os.Started) (H : Type) (enc : TypeId × Value → H) (F : Stop.Interp) :
    ReturnsInHanded {} Tryz.checked os 3 .any ((OpenSpec.ofChange Rows.drillJudgesSpec).preRow enc Tryz.prog Tryz.f3 Rows.drillJudgesRow.domain false Rows.drillJudgesRow.laid) (((OpenSpec.ofChange Rows.drillJudgesSpec).at F).post enc Tryz.prog Tryz.f3 false true false false) := by
  obtain ⟨places, hx⟩ := reads os enc
  refine returnsInHanded_of_row (C := Tryz.checked) (s := OpenSpec.ofChange Rows.drillJudgesSpec) own started (by kernel_rfl) Tryz.func3
    (witness_row_at (enc := enc) (C := Tryz.checked) false (laidWorld os) args0 rfl (by kernel_rfl) (by kernel_rfl) (by kernel_rfl)
      (OpenSpec.preRow_of_cond 8 hx (by kernel_rfl) (fun k hk => by cases hk) (by kernel_rfl) (laid_met os))) ?_
  intro W base args ds gs before hval hW _ _ _ hL _ _
  exact contract H enc W base args ds gs before hval hW (laidW hL)
theorem said : Rows.DrillJudgesSaid :=
  OpenClaim.holds_of_cond 3 Tryz.f3 rfl rfl rfl rfl rfl rfl rfl ⟨rfl, rfl, rfl, rfl, rfl⟩ rfl rfl rfl rfl rfl drillJudges_named Tryz.func3 drillJudges_closed drillJudges_inst drillJudges_wrap
    (fun os started H enc _ F => by rw [OpenClaim.pre_eq_preRow]; exact lifted os started H enc F)
theorem plain (f : FuncId) (fn : Func) (hf : Tryz.pinned.checked.prog.funcNamed "roundelay/roundelaylaw36.DrillJudges" = some f) (hfn : Tryz.pinned.checked.prog.funcs[f]? = some fn) :
    true = Tryz.pinned.checked.prog.looks [] ∧ ∀ (j : Nat) t, fn.params[j]? = some t → Tryz.pinned.checked.prog.wantsStandIn t = false := by
  obtain rfl : f = 3 := Option.some.inj ((show Tryz.prog.funcNamed "roundelay/roundelaylaw36.DrillJudges" = some 3 by kernel_rfl).symm.trans hf) |>.symm
  obtain rfl : fn = Tryz.f3 := (Option.some.inj (Tryz.func3.symm.trans hfn)).symm
  refine ⟨by kernel_rfl, fun j t ht => ?_⟩
  rw [Tryz.params3] at ht
  obtain rfl : t = 23 := by simpa using Array.mem_of_getElem? ht
  exact (show Tryz.prog.wantsStandIn 23 = false by kernel_rfl)
end Txt
end Go.Proofs.YtgiomdniafpjnaaGreatDoor
