/-
  Ranks (8): RankOrders: the row and the card.
-/
import Derived.Test.YtglghnfbkiondaaDoorRk7
import Derived.Test.YtglghnfbkiondaaDoorRw
import Derived.Lib.SmallJoins
namespace Go.Proofs.YtglghnfbkiondaaDoor
open Go.ChangeShapes Go.WideShapes Go.ChangeAt Go.RowKit Go.Vm Go.Vm.Rk
set_option linter.unusedVariables false
namespace Rk

theorem ints_row {W : World} {b o m : Nat} {u : Value} (h : RowAt W b o [.i64] m u) (hin : InRow [.i64] m u) : ∃ L : List Int, L.length = m ∧ IntsAt W b o L ∧ ∀ v ∈ L, Ran v := by
  obtain ⟨c, fr, el, xs, h1, h2, h3, h4, h5⟩ := h.row
  have e : xs = (xs.map toZ).map (Value.int .i64) := by rw [← rowOf1]; exact h5.rowOf
  have hl : xs.length = m := by simpa using h5.1
  refine ⟨xs.map toZ, by rw [List.length_map, hl], ⟨c, fr, el, h1, h3, by rw [← e]; exact h4⟩, fun v hv => ?_⟩
  obtain ⟨i, hi, he⟩ := List.getElem_of_mem hv
  rw [List.length_map] at hi
  have hz : xs[i]? = some (.int .i64 v) := by
    rw [e, List.getElem?_map, List.getElem?_eq_getElem (by rw [List.length_map]; exact hi), he]; rfl
  have hs := selI_of h2 hz
  have hr := hin.1 i 0 .i64 (by omega) rfl
  have hb : IntKind.i64.min = -9223372036854775808 ∧ IntKind.i64.max = 9223372036854775807 := by decide
  have e1 : i * [IntKind.i64].length + 0 = i := by simp
  rw [e1, hs, hb.1, hb.2] at hr
  exact ⟨hr.1, by omega⟩
theorem own : ownKnob Tryd.prog.godebug = none := by kernel_rfl
theorem laidOut : laidOutB Tryd.prog = true := by kernel_rfl
theorem readable_of {f : Func} (h : f.params.toList.all (fun t => Tryd.prog.readableRec t && Nat.blt t Tryd.prog.types.size) = true) : ∀ t ∈ f.params.toList, Tryd.prog.readableRec t = true ∧ t < Tryd.prog.types.size := fun t ht => by
  have := List.all_eq_true.1 h t ht
  simp only [Bool.and_eq_true] at this
  exact ⟨this.1, Nat.le_of_ble_eq_true this.2⟩
theorem readable5 : ∀ t ∈ Tryd.f5.params.toList, Tryd.prog.readableRec t = true ∧ t < Tryd.prog.types.size := readable_of (by kernel_rfl)
theorem cells3 : Tryd.prog.cellsOf 3 = [IntKind.i64].length := by kernel_rfl
theorem flat3 : flat Tryd.prog 1 3 = some [.i64] := by kernel_rfl
set_option maxRecDepth 100000 in
/-- WHAT THE WALK GIVES, FOR EVERY ARGUMENT. -/
theorem contract (H : Type) (enc : TypeId × Value → H) (W : World) (base : Nat) (args : Array Value) (ds gs : List (DataW H)) (before : List MemPlace)
    (hval : ∀ (j : Nat) t v, Tryd.f5.params[j]? = some t → args[j]? = some v → Value.okWide Tryd.prog W .any base t v)
    (hW : DataW.Whole enc Tryd.prog Tryd.f5.params.toList Rows.rankOrdersSpec.vars false W args.toList ds gs before) :
    Calls Tryd.prog 5 args W fun e W' => ∃ v, e = .returned v ∧ Rows.rankOrdersSpec.post enc Tryd.prog Tryd.f5 false true false false W args v W' := by
  have hW' := hW
  obtain ⟨p, q, hA0, hV, rfl, hfz, hnd⟩ := hW
  have hA : DataW.TrodAll enc Tryd.prog W 0 (fun _ => true) true Tryd.f5.params.toList args.toList ds p := hA0
  rw [Tryd.params5] at hA hval
  obtain ⟨v0, vs0, d0, ds0, p0, q0, hargs, rfl, rfl, h0, r0⟩ := trodAll_cons hA
  obtain ⟨rfl, rfl, rfl⟩ := trodAll_nil r0
  obtain rfl : args = #[v0] := by cases args; simp_all
  have walk : Calls Tryd.prog 5 #[v0] W fun e w' => e = .returned (.bool true) ∧ Framed W w' := by
    rcases open_rowsR Tryd.underlying22 cells3 (by decide) flat3 (hval 0 22 v0 rfl rfl) h0 with rfl | ⟨b, o, len, cap, rfl, hlen, hrow⟩
    · exact law_nil W
    · rcases Nat.eq_zero_or_pos len with rfl | hpos
      · exact law_zero W b o cap
      · obtain ⟨u, hu, hin⟩ := hrow hpos
        obtain ⟨L, rfl, hL, hR⟩ := ints_row hu hin
        exact law_row hL hR hpos
  refine walk.mono fun e W' ⟨he, hg⟩ => ⟨_, he, ?_⟩
  exact law_shut (tb := 4) laidOut readable5 (by kernel_rfl) Tryd.underlying4 hW' rfl rfl rfl rfl (below_of_framed hg)
/-- A table as its variable's memory bears it. -/
def cellsOfData : DataW Unit → Array Value
  | .agg l => (l.map fun d => match d with
    | .lit (.int k n) => Value.int k n
    | _ => Value.tuple #[]).toArray
  | _ => #[]
def lay (o : Obj) (d : DataW Unit) : Obj := match o with
  | .cells _ t frozen => .cells (cellsOfData d) t frozen
  | o => o
def args0 : Array Value := #[.slice none 0 0]
/-- A world for the witness: the tables hold what their initialisers lay. -/
noncomputable def laidWorld (os : Os) : World :=
  { World.holding Tryd.prog os ⟨#[], #[], []⟩ with heap := (((World.holding Tryd.prog os ⟨#[], #[], []⟩).heap.modify 2 fun o => lay o Rows.laid_math_bits_deBruijn32tab).modify 3 fun o => lay o Rows.laid_math_bits_deBruijn64tab).modify 1 fun o => lay o Rows.laid_internal_strconv_uint64pow10 }
theorem laid_met (os : Os) : laidMet Tryd.prog Rows.rankOrdersRow.laid ((laidWorld os).forCall (fun _ _ => 0) ⟨#[], args0, []⟩).memory :=
  laidMet_of_run' 8 (by kernel_rfl) (by kernel_rfl)
theorem reads (os : Os) {H : Type} (enc : TypeId × Value → H) : ∃ places, DataW.whole enc Tryd.prog ((laidWorld os).forCall (fun _ _ => 0) ⟨#[], args0, []⟩).memory Tryd.f5.params.toList Rows.rankOrdersSpec.vars false args0.toList 8 = some ([.nil], [], places) :=
  ⟨[], by kernel_rfl⟩
set_option maxRecDepth 100000 in
theorem lifted (os : Os) (started : os.Started) (H : Type) (enc : TypeId × Value → H) (F : Stop.Interp) :
    ReturnsInHanded {} Tryd.checked os 5 .any ((OpenSpec.ofChange Rows.rankOrdersSpec).preRow enc Tryd.prog Tryd.f5 Rows.rankOrdersRow.domain false Rows.rankOrdersRow.laid) (((OpenSpec.ofChange Rows.rankOrdersSpec).at F).post enc Tryd.prog Tryd.f5 false true false false) := by
  obtain ⟨places, hx⟩ := reads os enc
  refine returnsInHanded_of_row (C := Tryd.checked) (s := OpenSpec.ofChange Rows.rankOrdersSpec) own started (by kernel_rfl) Tryd.func5
    (witness_row_at (enc := enc) (C := Tryd.checked) false (laidWorld os) args0 rfl (by kernel_rfl) (by kernel_rfl) (by kernel_rfl)
      (OpenSpec.preRow_of_cond 8 hx (by kernel_rfl) (fun k hk => by cases hk) (by kernel_rfl) (laid_met os))) ?_
  intro W base args ds gs before hval hW _ _ _ hL _ _
  exact contract H enc W base args ds gs before hval hW
theorem saidO : Rows.RankOrdersSaid :=
  OpenClaim.holds_of_cond 5 Tryd.f5 rfl rfl rfl rfl rfl rfl rfl ⟨rfl, rfl, rfl, rfl, rfl⟩ rfl rfl rfl rfl rfl (by kernel_rfl) Tryd.func5 (by kernel_rfl)
    (of_decide_eq_true (by kernel_rfl)) (by unfold Func.isWrapper; first | (rw [if_pos (by decide +kernel)]; kernel_rfl) | (rw [if_neg (by decide +kernel)]; exact ⟨rfl, rfl⟩))
    (fun os started H enc _ F => by rw [OpenClaim.pre_eq_preRow]; exact lifted os started H enc F)
theorem plainO (f : FuncId) (fn : Func) (hf : Tryd.pinned.checked.prog.funcNamed "roundelay/roundelaylaw38.RankOrders" = some f) (hfn : Tryd.pinned.checked.prog.funcs[f]? = some fn) :
    false = Tryd.pinned.checked.prog.looks [] ∧ ∀ (j : Nat) t, fn.params[j]? = some t → Tryd.pinned.checked.prog.wantsStandIn t = false := by
  obtain rfl : f = 5 := Option.some.inj ((show Tryd.prog.funcNamed "roundelay/roundelaylaw38.RankOrders" = some 5 by kernel_rfl).symm.trans hf) |>.symm
  obtain rfl : fn = Tryd.f5 := (Option.some.inj (Tryd.func5.symm.trans hfn)).symm
  refine ⟨by kernel_rfl, fun j t ht => ?_⟩
  rw [Tryd.params5] at ht
  obtain rfl : t = 22 := by simpa using Array.mem_of_getElem? ht
  exact (show Tryd.prog.wantsStandIn 22 = false by kernel_rfl)
end Rk
/-- THE CARD. -/
theorem cardO : Rows.RankOrdersCardSaid :=
  Claim7.holds_tied_plain_at .later [] _ _ _ _ Rk.saidO (fun _ h => by cases h) (by kernel_rfl) (fun _ h => by cases h) rankOrders_row_tie rfl ⟨rfl, rfl⟩ (by kernel_rfl) rfl Rk.plainO (by kernel_rfl)

end Go.Proofs.YtglghnfbkiondaaDoor
