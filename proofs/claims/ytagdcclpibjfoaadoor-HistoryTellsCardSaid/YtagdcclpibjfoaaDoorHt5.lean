/-
  HistoryTells (5): the row and the card.
-/
import Derived.Test.YtagdcclpibjfoaaDoorHt4
import Derived.Lib.SmallJoins
import Derived.Lib.LaidTab
import Derived.MakeChecks
import Derived.Shelf.Vars
namespace Go.Proofs.YtagdcclpibjfoaaDoor
open Go.ChangeShapes Go.WideShapes Go.ChangeAt Go.RowKit Go.Vm Txt
namespace Ht

/-- The table of powers lies third on the list. -/
theorem tabW_laid {W : World} (h : laidMetH Tryd.prog Rows.historyTellsRow.laid W) : TabW W := by
  rw [MakeChecks.laidMetH_plain _ _ _ (by kernel_rfl)] at h
  obtain ⟨ps, ⟨_, _, _, _, _, _, _, _, _, _, ⟨_, _, _, _, _, _, _, _, _, _, ⟨g', t', cs, fuel, p, q, hg', ht', hvar, hd, _, _⟩, _⟩, _⟩, _⟩ := h
  have hg : Tryd.prog.globalNamed "internal/strconv.uint64pow10" = some 1 := by kernel_rfl
  obtain rfl := Option.some.inj (hg.symm.trans hg')
  have hty : ∃ t e, (Tryd.prog.globals[1]?).map (·.type) = some t ∧ Tryd.prog.underlying t = some (.array 20 e) ∧ Tryd.prog.underlying e = some (.int .u64) ∧ Tryd.prog.cellsOf e = 1 ∧ Tryd.prog.cellsOf t = 20 := ⟨184, 30, by kernel_rfl, by kernel_rfl, by kernel_rfl, by kernel_rfl, by kernel_rfl⟩
  obtain ⟨t, e, h1, h2, h3, h4, h5⟩ := hty
  obtain rfl := Option.some.inj (h1.symm.trans ht')
  have hdd : Rows.laid_internal_strconv_uint64pow10 = (Lib.tabData .u64 Lib.pow10Tab : DataW Unit) := by kernel_rfl
  unfold TabW Lib.TabIs
  rw [hvar, ← Lib.cells_of_tab h2 h3 h4 h5 (hdd ▸ hd)]
theorem own : ownKnob Tryd.prog.godebug = none := by kernel_rfl
theorem laidOut : laidOutB Tryd.prog = true := by kernel_rfl
theorem flat32 : flat Tryd.prog 4 32 = some ksR := by kernel_rfl
theorem cells32 : Tryd.prog.cellsOf 32 = ksR.length := by kernel_rfl

theorem recIn_of {n : Nat} {u : Value} (h : InRow ksR n u) : RecIn u := by
  intro i j hj
  have hk : ksR[j]? = some .i64 := by
    rcases (show j = 0 ∨ j = 1 ∨ j = 2 ∨ j = 3 ∨ j = 4 ∨ j = 5 ∨ j = 6 ∨ j = 7 ∨ j = 8 ∨ j = 9 ∨ j = 10 ∨ j = 11 ∨ j = 12 ∨ j = 13 ∨ j = 14 by omega) with rfl | rfl | rfl | rfl | rfl | rfl | rfl | rfl | rfl | rfl | rfl | rfl | rfl | rfl | rfl <;> rfl
  have := h.all hk i (by decide)
  have h1 : IntKind.i64.min = -9223372036854775808 := by decide
  have h2 : IntKind.i64.max = 9223372036854775807 := by decide
  have h3 : ksR.length = 16 := rfl
  rw [h1, h2, h3] at this
  exact ⟨this.1, by omega⟩

-- ROWS THAT ARE NONE, OR TOO LONG
def spF : CallF := spL [(16, spTrue)]
theorem spF_ok (w : World) : CallOk Tryd.prog (.plain w) spF := by
  refine spL_ok fun p hp => ?_
  simp only [List.mem_cons, List.not_mem_nil, or_false] at hp
  obtain rfl := hp
  exact spTrue_ok first27
theorem run3n : (run Tryd.prog exts05 spF 4000 false 3 (entry Tryd.f3 (Tryd.f3.body.getD .ret) [.sliceNil, iI 21] .leaf 0 [])).map (·.all (leafB (.lit true))) = some true := by kernel_rfl
theorem run3z : (run Tryd.prog exts05 spF 4000 false 3 (entry Tryd.f3 (Tryd.f3.body.getD .ret) [.slice 0 (.var 12) (.lit 0) (.var 11), iI 21] .leaf 1 [])).map (·.all (leafB (.lit true))) = some true := by kernel_rfl
theorem run3b : (run Tryd.prog exts05 spF 4000 false 3 (entry Tryd.f3 (Tryd.f3.body.getD .ret) [sl, iI 21] .leaf 1 [(.cmp .gtr (.var 10) (.lit 100), true)])).map (·.all (leafB (.lit true))) = some true := by kernel_rfl
theorem tells_nil (w : World) (kind : Int) : Calls Tryd.prog 3 #[.slice none 0 0, .int .i64 kind] w (fun e w' => e = .returned (.bool true) ∧ Framed w w') :=
  calls_true (β := .plain w) (ρ := { ρH undef 0 kind 0 0 0 with N := fun _ => none }) exts05_ok (spF_ok w) rfl Tryd.func3 rfl run3n (xs := [.slice none 0 0, .int .i64 kind]) rfl
    ⟨(fun l k hl => by simp [Tr.get] at hl), (fun l l' k k' hl => by simp [Tr.get] at hl), (fun l k b hl => by simp [Tr.get] at hl), (fun _ _ => rfl), (fun l hl => by cases hl), Nat.le_refl _, fun _ _ _ => rfl, rfl, rfl, rfl, trivial⟩ (fun _ h => by cases h)
theorem start0 (w : World) (v : Value) (n : Nat) (kind : Int) (cap o b : Nat) : HRel (.plain w) (ρH v n kind cap o b) .leaf 1 w :=
  ⟨(fun l k hl => by simp [Tr.get] at hl), (fun l l' k k' hl => by simp [Tr.get] at hl), (fun l k b hl => by simp [Tr.get] at hl), (fun i hi => by show (if i = 0 then some b else none) = none; rw [if_neg (by omega)]), (fun l hl => by cases hl), Nat.le_refl _, fun _ _ _ => rfl, rfl, rfl, rfl, trivial⟩
theorem tells_zero (w : World) (b o cap : Nat) (kind : Int) : Calls Tryd.prog 3 #[.slice (some ⟨b, o, none⟩) 0 cap, .int .i64 kind] w (fun e w' => e = .returned (.bool true) ∧ Framed w w') := by
  refine calls_true (β := .plain w) exts05_ok (spF_ok w) rfl Tryd.func3 rfl run3z (xs := [.slice (some ⟨b, o, none⟩) 0 cap, .int .i64 kind]) ?_ (start0 w undef 0 kind cap o b) (fun _ h => by cases h)
  have h0 : natOf ((IT.var 12).den (ρH undef 0 kind cap o b)) = some o := rfl
  have h1 : natOf ((IT.lit 0).den (ρH undef 0 kind cap o b)) = some 0 := rfl
  have h2 : natOf ((IT.var 11).den (ρH undef 0 kind cap o b)) = some cap := rfl
  have h3 : (ρH undef 0 kind cap o b).N 0 = some b := rfl
  simp only [AVal.denL, AVal.den, iI, h0, h1, h2, h3]; rfl
theorem tells_big (w : World) (n b o cap : Nat) (kind : Int) (hn : 100 < n) : Calls Tryd.prog 3 #[.slice (some ⟨b, o, none⟩) n cap, .int .i64 kind] w (fun e w' => e = .returned (.bool true) ∧ Framed w w') := by
  refine calls_true (β := .plain w) exts05_ok (spF_ok w) rfl Tryd.func3 rfl run3b (xs := [.slice (some ⟨b, o, none⟩) n cap, .int .i64 kind]) ?_ (start0 w undef n kind cap o b) (CRel_cons.2 ⟨?_, CRel_nil.2 trivial⟩)
  · simp only [AVal.denL, slD]; rfl
  · show some (decide ((n : Int) > 100)) = some true
    simp; omega

set_option maxRecDepth 100000 in
theorem readable3 : ∀ t ∈ Tryd.f3.params.toList, Tryd.prog.readableRec t = true ∧ t < Tryd.prog.types.size := by
  have h : ((Tryd.prog.readableRec 22 && Nat.blt 22 Tryd.prog.types.size) && (Tryd.prog.readableRec 3 && Nat.blt 3 Tryd.prog.types.size)) = true := by kernel_rfl
  simp only [Bool.and_eq_true] at h
  intro t ht
  rw [Tryd.params3] at ht
  have : t = 22 ∨ t = 3 := by simpa using ht
  rcases this with rfl | rfl
  · exact ⟨h.1.1, Nat.le_of_ble_eq_true h.1.2⟩
  · exact ⟨h.2.1, Nat.le_of_ble_eq_true h.2.2⟩
set_option maxRecDepth 100000 in
/-- WHAT THE WALK GIVES, FOR EVERY ARGUMENT. -/
theorem contract (H : Type) (enc : TypeId × Value → H) (W : World) (base : Nat) (args : Array Value) (ds gs : List (DataW H)) (before : List MemPlace)
    (hval : ∀ (j : Nat) t v, Tryd.f3.params[j]? = some t → args[j]? = some v → Value.okWide Tryd.prog W .any base t v)
    (hW : DataW.Whole enc Tryd.prog Tryd.f3.params.toList Rows.historyTellsSpec.vars false W args.toList ds gs before) (hTab : TabW W) :
    Calls Tryd.prog 3 args W fun e W' => ∃ v, e = .returned v ∧ Rows.historyTellsSpec.post enc Tryd.prog Tryd.f3 false true false false W args v W' := by
  have hW' := hW
  obtain ⟨p, q, hA0, hV, rfl, hfz, hnd⟩ := hW
  have hA : DataW.TrodAll enc Tryd.prog W 0 (fun _ => true) true Tryd.f3.params.toList args.toList ds p := hA0
  rw [Tryd.params3] at hA hval
  obtain ⟨v0, vs0, d0, ds0, p0, q0, hargs, rfl, rfl, h0, r0⟩ := trodAll_cons hA
  obtain ⟨v1, vs1, d1, ds1, p1, q1, rfl, rfl, rfl, h1, r1⟩ := trodAll_cons r0
  obtain ⟨rfl, rfl, rfl⟩ := trodAll_nil r1
  obtain rfl : args = #[v0, v1] := by cases args; simp_all
  have walk : Calls Tryd.prog 3 #[v0, v1] W fun e w' => e = .returned (.bool true) ∧ Framed W w' := by
    obtain ⟨kind, rfl, _, _, _⟩ := open_int Tryd.underlying3 (hval 1 3 v1 rfl rfl) h1
    rcases open_rowsR (ks := ksR) Tryd.underlying22 cells32 (by decide) flat32 (hval 0 22 v0 rfl rfl) h0 with rfl | ⟨b, o, len, cap, rfl, hlen, hrow⟩
    · exact tells_nil W kind
    · rcases Nat.eq_zero_or_pos len with rfl | hpos
      · exact tells_zero W b o cap kind
      · obtain ⟨u, hu, hin⟩ := hrow hpos
        rcases Nat.lt_or_ge 100 len with hbig | hsm
        · exact tells_big W len b o cap kind hbig
        · exact tells_walk W u len b o cap kind (recIn_of hin) hTab hsm hu
  refine walk.mono fun e W' ⟨he, hg⟩ => ⟨_, he, ?_⟩
  exact law_shut (tb := 4) laidOut readable3 (by kernel_rfl) Tryd.underlying4 hW' rfl rfl rfl rfl (below_of_framed hg)

/-- A table as its variable's memory bears it. -/
def cellsOfData : DataW Unit → Array Value
  | .agg l => (l.map fun d => match d with
    | .lit (.int k n) => Value.int k n
    | _ => Value.tuple #[]).toArray
  | _ => #[]
def lay (o : Obj) (d : DataW Unit) : Obj := match o with
  | .cells _ t frozen => .cells (cellsOfData d) t frozen
  | o => o
def args0 : Array Value := #[.slice none 0 0, .int .i64 0]
/-- A world for the witness: the tables hold what their initialisers lay. -/
noncomputable def laidWorld (os : Os) : World :=
  { World.holding Tryd.prog os ⟨#[], #[], []⟩ with heap := (((World.holding Tryd.prog os ⟨#[], #[], []⟩).heap.modify 6 fun o => lay o Rows.laid_math_bits_deBruijn32tab).modify 7 fun o => lay o Rows.laid_math_bits_deBruijn64tab).modify 1 fun o => lay o Rows.laid_internal_strconv_uint64pow10 }
theorem laid_met (os : Os) : laidMet Tryd.prog Rows.historyTellsRow.laid ((laidWorld os).forCall (fun _ _ => 0) ⟨#[], args0, []⟩).memory :=
  laidMet_of_run' 8 (by kernel_rfl) (by kernel_rfl)
theorem reads (os : Os) {H : Type} (enc : TypeId × Value → H) : ∃ places, DataW.whole enc Tryd.prog ((laidWorld os).forCall (fun _ _ => 0) ⟨#[], args0, []⟩).memory Tryd.f3.params.toList Rows.historyTellsSpec.vars false args0.toList 8 = some ([.nil, .lit (.int .i64 0)], [], places) :=
  ⟨[], by kernel_rfl⟩
set_option maxRecDepth 100000 in
theorem lifted (os : Os) (started : os.Started) (H : Type) (enc : TypeId × Value → H) (F : Stop.Interp) :
    ReturnsInHanded {} Tryd.checked os 3 .any ((OpenSpec.ofChange Rows.historyTellsSpec).preRow enc Tryd.prog Tryd.f3 Rows.historyTellsRow.domain false Rows.historyTellsRow.laid) (((OpenSpec.ofChange Rows.historyTellsSpec).at F).post enc Tryd.prog Tryd.f3 false true false false) := by
  obtain ⟨places, hx⟩ := reads os enc
  refine returnsInHanded_of_row (C := Tryd.checked) (s := OpenSpec.ofChange Rows.historyTellsSpec) own started (by kernel_rfl) Tryd.func3
    (witness_row_at (enc := enc) (C := Tryd.checked) false (laidWorld os) args0 rfl (by kernel_rfl) (by kernel_rfl) (by kernel_rfl)
      (OpenSpec.preRow_of_cond 8 hx (by kernel_rfl) (fun k hk => by cases hk) (by kernel_rfl) (laid_met os))) ?_
  intro W base args ds gs before hval hW _ _ _ hL _ _
  exact contract H enc W base args ds gs before hval hW (tabW_laid hL)
theorem said : Rows.HistoryTellsSaid :=
  OpenClaim.holds_of_cond 3 Tryd.f3 rfl rfl rfl rfl rfl rfl rfl ⟨rfl, rfl, rfl, rfl, rfl⟩ rfl rfl rfl rfl rfl (by kernel_rfl) Tryd.func3 (by kernel_rfl)
    (of_decide_eq_true (by kernel_rfl)) (by unfold Func.isWrapper; first | (rw [if_pos (by decide +kernel)]; kernel_rfl) | (rw [if_neg (by decide +kernel)]; exact ⟨rfl, rfl⟩))
    (fun os started H enc _ F => by rw [OpenClaim.pre_eq_preRow]; exact lifted os started H enc F)
theorem plain (f : FuncId) (fn : Func) (hf : Tryd.pinned.checked.prog.funcNamed "roundelay/roundelaylaw27.HistoryTells" = some f) (hfn : Tryd.pinned.checked.prog.funcs[f]? = some fn) :
    true = Tryd.pinned.checked.prog.looks [] ∧ ∀ (j : Nat) t, fn.params[j]? = some t → Tryd.pinned.checked.prog.wantsStandIn t = false := by
  obtain rfl : f = 3 := Option.some.inj ((show Tryd.prog.funcNamed "roundelay/roundelaylaw27.HistoryTells" = some 3 by kernel_rfl).symm.trans hf) |>.symm
  obtain rfl : fn = Tryd.f3 := (Option.some.inj (Tryd.func3.symm.trans hfn)).symm
  refine ⟨by kernel_rfl, fun j t ht => ?_⟩
  rw [Tryd.params3] at ht
  have : t = 22 ∨ t = 3 := by simpa using Array.mem_of_getElem? ht
  rcases this with rfl | rfl
  · exact (show Tryd.prog.wantsStandIn 22 = false by kernel_rfl)
  · exact (show Tryd.prog.wantsStandIn 3 = false by kernel_rfl)
end Ht
/-- THE CARD. -/
theorem cardT : Rows.HistoryTellsCardSaid :=
  Claim7.holds_tied_plain_at .later [] _ _ _ _ Ht.said (fun _ h => by cases h) (by kernel_rfl) (fun _ h => by cases h) historyTells_row_tie rfl ⟨rfl, rfl⟩ (by kernel_rfl) rfl Ht.plain (by kernel_rfl)
end Go.Proofs.YtagdcclpibjfoaaDoor
