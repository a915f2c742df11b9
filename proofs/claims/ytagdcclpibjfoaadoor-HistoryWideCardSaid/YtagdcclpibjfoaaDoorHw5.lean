/-
  HistoryWide (5): a row of records; the row and the card.
-/
import Derived.Test.YtagdcclpibjfoaaDoorHw4
import Derived.Test.YtagdcclpibjfoaaDoorSl
import Derived.Lib.SmallJoins
namespace Go.Proofs.YtagdcclpibjfoaaDoor
open Go.ChangeShapes Go.WideShapes Go.ChangeAt Go.RowKit Go.Vm

theorem list12 {α : Type} {l : List α} (h : l.length = 12) : ∃ a0 a1 a2 a3 a4 a5 a6 a7 a8 a9 a10 a11, l = [a0, a1, a2, a3, a4, a5, a6, a7, a8, a9, a10, a11] := by
  match l, h with
  | [a0, a1, a2, a3, a4, a5, a6, a7, a8, a9, a10, a11], _ => exact ⟨_, _, _, _, _, _, _, _, _, _, _, _, rfl⟩
theorem list16 {α : Type} {l : List α} (h : l.length = 16) : ∃ a0 a1 a2 a3 a4 a5 a6 a7 a8 a9 a10 a11 a12 a13 a14 a15, l = [a0, a1, a2, a3, a4, a5, a6, a7, a8, a9, a10, a11, a12, a13, a14, a15] := by
  match l, h with
  | [a0, a1, a2, a3, a4, a5, a6, a7, a8, a9, a10, a11, a12, a13, a14, a15], _ => exact ⟨_, _, _, _, _, _, _, _, _, _, _, _, _, _, _, _, rfl⟩
theorem list4 {α : Type} {l : List α} (h : l.length = 4) : ∃ a0 a1 a2 a3, l = [a0, a1, a2, a3] := by
  match l, h with
  | [a0, a1, a2, a3], _ => exact ⟨_, _, _, _, rfl⟩
theorem list2 {α : Type} {l : List α} (h : l.length = 2) : ∃ a0 a1, l = [a0, a1] := by
  match l, h with
  | [a0, a1], _ => exact ⟨_, _, rfl⟩
theorem cells32 : Tryd.prog.cellsOf 32 = 16 := by kernel_rfl

set_option maxRecDepth 100000 in
theorem rec_elem : ElemOk Tryd.prog 32 ksR := by
  intro H enc W base sp held fuel cs x hlen hf
  obtain ⟨c0, c1, c2, c3, c4, c5, c6, c7, c8, c9, c10, c11, c12, c13, c14, c15, rfl⟩ := list16 (l := cs) hlen
  cases fuel with
  | zero => simp [DataW.trod] at hf
  | succ fuel =>
    obtain ⟨xs, n, _, _, _, hlen', hg⟩ := DataW.trod_struct Tryd.underlying32 hf
    obtain ⟨y0, y1, y2, y3, y4, y5, y6, y7, y8, y9, y10, y11, rfl⟩ := list12 hlen'
    have g0 := hg 0 _ rfl
    have g1 := hg 1 _ rfl
    have g2 := hg 2 _ rfl
    have g3 := hg 3 _ rfl
    have g4 := hg 4 _ rfl
    have g5 := hg 5 _ rfl
    have g6 := hg 6 _ rfl
    have g7 := hg 7 _ rfl
    have g8 := hg 8 _ rfl
    have g9 := hg 9 _ rfl
    have g10 := hg 10 _ rfl
    have g11 := hg 11 _ rfl
    simp only [List.getElem?_cons_succ, List.getElem?_cons_zero] at g0 g1 g2 g3 g4 g5 g6 g7 g8 g9 g10 g11
    obtain ⟨z0, rfl⟩ := one_int Tryd.underlying3 g0
    obtain ⟨z1, rfl⟩ := one_int Tryd.underlying3 g1
    obtain ⟨z6, rfl⟩ := one_int Tryd.underlying3 g3
    obtain ⟨z7, rfl⟩ := one_int Tryd.underlying3 g4
    obtain ⟨z8, rfl⟩ := one_int Tryd.underlying3 g5
    obtain ⟨z11, rfl⟩ := one_int Tryd.underlying29 g7
    obtain ⟨z12, rfl⟩ := one_int Tryd.underlying3 g8
    obtain ⟨z13, rfl⟩ := one_int Tryd.underlying3 g9
    obtain ⟨z14, rfl⟩ := one_int Tryd.underlying3 g10
    obtain ⟨z15, rfl⟩ := one_int Tryd.underlying30 g11
    obtain ⟨xs2, n2, _, _, _, hlen2, hg2⟩ := DataW.trod_struct Tryd.underlying26 g2
    obtain ⟨u0, u1, u2, u3, rfl⟩ := list4 hlen2
    have k0 := hg2 0 _ rfl
    have k1 := hg2 1 _ rfl
    have k2 := hg2 2 _ rfl
    have k3 := hg2 3 _ rfl
    obtain ⟨xs3, n3, _, _, _, hlen3, hg3⟩ := DataW.trod_struct Tryd.underlying28 g6
    obtain ⟨v0, v1, rfl⟩ := list2 hlen3
    have m0 := hg3 0 _ rfl
    have m1 := hg3 1 _ rfl
    simp only [List.getElem?_cons_succ, List.getElem?_cons_zero] at k0 k1 k2 k3 m0 m1
    obtain ⟨z2, rfl⟩ := one_int Tryd.underlying3 k0
    obtain ⟨z3, rfl⟩ := one_int Tryd.underlying3 k1
    obtain ⟨z4, rfl⟩ := one_int Tryd.underlying3 k2
    obtain ⟨z5, rfl⟩ := one_int Tryd.underlying3 k3
    obtain ⟨z9, rfl⟩ := one_int Tryd.underlying3 m0
    obtain ⟨z10, rfl⟩ := one_int Tryd.underlying3 m1
    intro j k hk
    match j, hk with
    | 0, hk => cases hk; exact ⟨z0, rfl⟩
    | 1, hk => cases hk; exact ⟨z1, rfl⟩
    | 2, hk => cases hk; exact ⟨z2, rfl⟩
    | 3, hk => cases hk; exact ⟨z3, rfl⟩
    | 4, hk => cases hk; exact ⟨z4, rfl⟩
    | 5, hk => cases hk; exact ⟨z5, rfl⟩
    | 6, hk => cases hk; exact ⟨z6, rfl⟩
    | 7, hk => cases hk; exact ⟨z7, rfl⟩
    | 8, hk => cases hk; exact ⟨z8, rfl⟩
    | 9, hk => cases hk; exact ⟨z9, rfl⟩
    | 10, hk => cases hk; exact ⟨z10, rfl⟩
    | 11, hk => cases hk; exact ⟨z11, rfl⟩
    | 12, hk => cases hk; exact ⟨z12, rfl⟩
    | 13, hk => cases hk; exact ⟨z13, rfl⟩
    | 14, hk => cases hk; exact ⟨z14, rfl⟩
    | 15, hk => cases hk; exact ⟨z15, rfl⟩
    | j + 16, hk => simp [ksR] at hk

theorem own : ownKnob Tryd.prog.godebug = none := by kernel_rfl
theorem laidOut : laidOutB Tryd.prog = true := by kernel_rfl
set_option maxRecDepth 100000 in
theorem readable4 : ∀ t ∈ Tryd.f4.params.toList, Tryd.prog.readableRec t = true ∧ t < Tryd.prog.types.size := by
  have h : (Tryd.prog.readableRec 22 && Nat.blt 22 Tryd.prog.types.size) = true := by kernel_rfl
  simp only [Bool.and_eq_true] at h
  intro t ht
  rw [Tryd.params4] at ht
  have : t = 22 := by simpa using ht
  subst this
  exact ⟨h.1, Nat.le_of_ble_eq_true h.2⟩

set_option maxRecDepth 100000 in
/-- WHAT THE WALK GIVES, FOR EVERY ARGUMENT. -/
theorem contract (H : Type) (enc : TypeId × Value → H) (W : World) (base : Nat) (args : Array Value) (ds gs : List (DataW H)) (before : List MemPlace)
    (hval : ∀ (j : Nat) t v, Tryd.f4.params[j]? = some t → args[j]? = some v → Value.okWide Tryd.prog W .any base t v)
    (hW : DataW.Whole enc Tryd.prog Tryd.f4.params.toList Rows.historyWideSpec.vars false W args.toList ds gs before) :
    Calls Tryd.prog 4 args W fun e W' => ∃ v, e = .returned v ∧ Rows.historyWideSpec.post enc Tryd.prog Tryd.f4 false true false false W args v W' := by
  have hW' := hW
  obtain ⟨p, q, hA0, hV, rfl, hfz, hnd⟩ := hW
  have hA : DataW.TrodAll enc Tryd.prog W 0 (fun _ => true) true Tryd.f4.params.toList args.toList ds p := hA0
  rw [Tryd.params4] at hA hval
  obtain ⟨v0, vs0, d0, ds0, p0, q0, hargs, rfl, rfl, h0, r0⟩ := trodAll_cons hA
  obtain ⟨rfl, rfl, rfl⟩ := trodAll_nil r0
  obtain rfl : args = #[v0] := by cases args; simp_all
  have walk : Calls Tryd.prog 4 #[v0] W fun e w' => e = .returned (.bool true) ∧ Framed W w' := by
    rcases open_rows (ks := ksR) Tryd.underlying22 cells32 (by decide) rec_elem (hval 0 22 v0 rfl rfl) h0 with rfl | ⟨b, o, len, cap, rfl, hlen, hrow⟩
    · exact wide_nil W
    · rcases Nat.eq_zero_or_pos len with rfl | hpos
      · exact wide_zero W b o cap
      · obtain ⟨u, hu⟩ := hrow hpos
        exact wide_walk W u len b o cap hlen hu
  refine walk.mono fun e W' ⟨he, hg⟩ => ⟨_, he, ?_⟩
  exact law_shut (tb := 4) laidOut readable4 (by kernel_rfl) Tryd.underlying4 hW' rfl rfl rfl rfl (below_of_framed hg)

/-- A table as its variable's memory bears it. -/
def cellsOfData : DataW Unit → Array Value
  | .agg l => (l.map fun d => match d with
    | .lit (.int k n) => Value.int k n
    | _ => Value.tuple #[]).toArray
  | _ => #[]
def lay (o : Obj) (d : DataW Unit) : Obj := match o with
  | .cells _ t frozen => .cells (cellsOfData d) t frozen
  | o => o
def args0 : Array Value := #[.slice none 0 0]
/-- A world for the witness: the tables hold what their initialisers lay. -/
noncomputable def laidWorld (os : Os) : World :=
  { World.holding Tryd.prog os ⟨#[], #[], []⟩ with heap := (((World.holding Tryd.prog os ⟨#[], #[], []⟩).heap.modify 6 fun o => lay o Rows.laid_math_bits_deBruijn32tab).modify 7 fun o => lay o Rows.laid_math_bits_deBruijn64tab).modify 1 fun o => lay o Rows.laid_internal_strconv_uint64pow10 }
theorem laid_met (os : Os) : laidMet Tryd.prog Rows.historyWideRow.laid ((laidWorld os).forCall (fun _ _ => 0) ⟨#[], args0, []⟩).memory :=
  laidMet_of_run' 8 (by kernel_rfl) (by kernel_rfl)
theorem reads (os : Os) {H : Type} (enc : TypeId × Value → H) : ∃ places, DataW.whole enc Tryd.prog ((laidWorld os).forCall (fun _ _ => 0) ⟨#[], args0, []⟩).memory Tryd.f4.params.toList Rows.historyWideSpec.vars false args0.toList 8 = some ([.nil], [], places) :=
  ⟨[], by kernel_rfl⟩

set_option maxRecDepth 100000 in
theorem lifted (os : Os) (started : os.Started) (H : Type) (enc : TypeId × Value → H) (F : Stop.Interp) :
    ReturnsInHanded {} Tryd.checked os 4 .any ((OpenSpec.ofChange Rows.historyWideSpec).preRow enc Tryd.prog Tryd.f4 Rows.historyWideRow.domain false Rows.historyWideRow.laid) (((OpenSpec.ofChange Rows.historyWideSpec).at F).post enc Tryd.prog Tryd.f4 false true false false) := by
  obtain ⟨places, hx⟩ := reads os enc
  refine returnsInHanded_of_row (C := Tryd.checked) (s := OpenSpec.ofChange Rows.historyWideSpec) own started (by kernel_rfl) Tryd.func4
    (witness_row_at (enc := enc) (C := Tryd.checked) false (laidWorld os) args0 rfl (by kernel_rfl) (by kernel_rfl) (by kernel_rfl)
      (OpenSpec.preRow_of_cond 8 hx (by kernel_rfl) (fun k hk => by cases hk) (by kernel_rfl) (laid_met os))) ?_
  intro W base args ds gs before hval hW _ _ _ hL _ _
  exact contract H enc W base args ds gs before hval hW

theorem said : Rows.HistoryWideSaid :=
  OpenClaim.holds_of_cond 4 Tryd.f4 rfl rfl rfl rfl rfl rfl rfl ⟨rfl, rfl, rfl, rfl, rfl⟩ rfl rfl rfl rfl rfl (by kernel_rfl) Tryd.func4 (by kernel_rfl)
    (of_decide_eq_true (by kernel_rfl)) (by unfold Func.isWrapper; first | (rw [if_pos (by decide +kernel)]; kernel_rfl) | (rw [if_neg (by decide +kernel)]; exact ⟨rfl, rfl⟩))
    (fun os started H enc _ F => by rw [OpenClaim.pre_eq_preRow]; exact lifted os started H enc F)

theorem plain (f : FuncId) (fn : Func) (hf : Tryd.pinned.checked.prog.funcNamed "roundelay/roundelaylaw27.HistoryWide" = some f) (hfn : Tryd.pinned.checked.prog.funcs[f]? = some fn) :
    true = Tryd.pinned.checked.prog.looks [] ∧ ∀ (j : Nat) t, fn.params[j]? = some t → Tryd.pinned.checked.prog.wantsStandIn t = false := by
  obtain rfl : f = 4 := Option.some.inj ((show Tryd.prog.funcNamed "roundelay/roundelaylaw27.HistoryWide" = some 4 by kernel_rfl).symm.trans hf) |>.symm
  obtain rfl : fn = Tryd.f4 := (Option.some.inj (Tryd.func4.symm.trans hfn)).symm
  refine ⟨by kernel_rfl, fun j t ht => ?_⟩
  rw [Tryd.params4] at ht
  obtain rfl : t = 22 := by simpa using Array.mem_of_getElem? ht
  exact (show Tryd.prog.wantsStandIn 22 = false by kernel_rfl)

/-- THE CARD. -/
theorem cardW : Rows.HistoryWideCardSaid :=
  Claim7.holds_tied_plain_at .later [] _ _ _ _ said (fun _ h => by cases h) (by kernel_rfl) (fun _ h => by cases h) historyWide_row_tie rfl ⟨rfl, rfl⟩ (by kernel_rfl) rfl plain (by kernel_rfl)

end Go.Proofs.YtagdcclpibjfoaaDoor
