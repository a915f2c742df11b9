/-
  Ops (8): OpsBack's row and card.
-/
import Derived.Test.YtagdcclpibjfoaaDoorOu5
import Derived.Test.YtagdcclpibjfoaaDoorTx15
import Derived.Lib.SmallJoins
namespace Go.Proofs.YtagdcclpibjfoaaDoor
open Go.ChangeShapes Go.WideShapes Go.ChangeAt Go.RowKit Go.Vm Go.Joins Txt

def argsB : Array Value := #[.agg #[.int .i64 0, .int .i64 0, .int .i64 0, .int .i64 0], .agg #[.int .i64 0, .int .i64 0, .int .i64 0, .int .i64 0], .agg #[.int .i64 0, .int .i64 0]]
theorem laid_metB (os : Os) : laidMet Tryd.prog Rows.opsBackRow.laid ((laidWorld05 os).forCall (fun _ _ => 0) ⟨#[], argsB, []⟩).memory :=
  laidMet_of_run' 8 (by kernel_rfl) (by kernel_rfl)
theorem readsB (os : Os) {H : Type} (enc : TypeId × Value → H) : ∃ places, DataW.whole enc Tryd.prog ((laidWorld05 os).forCall (fun _ _ => 0) ⟨#[], argsB, []⟩).memory Tryd.f12.params.toList Rows.opsBackSpec.vars false argsB.toList 8 =
    some ([.agg [.lit (.int .i64 0), .lit (.int .i64 0), .lit (.int .i64 0), .lit (.int .i64 0)], .agg [.lit (.int .i64 0), .lit (.int .i64 0), .lit (.int .i64 0), .lit (.int .i64 0)], .agg [.lit (.int .i64 0), .lit (.int .i64 0)]], [], places) :=
  ⟨[], by kernel_rfl⟩
set_option maxRecDepth 100000 in
theorem readable12 : ∀ t ∈ Tryd.f12.params.toList, Tryd.prog.readableRec t = true ∧ t < Tryd.prog.types.size := by
  have h : ((Tryd.prog.readableRec 26 && Nat.blt 26 Tryd.prog.types.size) && (Tryd.prog.readableRec 28 && Nat.blt 28 Tryd.prog.types.size)) = true := by kernel_rfl
  simp only [Bool.and_eq_true] at h
  intro t ht
  rw [Tryd.params12] at ht
  have : t = 26 ∨ t = 28 := by simpa using ht
  rcases this with rfl | rfl
  · exact ⟨h.1.1, Nat.le_of_ble_eq_true h.1.2⟩
  · exact ⟨h.2.1, Nat.le_of_ble_eq_true h.2.2⟩

theorem one_i64 {H : Type} {enc : TypeId × Value → H} {P : Program} {W : World} {base : Nat} {sp : Nat → Bool} {held : Bool} {n : Nat} {t : TypeId} {c : Value} {y : DataW H × List MemPlace} (ht : P.underlying t = some (.int .i64)) (h : DataW.trod enc P W base sp held n t [c] = some y) :
    ∃ z, c = .int .i64 z ∧ (-9223372036854775808 ≤ z ∧ z < 9223372036854775808) := by
  obtain ⟨z, hz, _, hw⟩ := DataW.trod_int ht h
  simp only [List.cons.injEq, and_true] at hz
  simp only [Lit.wf, Bool.and_eq_true, decide_eq_true_eq] at hw
  have h1 : IntKind.i64.min = -9223372036854775808 := by decide
  have h2 : IntKind.i64.max = 9223372036854775807 := by decide
  exact ⟨z, hz, by omega, by omega⟩

set_option maxRecDepth 100000 in
/-- WHAT THE WALK GIVES, FOR EVERY ARGUMENT. -/
theorem contractB (H : Type) (enc : TypeId × Value → H) (W : World) (base : Nat) (args : Array Value) (ds gs : List (DataW H)) (before : List MemPlace)
    (hval : ∀ (j : Nat) t v, Tryd.f12.params[j]? = some t → args[j]? = some v → Value.okWide Tryd.prog W .any base t v)
    (hW : DataW.Whole enc Tryd.prog Tryd.f12.params.toList Rows.opsBackSpec.vars false W args.toList ds gs before) (hT : TabW W) (hM : MaxW W) :
    Calls Tryd.prog 12 args W fun e W' => ∃ v, e = .returned v ∧ Rows.opsBackSpec.post enc Tryd.prog Tryd.f12 false true false false W args v W' := by
  have hW' := hW
  obtain ⟨p, q, hA0, hV, rfl, hfz, hnd⟩ := hW
  have hA : DataW.TrodAll enc Tryd.prog W 0 (fun _ => true) true Tryd.f12.params.toList args.toList ds p := hA0
  rw [Tryd.params12] at hA hval
  obtain ⟨v0, vs0, d0, ds0, p0, q0, hargs, rfl, rfl, h0, r0⟩ := trodAll_cons hA
  obtain ⟨v1, vs1, d1, ds1, p1, q1, rfl, rfl, rfl, h1, r1⟩ := trodAll_cons r0
  obtain ⟨v2, vs2, d2, ds2, p2, q2, rfl, rfl, rfl, h2, r2⟩ := trodAll_cons r1
  obtain ⟨rfl, rfl, rfl⟩ := trodAll_nil r2
  obtain rfl : args = #[v0, v1, v2] := by cases args; simp_all
  have walk : Calls Tryd.prog 12 #[v0, v1, v2] W fun e w' => e = .returned (.bool true) ∧ Framed W w' := by
    obtain ⟨c0, c1, c2, c3, y0, y1, y2, y3, n, rfl, _, _, g0, g1, g2, g3⟩ := open_agg4 Tryd.underlying26 (by kernel_rfl) (by kernel_rfl) (hval 0 26 v0 rfl rfl) h0
    obtain ⟨b0, b1, b2, b3, x0, x1, x2, x3, m, rfl, _, _, f0, f1, f2, f3⟩ := open_agg4 Tryd.underlying26 (by kernel_rfl) (by kernel_rfl) (hval 1 26 v1 rfl rfl) h1
    obtain ⟨k0, k1, z0, z1, n', rfl, _, _, e0, e1⟩ := open_agg2 Tryd.underlying28 (by kernel_rfl) (by kernel_rfl) (hval 2 28 v2 rfl rfl) h2
    obtain ⟨_, rfl, l0⟩ := one_i64 Tryd.underlying3 g0
    obtain ⟨_, rfl, l1⟩ := one_i64 Tryd.underlying3 g1
    obtain ⟨_, rfl, l2⟩ := one_i64 Tryd.underlying3 g2
    obtain ⟨_, rfl, l3⟩ := one_i64 Tryd.underlying3 g3
    obtain ⟨_, rfl, l4⟩ := one_i64 Tryd.underlying3 f0
    obtain ⟨_, rfl, l5⟩ := one_i64 Tryd.underlying3 f1
    obtain ⟨_, rfl, l6⟩ := one_i64 Tryd.underlying3 f2
    obtain ⟨_, rfl, l7⟩ := one_i64 Tryd.underlying3 f3
    obtain ⟨_, rfl, l8⟩ := one_i64 Tryd.underlying3 e0
    obtain ⟨_, rfl, l9⟩ := one_i64 Tryd.underlying3 e1
    refine back_walk W hT hM fun x hx => ?_
    simp only [List.mem_cons, List.not_mem_nil, or_false] at hx
    rcases hx with rfl | rfl | rfl | rfl | rfl | rfl | rfl | rfl | rfl | rfl
    · exact l0
    · exact l1
    · exact l2
    · exact l3
    · exact l4
    · exact l5
    · exact l6
    · exact l7
    · exact l8
    · exact l9
  refine walk.mono fun e W' ⟨he, hg⟩ => ⟨_, he, ?_⟩
  exact law_shut (tb := 4) laidOut05 readable12 (by kernel_rfl) Tryd.underlying4 hW' rfl rfl rfl rfl (below_of_framed hg)

set_option maxRecDepth 100000 in
theorem liftedB (os : Os) (started : os.Started) (H : Type) (enc : TypeId × Value → H) (F : Stop.Interp) :
    ReturnsInHanded {} Tryd.checked os 12 .any ((OpenSpec.ofChange Rows.opsBackSpec).preRow enc Tryd.prog Tryd.f12 Rows.opsBackRow.domain false Rows.opsBackRow.laid) (((OpenSpec.ofChange Rows.opsBackSpec).at F).post enc Tryd.prog Tryd.f12 false true false false) := by
  obtain ⟨places, hx⟩ := readsB os enc
  refine returnsInHanded_of_row (C := Tryd.checked) (s := OpenSpec.ofChange Rows.opsBackSpec) own05 started (by kernel_rfl) Tryd.func12
    (witness_row_at (enc := enc) (C := Tryd.checked) false (laidWorld05 os) argsB rfl (by kernel_rfl) (by kernel_rfl) (by kernel_rfl)
      (OpenSpec.preRow_of_cond 8 hx (by kernel_rfl) (fun k hk => by cases hk) (by kernel_rfl) (laid_metB os))) ?_
  intro W base args ds gs before hval hW _ _ _ hL hS _
  exact contractB H enc W base args ds gs before hval hW (tabW_laid hL) (maxW_shape hS)

theorem saidB : Rows.OpsBackSaid :=
  OpenClaim.holds_of_cond 12 Tryd.f12 rfl rfl rfl rfl rfl rfl rfl ⟨rfl, rfl, rfl, rfl, rfl⟩ rfl rfl rfl rfl rfl (by kernel_rfl) Tryd.func12 (by kernel_rfl)
    (of_decide_eq_true (by kernel_rfl)) (by unfold Func.isWrapper; first | (rw [if_pos (by decide +kernel)]; kernel_rfl) | (rw [if_neg (by decide +kernel)]; exact ⟨rfl, rfl⟩))
    (fun os started H enc _ F => by rw [OpenClaim.pre_eq_preRow]; exact liftedB os started H enc F)

theorem plainB (f : FuncId) (fn : Func) (hf : Tryd.pinned.checked.prog.funcNamed "roundelay/roundelaylaw05.OpsBack" = some f) (hfn : Tryd.pinned.checked.prog.funcs[f]? = some fn) :
    true = Tryd.pinned.checked.prog.looks [] ∧ ∀ (j : Nat) t, fn.params[j]? = some t → Tryd.pinned.checked.prog.wantsStandIn t = false := by
  obtain rfl : f = 12 := Option.some.inj ((show Tryd.prog.funcNamed "roundelay/roundelaylaw05.OpsBack" = some 12 by kernel_rfl).symm.trans hf) |>.symm
  obtain rfl : fn = Tryd.f12 := (Option.some.inj (Tryd.func12.symm.trans hfn)).symm
  refine ⟨by kernel_rfl, fun j t ht => ?_⟩
  rw [Tryd.params12] at ht
  have : t = 26 ∨ t = 28 := by simpa using Array.mem_of_getElem? ht
  rcases this with rfl | rfl
  · exact (show Tryd.prog.wantsStandIn 26 = false by kernel_rfl)
  · exact (show Tryd.prog.wantsStandIn 28 = false by kernel_rfl)

/-- THE CARD. -/
theorem cardB : Rows.OpsBackCardSaid :=
  Claim7.holds_tied_plain_at .later [] _ _ _ _ saidB (fun _ h => by cases h) (by kernel_rfl) (fun _ h => by cases h) opsBack_row_tie rfl ⟨rfl, rfl⟩ (by kernel_rfl) rfl plainB (by kernel_rfl)

end Go.Proofs.YtagdcclpibjfoaaDoor
