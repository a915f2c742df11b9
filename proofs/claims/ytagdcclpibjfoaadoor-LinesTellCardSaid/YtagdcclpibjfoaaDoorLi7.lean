/-
  Lines (7): LinesTell's row and card.
-/
import Derived.Test.YtagdcclpibjfoaaDoorLi6
import Derived.Test.YtagdcclpibjfoaaDoorOt8
import Derived.Test.YtagdcclpibjfoaaDoorRw
namespace Go.Proofs.YtagdcclpibjfoaaDoor
open Go.ChangeShapes Go.WideShapes Go.ChangeAt Go.RowKit Go.Vm Go.Joins Txt
namespace Ln

-- ROW AND CARD
theorem open_flat {H : Type} {enc : TypeId × Value → H} {P : Program} {W : World} {base : Nat} {sp : Nat → Bool} {held : Bool} {r : Reach} {b0 f : Nat} {t : TypeId} {fs : Array Field} {ks : List IntKind} {v : Value} {d : DataW H} {p : List MemPlace} (hs : P.underlying t = some (.struct fs)) (he : flat P f t = some ks)
    (hv : Value.okWide P W r b0 t v) (h : DataW.Trod enc P W base sp held t v d p) : ∃ cs : List Value, v = .agg cs.toArray ∧ CellOk ks cs := by
  obtain ⟨cs, rfl, _⟩ := okWide_struct hs hv
  obtain ⟨fuel, hf⟩ := h
  refine ⟨cs.toList, by simp, flat_ok (W := W) (base := base) (sp := sp) (held := held) (enc := enc) f t ks fuel cs.toList (d, p) he ?_⟩
  simpa [Value.cells] using hf
theorem i64_rng {z : Int} (h1 : IntKind.i64.min ≤ z) (h2 : z ≤ IntKind.i64.max) : InJ z := by
  have e1 : IntKind.i64.min = -9223372036854775808 := by decide
  have e2 : IntKind.i64.max = 9223372036854775807 := by decide
  exact ⟨by omega, by omega⟩
theorem open_ev {cs : List Value} (h : CellOk [.i64, .i64, .i64, .i64, .i64, .i64, .i64, .i64] cs) : ∃ e : Evt, Value.agg cs.toArray = evV e ∧ EvIn e := by
  obtain ⟨hl, hk⟩ := h
  obtain ⟨a0, a1, a2, a3, a4, a5, a6, a7, rfl⟩ := list8 hl
  obtain ⟨z0, e0, r0, s0⟩ := hk 0 .i64 rfl
  obtain ⟨z1, e1, r1, s1⟩ := hk 1 .i64 rfl
  obtain ⟨z2, e2, r2, s2⟩ := hk 2 .i64 rfl
  obtain ⟨z3, e3, r3, s3⟩ := hk 3 .i64 rfl
  obtain ⟨z4, e4, r4, s4⟩ := hk 4 .i64 rfl
  obtain ⟨z5, e5, r5, s5⟩ := hk 5 .i64 rfl
  obtain ⟨z6, e6, r6, s6⟩ := hk 6 .i64 rfl
  obtain ⟨z7, e7, r7, s7⟩ := hk 7 .i64 rfl
  cases e0; cases e1; cases e2; cases e3; cases e4; cases e5; cases e6; cases e7
  exact ⟨⟨z0, z1, z2, z3, z4, z5, z6, z7⟩, rfl, i64_rng r0 s0, i64_rng r1 s1, i64_rng r2 s2, i64_rng r3 s3, i64_rng r4 s4, i64_rng r5 s5, i64_rng r6 s6, i64_rng r7 s7⟩
theorem open_an {cs : List Value} (h : CellOk [.i64, .i64] cs) : ∃ er st : Int, Value.agg cs.toArray = .agg #[.int .i64 er, .int .i64 st] ∧ InJ er ∧ InJ st := by
  obtain ⟨hl, hk⟩ := h
  match cs, hl with
  | [a0, a1], _ =>
    obtain ⟨z0, e0, r0, s0⟩ := hk 0 .i64 rfl
    obtain ⟨z1, e1, r1, s1⟩ := hk 1 .i64 rfl
    cases e0; cases e1
    exact ⟨z0, z1, rfl, i64_rng r0 s0, i64_rng r1 s1⟩
theorem flat77 : flat Tryd.prog 4 77 = some [.i64, .i64, .i64, .i64, .i64, .i64, .i64, .i64] := by kernel_rfl
theorem flat79 : flat Tryd.prog 4 79 = some [.i64, .i64] := by kernel_rfl
theorem struct_of {P : Program} {n : Nat} {t : TypeId} {ks : List IntKind} (h : flat P n t = some ks) (h2 : 2 ≤ ks.length) : ∃ fs, P.underlying t = some (.struct fs) := by
  cases n with
  | zero => cases h
  | succ n =>
    simp only [flat] at h
    split at h
    · cases h; simp at h2
    · exact ⟨_, by assumption⟩
    · cases h
def z8v : Value := .agg #[.int .i64 0, .int .i64 0, .int .i64 0, .int .i64 0, .int .i64 0, .int .i64 0, .int .i64 0, .int .i64 0]
def args0 : Array Value := #[z8v, .string ⟨#[]⟩, .agg #[.int .i64 0, .int .i64 0]]
theorem laid_met (os : Os) : laidMet Tryd.prog Rows.linesTellRow.laid ((laidWorld05 os).forCall (fun _ _ => 0) ⟨#[], args0, []⟩).memory :=
  laidMet_of_run' 8 (by kernel_rfl) (by kernel_rfl)
theorem reads (os : Os) {H : Type} (enc : TypeId × Value → H) : ∃ places, DataW.whole enc Tryd.prog ((laidWorld05 os).forCall (fun _ _ => 0) ⟨#[], args0, []⟩).memory Tryd.f13.params.toList Rows.linesTellSpec.vars false args0.toList 8 =
    some ([.agg [.lit (.int .i64 0), .lit (.int .i64 0), .lit (.int .i64 0), .lit (.int .i64 0), .agg [.lit (.int .i64 0), .lit (.int .i64 0), .lit (.int .i64 0), .lit (.int .i64 0)]], .lit (.string []), .agg [.lit (.int .i64 0), .lit (.int .i64 0)]], [], places) :=
  ⟨[], by kernel_rfl⟩
set_option maxRecDepth 100000 in
theorem readable13 : ∀ t ∈ Tryd.f13.params.toList, Tryd.prog.readableRec t = true ∧ t < Tryd.prog.types.size := by
  have h : ((Tryd.prog.readableRec 77 && Nat.blt 77 Tryd.prog.types.size) && (Tryd.prog.readableRec 9 && Nat.blt 9 Tryd.prog.types.size) && (Tryd.prog.readableRec 79 && Nat.blt 79 Tryd.prog.types.size)) = true := by kernel_rfl
  simp only [Bool.and_eq_true] at h
  intro t ht
  rw [Tryd.params13] at ht
  have : t = 77 ∨ t = 9 ∨ t = 79 := by simpa using ht
  rcases this with rfl | rfl | rfl
  · exact ⟨h.1.1.1, Nat.le_of_ble_eq_true h.1.1.2⟩
  · exact ⟨h.1.2.1, Nat.le_of_ble_eq_true h.1.2.2⟩
  · exact ⟨h.2.1, Nat.le_of_ble_eq_true h.2.2⟩
set_option maxRecDepth 100000 in
/-- WHAT THE WALK GIVES, FOR EVERY ARGUMENT. -/
theorem contract (H : Type) (enc : TypeId × Value → H) (W : World) (base : Nat) (args : Array Value) (ds gs : List (DataW H)) (before : List MemPlace)
    (hval : ∀ (j : Nat) t v, Tryd.f13.params[j]? = some t → args[j]? = some v → Value.okWide Tryd.prog W .any base t v)
    (hW : DataW.Whole enc Tryd.prog Tryd.f13.params.toList Rows.linesTellSpec.vars false W args.toList ds gs before) (hT : TabW W) (hM : MaxW W) (hE : ErrW W) :
    Calls Tryd.prog 13 args W fun e W' => ∃ v, e = .returned v ∧ Rows.linesTellSpec.post enc Tryd.prog Tryd.f13 false true false false W args v W' := by
  have hW' := hW
  obtain ⟨p, q, hA0, hV, rfl, hfz, hnd⟩ := hW
  have hA : DataW.TrodAll enc Tryd.prog W 0 (fun _ => true) true Tryd.f13.params.toList args.toList ds p := hA0
  rw [Tryd.params13] at hA hval
  obtain ⟨v0, vs0, d0, ds0, p0, q0, hargs, rfl, rfl, h0, r0⟩ := trodAll_cons hA
  obtain ⟨v1, vs1, d1, ds1, p1, q1, rfl, rfl, rfl, h1, r1⟩ := trodAll_cons r0
  obtain ⟨v2, vs2, d2, ds2, p2, q2, rfl, rfl, rfl, h2, r2⟩ := trodAll_cons r1
  obtain ⟨rfl, rfl, rfl⟩ := trodAll_nil r2
  obtain rfl : args = #[v0, v1, v2] := by cases args; simp_all
  have walk : Calls Tryd.prog 13 #[v0, v1, v2] W fun e w' => e = .returned (.bool true) ∧ Framed W w' := by
    obtain ⟨fs, hfs⟩ := struct_of flat77 (by decide)
    obtain ⟨fs2, hfs2⟩ := struct_of flat79 (by decide)
    obtain ⟨cs, rfl, hc⟩ := open_flat hfs flat77 (hval 0 77 v0 rfl rfl) h0
    obtain ⟨cs2, rfl, hc2⟩ := open_flat hfs2 flat79 (hval 2 79 v2 rfl rfl) h2
    obtain ⟨s, rfl, _, _, _⟩ := Go.ChangeMaps.open_string Tryd.underlying9 (hval 1 9 v1 rfl rfl) h1
    obtain ⟨e, he, hin⟩ := open_ev hc
    obtain ⟨er, st, ha, ha1, ha2⟩ := open_an hc2
    rw [he, ha]
    exact tell_walk W hT hM hE hin s ha1 ha2
  refine walk.mono fun e W' ⟨he, hg⟩ => ⟨_, he, ?_⟩
  exact law_shut (tb := 4) laidOut05 readable13 (by kernel_rfl) Tryd.underlying4 hW' rfl rfl rfl rfl (below_of_framed hg)
theorem laidWL {W : World} (h : laidMetH Tryd.prog Rows.linesTellRow.laid W) : TabW W ∧ ErrW W := Ot.laidW h
set_option maxRecDepth 100000 in
theorem lifted (os : Os) (started : os.Started) (H : Type) (enc : TypeId × Value → H) (F : Stop.Interp) :
    ReturnsInHanded {} Tryd.checked os 13 .any ((OpenSpec.ofChange Rows.linesTellSpec).preRow enc Tryd.prog Tryd.f13 Rows.linesTellRow.domain false Rows.linesTellRow.laid) (((OpenSpec.ofChange Rows.linesTellSpec).at F).post enc Tryd.prog Tryd.f13 false true false false) := by
  obtain ⟨places, hx⟩ := reads os enc
  refine returnsInHanded_of_row (C := Tryd.checked) (s := OpenSpec.ofChange Rows.linesTellSpec) own05 started (by kernel_rfl) Tryd.func13
    (witness_row_at (enc := enc) (C := Tryd.checked) false (laidWorld05 os) args0 rfl (by kernel_rfl) (by kernel_rfl) (by kernel_rfl)
      (OpenSpec.preRow_of_cond 8 hx (by kernel_rfl) (fun k hk => by cases hk) (by kernel_rfl) (laid_met os))) ?_
  intro W base args ds gs before hval hW _ _ _ hL hS _
  exact contract H enc W base args ds gs before hval hW (laidWL hL).1 (Ot.maxW_shape' hS) (laidWL hL).2
theorem said : Rows.LinesTellSaid :=
  OpenClaim.holds_of_cond 13 Tryd.f13 rfl rfl rfl rfl rfl rfl rfl ⟨rfl, rfl, rfl, rfl, rfl⟩ rfl rfl rfl rfl rfl (by kernel_rfl) Tryd.func13 (by kernel_rfl)
    (of_decide_eq_true (by kernel_rfl)) (by unfold Func.isWrapper; first | (rw [if_pos (by decide +kernel)]; kernel_rfl) | (rw [if_neg (by decide +kernel)]; exact ⟨rfl, rfl⟩))
    (fun os started H enc _ F => by rw [OpenClaim.pre_eq_preRow]; exact lifted os started H enc F)
theorem plain (f : FuncId) (fn : Func) (hf : Tryd.pinned.checked.prog.funcNamed "roundelay/roundelaylaw32.LinesTell" = some f) (hfn : Tryd.pinned.checked.prog.funcs[f]? = some fn) :
    true = Tryd.pinned.checked.prog.looks [] ∧ ∀ (j : Nat) t, fn.params[j]? = some t → Tryd.pinned.checked.prog.wantsStandIn t = false := by
  obtain rfl : f = 13 := Option.some.inj ((show Tryd.prog.funcNamed "roundelay/roundelaylaw32.LinesTell" = some 13 by kernel_rfl).symm.trans hf) |>.symm
  obtain rfl : fn = Tryd.f13 := (Option.some.inj (Tryd.func13.symm.trans hfn)).symm
  refine ⟨by kernel_rfl, fun j t ht => ?_⟩
  rw [Tryd.params13] at ht
  have : t = 77 ∨ t = 9 ∨ t = 79 := by simpa using Array.mem_of_getElem? ht
  rcases this with rfl | rfl | rfl
  · exact (show Tryd.prog.wantsStandIn 77 = false by kernel_rfl)
  · exact (show Tryd.prog.wantsStandIn 9 = false by kernel_rfl)
  · exact (show Tryd.prog.wantsStandIn 79 = false by kernel_rfl)
end Ln
/-- THE CARD. -/
theorem cardL : Rows.LinesTellCardSaid :=
  Claim7.holds_tied_plain_at .later [] _ _ _ _ Ln.said (fun _ h => by cases h) (by kernel_rfl) (fun _ h => by cases h) linesTell_row_tie rfl ⟨rfl, rfl⟩ (by kernel_rfl) rfl Ln.plain (by kernel_rfl)
end Go.Proofs.YtagdcclpibjfoaaDoor
