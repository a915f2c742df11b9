/-
  The row ScriptEncodes. The shell of the row's proof is written by the kit's proof-skeleton program; the walk and the end are ours.
-/
import Derived.Test.YthifhdckfcgbkaaGreatSc8
import Derived.Test.YthifhdckfcgbkaaGreatFt4
import Derived.WalkKit
import Derived.ProofKit
import Derived.OpenShut
import Derived.Lib.SmallJoins
namespace Go.Proofs.YthifhdckfcgbkaaGreat
open Go.ChangeShapes Go.WideShapes Go.ChangeAt Go.RowKit Go.Vm
set_option linter.unusedVariables false

theorem own : ownKnob Tryz.prog.godebug = none := by kernel_rfl
theorem laidOut : laidOutB Tryz.prog = true := scriptEncodes_k1
theorem readable_of {f : Func} (h : f.params.toList.all (fun t => Tryz.prog.readableRec t && Nat.blt t Tryz.prog.types.size) = true) : ∀ t ∈ f.params.toList, Tryz.prog.readableRec t = true ∧ t < Tryz.prog.types.size := fun t ht => by
  have := List.all_eq_true.1 h t ht
  simp only [Bool.and_eq_true] at this
  exact ⟨this.1, Nat.le_of_ble_eq_true this.2⟩
theorem readable8 : ∀ t ∈ Tryz.f8.params.toList, Tryz.prog.readableRec t = true ∧ t < Tryz.prog.types.size := readable_of (by kernel_rfl)
theorem array8 {α : Type} {cs : Array α} (h : cs.size = 8) : ∃ c0 c1 c2 c3 c4 c5 c6 c7, cs = #[c0, c1, c2, c3, c4, c5, c6, c7] := by
  obtain ⟨l⟩ := cs
  match l, h with
  | [c0, c1, c2, c3, c4, c5, c6, c7], _ => exact ⟨c0, c1, c2, c3, c4, c5, c6, c7, rfl⟩
set_option maxRecDepth 100000 in
theorem cells42 : Tryz.prog.cellsOf 42 = 8 := by kernel_rfl
set_option maxRecDepth 100000 in
theorem cells40 : Tryz.prog.cellsOf 40 = 4 := by kernel_rfl
set_option maxRecDepth 100000 in
theorem cells3 : Tryz.prog.cellsOf 3 = 1 := by kernel_rfl
theorem trod_struct5 {H : Type} {enc : TypeId × Value → H} {P : Program} {w : World} {base : Nat} {spare : Nat → Bool} {held : Bool} {t : TypeId} {f0 f1 f2 f3 f4 : Field} {fuel : Nat} {cs : List Value} {x : DataW H × List MemPlace} (ht : P.underlying t = some (.struct #[f0, f1, f2, f3, f4])) (h : DataW.trod enc P w base spare held fuel t cs = some x) :
    ∃ y0 y1 y2 y3 y4 n, DataW.trod enc P w base spare held n f0.type ((cs.drop f0.offset).take (P.cellsOf f0.type)) = some y0 ∧
      DataW.trod enc P w base spare held n f1.type ((cs.drop f1.offset).take (P.cellsOf f1.type)) = some y1 ∧ DataW.trod enc P w base spare held n f2.type ((cs.drop f2.offset).take (P.cellsOf f2.type)) = some y2 ∧
      DataW.trod enc P w base spare held n f3.type ((cs.drop f3.offset).take (P.cellsOf f3.type)) = some y3 ∧ DataW.trod enc P w base spare held n f4.type ((cs.drop f4.offset).take (P.cellsOf f4.type)) = some y4 := by
  obtain ⟨xs, n, _, rfl, hl, hlen, hf⟩ := DataW.trod_struct ht h
  match xs, hlen with
  | [y0, y1, y2, y3, y4], _ => exact ⟨y0, y1, y2, y3, y4, n, by simpa using hf 0 f0 rfl, by simpa using hf 1 f1 rfl, by simpa using hf 2 f2 rfl, by simpa using hf 3 f3 rfl, by simpa using hf 4 f4 rfl⟩
set_option maxRecDepth 100000 in
theorem open_event {H : Type} {enc : TypeId × Value → H} {W : World} {b0 base : Nat} {r : Reach} {sp : Nat → Bool} {held : Bool} {v : Value} {d : DataW H} {p : List MemPlace} (hv : Value.okWide Tryz.prog W r b0 42 v) (h : DataW.Trod enc Tryz.prog W base sp held 42 v d p) : ∃ k w o n c y a b : Int, v = evV k w o n c y a b := by
  obtain ⟨cs, rfl, hsz⟩ := okWide_struct Tryz.underlying42 hv
  obtain ⟨c0, c1, c2, c3, c4, c5, c6, c7, rfl⟩ := array8 (hsz.trans cells42)
  obtain ⟨fuel, hf⟩ := h
  obtain ⟨y0, y1, y2, y3, y4, n, g0, g1, g2, g3, g4⟩ := trod_struct5 Tryz.underlying42 hf
  dsimp only at g0
  rw [cells3] at g0
  dsimp only at g1
  rw [cells3] at g1
  dsimp only at g2
  rw [cells3] at g2
  dsimp only at g3
  rw [cells3] at g3
  dsimp only at g4
  rw [cells40] at g4
  obtain ⟨k, rfl⟩ := one_int (y := y0) Tryz.underlying3 g0
  obtain ⟨w, rfl⟩ := one_int (y := y1) Tryz.underlying3 g1
  obtain ⟨o, rfl⟩ := one_int (y := y2) Tryz.underlying3 g2
  obtain ⟨m, rfl⟩ := one_int (y := y3) Tryz.underlying3 g3
  obtain ⟨z0, z1, z2, z3, n', _, _, q0, q1, q2, q3⟩ := Joins.trod_struct4 (x := y4) Tryz.underlying40 g4
  dsimp only at q0
  rw [cells3] at q0
  dsimp only at q1
  rw [cells3] at q1
  dsimp only at q2
  rw [cells3] at q2
  dsimp only at q3
  rw [cells3] at q3
  obtain ⟨c, rfl⟩ := one_int (y := z0) Tryz.underlying3 q0
  obtain ⟨y, rfl⟩ := one_int (y := z1) Tryz.underlying3 q1
  obtain ⟨a, rfl⟩ := one_int (y := z2) Tryz.underlying3 q2
  obtain ⟨b, rfl⟩ := one_int (y := z3) Tryz.underlying3 q3
  exact ⟨k, w, o, m, c, y, a, b, rfl⟩

set_option maxRecDepth 100000 in
theorem liftedScriptEncodes (os : Os) (started : os.Started) (H : Type) (enc : TypeId × Value → H) :
    ReturnsInHanded {} Tryz.checked os 8 .any (Rows.scriptEncodesSpec.pre6 enc Tryz.prog Tryz.f8 Rows.scriptEncodesRow.domain false) (Rows.scriptEncodesSpec.post enc Tryz.prog Tryz.f8 false true false false) := by
  refine returnsInHanded_of_change (C := Tryz.checked) own started (by kernel_rfl) Tryz.func8
    (ChangeSpec.witness6 (enc := enc) (C := Tryz.checked) false ⟨#[], #[evV 0 0 0 0 0 0 0 0], []⟩ 8 (by kernel_rfl) (by kernel_rfl) (by kernel_rfl) (by kernel_rfl)) ?_
  intro W base args ds gs before hval0 hW hcnd _
  have hval : ∀ (j : Nat) t v, Tryz.f8.params[j]? = some t → args[j]? = some v → Value.okWide Tryz.prog W .any base t v := hval0
  have hW' := hW
  obtain ⟨p, q, hA0, hV, rfl, hfz, hnd⟩ := hW
  have hA : DataW.TrodAll enc Tryz.prog W 0 (fun _ => true) true Tryz.f8.params.toList args.toList ds p := hA0
  rw [Tryz.params8] at hA hval
  obtain ⟨v0, vs0, d0, ds0, p0, q0, hargs, rfl, rfl, h0, r0⟩ := trodAll_cons hA
  obtain ⟨rfl, rfl, rfl⟩ := trodAll_nil r0
  obtain rfl : args = #[v0] := by cases args; simp_all
  obtain ⟨rfl, rfl⟩ := trodVars_none hV
  obtain ⟨k, w, o, n, c, y, a, b, rfl⟩ := open_event (hval 0 42 v0 rfl rfl) h0
  clear hA0 hval0
  simp only [List.append_nil] at hW'
  refine (encodes_walk W k w o n c y a b).mono fun e W' ⟨he, hg⟩ => ?_
  refine ⟨_, he, ?_⟩
  exact law_shut (tb := 4) laidOut (readable8) (by kernel_rfl) Tryz.underlying4 hW' rfl rfl rfl rfl (below_of_framed hg)

theorem overScriptEncodes : Rows.scriptEncodesRow.holds Tryz.pinned (OpenSpec.ofChange Rows.scriptEncodesSpec) :=
  OpenClaim.holds_of_wide 8 Tryz.f8 rfl rfl rfl rfl rfl rfl rfl ⟨rfl, rfl, rfl, rfl, rfl⟩ rfl rfl rfl rfl rfl scriptEncodes_named Tryz.func8 scriptEncodes_closed scriptEncodes_inst scriptEncodes_wrap
    (fun os started H enc _ => liftedScriptEncodes os started H enc)

/-- The statement. -/
theorem provedScriptEncodes : Rows.ScriptEncodesSaid :=
  overScriptEncodes

end Go.Proofs.YthifhdckfcgbkaaGreat
