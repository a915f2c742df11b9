/-
  The row ScriptDecodes. The shell of the row's proof is written by the kit's proof-skeleton program; the walk and the end are ours.
-/
import Derived.Test.YthifhdckfcgbkaaGreatSc8
import Derived.Test.YthifhdckfcgbkaaGreatFt3
import Derived.WalkKit
import Derived.ProofKit
import Derived.OpenShut
namespace Go.Proofs.YthifhdckfcgbkaaGreat
open Go.ChangeShapes Go.WideShapes Go.ChangeAt Go.RowKit Go.Vm
set_option linter.unusedVariables false

theorem own : ownKnob Tryz.prog.godebug = none := by kernel_rfl
theorem laidOut : laidOutB Tryz.prog = true := scriptDecodes_k1
theorem readable_of {f : Func} (h : f.params.toList.all (fun t => Tryz.prog.readableRec t && Nat.blt t Tryz.prog.types.size) = true) : ∀ t ∈ f.params.toList, Tryz.prog.readableRec t = true ∧ t < Tryz.prog.types.size := fun t ht => by
  have := List.all_eq_true.1 h t ht
  simp only [Bool.and_eq_true] at this
  exact ⟨this.1, Nat.le_of_ble_eq_true this.2⟩
theorem readable7 : ∀ t ∈ Tryz.f7.params.toList, Tryz.prog.readableRec t = true ∧ t < Tryz.prog.types.size := readable_of (by kernel_rfl)
theorem wf_i64 {a : Int} (h : (Lit.int .i64 a).wf = true) : -9223372036854775808 ≤ a ∧ a < 9223372036854775808 := by
  simp [Lit.wf, IntKind.min, IntKind.max, IntKind.bits, IntKind.signed] at h; omega

set_option maxRecDepth 100000 in
theorem liftedScriptDecodes (os : Os) (started : os.Started) (H : Type) (enc : TypeId × Value → H) :
    ReturnsInHanded {} Tryz.checked os 7 .any (Rows.scriptDecodesSpec.pre6 enc Tryz.prog Tryz.f7 Rows.scriptDecodesRow.domain false) (Rows.scriptDecodesSpec.post enc Tryz.prog Tryz.f7 false true false false) := by
  refine returnsInHanded_of_change (C := Tryz.checked) own started (by kernel_rfl) Tryz.func7
    (ChangeSpec.witness6 (enc := enc) (C := Tryz.checked) false ⟨#[], #[.int .i64 0], []⟩ 8 (by kernel_rfl) (by kernel_rfl) (by kernel_rfl) (by kernel_rfl)) ?_
  intro W base args ds gs before hval0 hW hcnd _
  have hval : ∀ (j : Nat) t v, Tryz.f7.params[j]? = some t → args[j]? = some v → Value.okWide Tryz.prog W .any base t v := hval0
  have hW' := hW
  obtain ⟨p, q, hA0, hV, rfl, hfz, hnd⟩ := hW
  have hA : DataW.TrodAll enc Tryz.prog W 0 (fun _ => true) true Tryz.f7.params.toList args.toList ds p := hA0
  rw [Tryz.params7] at hA hval
  obtain ⟨v0, vs0, d0, ds0, p0, q0, hargs, rfl, rfl, h0, r0⟩ := trodAll_cons hA
  obtain ⟨rfl, rfl, rfl⟩ := trodAll_nil r0
  obtain rfl : args = #[v0] := by cases args; simp_all
  obtain ⟨rfl, rfl⟩ := trodVars_none hV
  obtain ⟨a0, rfl, rfl, rfl, w0⟩ := open_int Tryz.underlying3 (hval 0 3 v0 rfl rfl) h0
  clear hA0 hval0
  simp only [List.append_nil] at hW'
  refine (decodes_walk W a0 (wf_i64 w0).1 (wf_i64 w0).2).mono fun e W' ⟨he, hg⟩ => ?_
  refine ⟨_, he, ?_⟩
  exact law_shut (tb := 4) laidOut (readable7) (by kernel_rfl) Tryz.underlying4 hW' rfl rfl rfl rfl (below_of_framed hg)

theorem overScriptDecodes : Rows.scriptDecodesRow.holds Tryz.pinned (OpenSpec.ofChange Rows.scriptDecodesSpec) :=
  OpenClaim.holds_of_wide 7 Tryz.f7 rfl rfl rfl rfl rfl rfl rfl ⟨rfl, rfl, rfl, rfl, rfl⟩ rfl rfl rfl rfl rfl scriptDecodes_named Tryz.func7 scriptDecodes_closed scriptDecodes_inst scriptDecodes_wrap
    (fun os started H enc _ => liftedScriptDecodes os started H enc)

/-- The statement. -/
theorem provedScriptDecodes : Rows.ScriptDecodesSaid :=
  overScriptDecodes

end Go.Proofs.YthifhdckfcgbkaaGreat
