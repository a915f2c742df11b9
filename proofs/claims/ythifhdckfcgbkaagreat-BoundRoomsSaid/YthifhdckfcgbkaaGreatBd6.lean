/-
  The row BoundRooms. The shell of each row's proof is written by the kit's proof-skeleton program; the walk and the end are ours.
-/
import Derived.Test.YthifhdckfcgbkaaGreatBd4
import Derived.Test.YthifhdckfcgbkaaGreatFt2
import Derived.WalkKit
import Derived.ProofKit
import Derived.OpenShut
namespace Go.Proofs.YthifhdckfcgbkaaGreat
open Go.ChangeShapes Go.WideShapes Go.ChangeAt Go.RowKit Go.Vm
set_option linter.unusedVariables false

theorem own : ownKnob Tryz.prog.godebug = none := by kernel_rfl
theorem laidOut : laidOutB Tryz.prog = true := boundRooms_k1
theorem readable_of {f : Func} (h : f.params.toList.all (fun t => Tryz.prog.readableRec t && Nat.blt t Tryz.prog.types.size) = true) : ∀ t ∈ f.params.toList, Tryz.prog.readableRec t = true ∧ t < Tryz.prog.types.size := fun t ht => by
  have := List.all_eq_true.1 h t ht
  simp only [Bool.and_eq_true] at this
  exact ⟨this.1, Nat.le_of_ble_eq_true this.2⟩
theorem readable4 : ∀ t ∈ Tryz.f4.params.toList, Tryz.prog.readableRec t = true ∧ t < Tryz.prog.types.size := readable_of (by kernel_rfl)
theorem wf_u16 {a : Int} (h : (Lit.int .u16 a).wf = true) : 0 ≤ a ∧ a ≤ 65535 := by
  simp [Lit.wf, IntKind.min, IntKind.max, IntKind.bits, IntKind.signed] at h; omega
theorem wf_u8 {a : Int} (h : (Lit.int .u8 a).wf = true) : 0 ≤ a ∧ a ≤ 255 := by
  simp [Lit.wf, IntKind.min, IntKind.max, IntKind.bits, IntKind.signed] at h; omega

set_option maxRecDepth 100000 in
theorem liftedBoundRooms (os : Os) (started : os.Started) (H : Type) (enc : TypeId × Value → H) :
    ReturnsInHanded {} Tryz.checked os 4 .any (Rows.boundRoomsSpec.pre6 enc Tryz.prog Tryz.f4 Rows.boundRoomsRow.domain false) (Rows.boundRoomsSpec.post enc Tryz.prog Tryz.f4 false true false false) := by
  refine returnsInHanded_of_change (C := Tryz.checked) own started (by kernel_rfl) Tryz.func4
    (ChangeSpec.witness6 (enc := enc) (C := Tryz.checked) false ⟨#[], #[.int .u16 0, .int .u16 0, .int .u8 0], []⟩ 8 (by kernel_rfl) (by kernel_rfl) (by kernel_rfl) (by kernel_rfl)) ?_
  intro W base args ds gs before hval0 hW hcnd _
  have hval : ∀ (j : Nat) t v, Tryz.f4.params[j]? = some t → args[j]? = some v → Value.okWide Tryz.prog W .any base t v := hval0
  have hW' := hW
  obtain ⟨p, q, hA0, hV, rfl, hfz, hnd⟩ := hW
  have hA : DataW.TrodAll enc Tryz.prog W 0 (fun _ => true) true Tryz.f4.params.toList args.toList ds p := hA0
  rw [Tryz.params4] at hA hval
  obtain ⟨v0, vs0, d0, ds0, p0, q0, hargs, rfl, rfl, h0, r0⟩ := trodAll_cons hA
  obtain ⟨v1, vs1, d1, ds1, p1, q1, rfl, rfl, rfl, h1, r1⟩ := trodAll_cons r0
  obtain ⟨v2, vs2, d2, ds2, p2, q2, rfl, rfl, rfl, h2, r2⟩ := trodAll_cons r1
  obtain ⟨rfl, rfl, rfl⟩ := trodAll_nil r2
  obtain rfl : args = #[v0, v1, v2] := by cases args; simp_all
  obtain ⟨rfl, rfl⟩ := trodVars_none hV
  obtain ⟨a0, rfl, rfl, rfl, w0⟩ := open_int Tryz.underlying26 (hval 0 26 v0 rfl rfl) h0
  obtain ⟨a1, rfl, rfl, rfl, w1⟩ := open_int Tryz.underlying26 (hval 1 26 v1 rfl rfl) h1
  obtain ⟨a2, rfl, rfl, rfl, w2⟩ := open_int Tryz.underlying5 (hval 2 5 v2 rfl rfl) h2
  clear hA0 hval0
  simp only [List.append_nil] at hW'
  refine (rooms_walk W a0 a1 a2 (wf_u16 w0).1 (wf_u16 w0).2 (wf_u16 w1).1 (wf_u16 w1).2 (wf_u8 w2).1 (wf_u8 w2).2).mono fun e W' ⟨he, hg⟩ => ?_
  refine ⟨_, he, ?_⟩
  exact law_shut (tb := 4) laidOut (readable4) (by kernel_rfl) Tryz.underlying4 hW' rfl rfl rfl rfl (below_of_framed hg)

theorem overBoundRooms : Rows.boundRoomsRow.holds Tryz.pinned (OpenSpec.ofChange Rows.boundRoomsSpec) :=
  OpenClaim.holds_of_wide 4 Tryz.f4 rfl rfl rfl rfl rfl rfl rfl ⟨rfl, rfl, rfl, rfl, rfl⟩ rfl rfl rfl rfl rfl boundRooms_named Tryz.func4 boundRooms_closed boundRooms_inst boundRooms_wrap
    (fun os started H enc _ => liftedBoundRooms os started H enc)

/-- The statement. -/
theorem provedBoundRooms : Rows.BoundRoomsSaid :=
  overBoundRooms

end Go.Proofs.YthifhdckfcgbkaaGreat
