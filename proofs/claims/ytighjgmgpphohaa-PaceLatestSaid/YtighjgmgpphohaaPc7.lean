/-
  Pace (7): PaceLatest answers true, for every input; the row.
-/
import Derived.Test.YtighjgmgpphohaaPc6
import Derived.Test.YtighjgmgpphohaaRw
import Derived.Test.YtighjgmgpphohaaFt1
import Derived.WalkKit
import Derived.ProofKit
import Derived.OpenShut
namespace Go.Proofs.Ytighjgmgpphohaa
open Go.ChangeShapes Go.WideShapes Go.ChangeAt Go.RowKit Go.Vm
set_option linter.unusedVariables false

theorem own : ownKnob Try.prog.godebug = none := by kernel_rfl
theorem laidOut : laidOutB Try.prog = true := paceLatest_k1
theorem readable_of {f : Func} (h : f.params.toList.all (fun t => Try.prog.readableRec t && Nat.blt t Try.prog.types.size) = true) : ∀ t ∈ f.params.toList, Try.prog.readableRec t = true ∧ t < Try.prog.types.size := fun t ht => by
  have := List.all_eq_true.1 h t ht
  simp only [Bool.and_eq_true] at this
  exact ⟨this.1, Nat.le_of_ble_eq_true this.2⟩
theorem readable3 : ∀ t ∈ Try.f3.params.toList, Try.prog.readableRec t = true ∧ t < Try.prog.types.size := readable_of (by kernel_rfl)
theorem cells32 : Try.prog.cellsOf 32 = [IntKind.u64].length := by kernel_rfl
theorem flat32 : flat Try.prog 3 32 = some [.u64] := by kernel_rfl
theorem cells5 : Try.prog.cellsOf 5 = [IntKind.u8].length := by kernel_rfl
theorem flat5 : flat Try.prog 3 5 = some [.u8] := by kernel_rfl
set_option maxRecDepth 100000 in
theorem liftedPaceLatest (os : Os) (started : os.Started) (H : Type) (enc : TypeId × Value → H) :
    ReturnsInHanded {} Try.checked os 3 .any (Rows.paceLatestSpec.pre6 enc Try.prog Try.f3 Rows.paceLatestRow.domain false) (Rows.paceLatestSpec.post enc Try.prog Try.f3 false true false false) := by
  refine returnsInHanded_of_change (C := Try.checked) own started (by kernel_rfl) Try.func3
    (ChangeSpec.witness6 (enc := enc) (C := Try.checked) false ⟨#[], #[.slice none 0 0, .slice none 0 0], []⟩ 8 (by kernel_rfl) (by kernel_rfl) (by kernel_rfl) (by kernel_rfl)) ?_
  intro W base args ds gs before hval0 hW hcnd _
  have hval : ∀ (j : Nat) t v, Try.f3.params[j]? = some t → args[j]? = some v → Value.okWide Try.prog W .any base t v := hval0
  have hW' := hW
  obtain ⟨p, q, hA0, hV, rfl, hfz, hnd⟩ := hW
  have hA : DataW.TrodAll enc Try.prog W 0 (fun _ => true) true Try.f3.params.toList args.toList ds p := hA0
  rw [Try.params3] at hA hval
  obtain ⟨v0, vs0, d0, ds0, p0, q0, hargs, rfl, rfl, h0, r0⟩ := trodAll_cons hA
  obtain ⟨v1, vs1, d1, ds1, p1, q1, rfl, rfl, rfl, h1, r1⟩ := trodAll_cons r0
  obtain ⟨rfl, rfl, rfl⟩ := trodAll_nil r1
  obtain rfl : args = #[v0, v1] := by cases args; simp_all
  obtain ⟨rfl, rfl⟩ := trodVars_none hV
  clear hA0 hval0
  simp only [List.append_nil] at hW'
  have walk : Calls Try.prog 3 #[v0, v1] W fun e w' => e = .returned (.bool true) ∧ Framed W w' := by
    obtain ⟨z, bv, ov, M, cv, V0, rfl, hz, hv⟩ : ∃ (z : Zv) (bv ov M cv : Nat) (V0 : Value), v0 = vArg z bv ov M cv ∧ (z ≠ .row → M = 0) ∧ (z = .row → RowAt W bv ov [.u64] M V0) := by
      rcases open_rowsR Try.underlying22 cells32 (by decide) flat32 (hval 0 22 v0 rfl rfl) h0 with rfl | ⟨b, o, len, cap, rfl, hlen, hrow⟩
      · exact ⟨.nil, 0, 0, 0, 0, undef, rfl, fun _ => rfl, fun h => by cases h⟩
      · rcases Nat.eq_zero_or_pos len with rfl | hpos
        · exact ⟨.zero, b, o, 0, cap, undef, rfl, fun _ => rfl, fun h => by cases h⟩
        · obtain ⟨u, hu, _⟩ := hrow hpos
          exact ⟨.row, b, o, len, cap, u, rfl, fun h => absurd rfl h, fun _ => hu⟩
    rcases open_rowsR Try.underlying23 cells5 (by decide) flat5 (hval 1 23 v1 rfl rfl) h1 with rfl | ⟨b, o, len, cap, rfl, hlen, hrow⟩
    · exact latest_nil W z hz
    · rcases Nat.eq_zero_or_pos len with rfl | hpos
      · exact latest_walk (V1 := undef) W z hz hv (.inl rfl)
      · obtain ⟨u, hu, _⟩ := hrow hpos
        exact latest_walk W z hz hv (.inr hu)
  refine walk.mono fun e W' ⟨he, hg⟩ => ?_
  refine ⟨_, he, ?_⟩
  exact law_shut (tb := 4) laidOut (readable3) (by kernel_rfl) Try.underlying4 hW' rfl rfl rfl rfl (below_of_framed hg)

theorem overPaceLatest : Rows.paceLatestRow.holds Try.pinned (OpenSpec.ofChange Rows.paceLatestSpec) :=
  OpenClaim.holds_of_wide 3 Try.f3 rfl rfl rfl rfl rfl rfl rfl ⟨rfl, rfl, rfl, rfl, rfl⟩ rfl rfl rfl rfl rfl paceLatest_named Try.func3 paceLatest_closed paceLatest_inst paceLatest_wrap
    (fun os started H enc _ => liftedPaceLatest os started H enc)

/-- The statement. -/
theorem provedPaceLatest : Rows.PaceLatestSaid :=
  overPaceLatest

end Go.Proofs.Ytighjgmgpphohaa
