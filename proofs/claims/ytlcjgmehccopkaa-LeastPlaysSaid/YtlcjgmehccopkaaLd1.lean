/-
  LeastPlays: the row.
-/
import Derived.Test.YtlcjgmehccopkaaLc6
import Derived.Test.YtlcjgmehccopkaaRw
import Derived.Test.YtlcjgmehccopkaaFt3
import Derived.WalkKit
import Derived.ProofKit
import Derived.OpenShut
namespace Go.Proofs.Ytlcjgmehccopkaa
open Go.ChangeShapes Go.WideShapes Go.ChangeAt Go.RowKit Go.Vm Go.Vm.Le
set_option linter.unusedVariables false
namespace La

theorem own : ownKnob Try.prog.godebug = none := by kernel_rfl
theorem laidOut : laidOutB Try.prog = true := leastPlays_k1
theorem readable_of {f : Func} (h : f.params.toList.all (fun t => Try.prog.readableRec t && Nat.blt t Try.prog.types.size) = true) : ∀ t ∈ f.params.toList, Try.prog.readableRec t = true ∧ t < Try.prog.types.size := fun t ht => by
  have := List.all_eq_true.1 h t ht
  simp only [Bool.and_eq_true] at this
  exact ⟨this.1, Nat.le_of_ble_eq_true this.2⟩
theorem readable5 : ∀ t ∈ Try.f5.params.toList, Try.prog.readableRec t = true ∧ t < Try.prog.types.size := readable_of (by kernel_rfl)
theorem cells29 : Try.prog.cellsOf 29 = kOp.length := by kernel_rfl
theorem flat29 : flat Try.prog 3 29 = some kOp := by kernel_rfl
set_option maxRecDepth 100000 in
theorem liftedLeastPlays (os : Os) (started : os.Started) (H : Type) (enc : TypeId × Value → H) :
    ReturnsInHanded {} Try.checked os 5 .any (Rows.leastPlaysSpec.pre6 enc Try.prog Try.f5 Rows.leastPlaysRow.domain false) (Rows.leastPlaysSpec.post enc Try.prog Try.f5 false true false false) := by
  refine returnsInHanded_of_change (C := Try.checked) own started (by kernel_rfl) Try.func5
    (ChangeSpec.witness6 (enc := enc) (C := Try.checked) false ⟨#[], #[.int .i64 0, .slice none 0 0, .int .i64 0], []⟩ 8 (by kernel_rfl) (by kernel_rfl) (by kernel_rfl) (by kernel_rfl)) ?_
  intro W base args ds gs before hval0 hW hcnd _
  have hval : ∀ (j : Nat) t v, Try.f5.params[j]? = some t → args[j]? = some v → Value.okWide Try.prog W .any base t v := hval0
  have hW' := hW
  obtain ⟨p, q, hA0, hV, rfl, hfz, hnd⟩ := hW
  have hA : DataW.TrodAll enc Try.prog W 0 (fun _ => true) true Try.f5.params.toList args.toList ds p := hA0
  rw [Try.params5] at hA hval
  obtain ⟨v0, vs0, d0, ds0, p0, q0, hargs, rfl, rfl, h0, r0⟩ := trodAll_cons hA
  obtain ⟨v1, vs1, d1, ds1, p1, q1, rfl, rfl, rfl, h1, r1⟩ := trodAll_cons r0
  obtain ⟨v2, vs2, d2, ds2, p2, q2, rfl, rfl, rfl, h2, r2⟩ := trodAll_cons r1
  obtain ⟨rfl, rfl, rfl⟩ := trodAll_nil r2
  obtain rfl : args = #[v0, v1, v2] := by cases args; simp_all
  obtain ⟨rfl, rfl⟩ := trodVars_none hV
  obtain ⟨a0, rfl, rfl, rfl, w0⟩ := open_int Try.underlying3 (hval 0 3 v0 rfl rfl) h0
  obtain ⟨a2, rfl, rfl, rfl, w2⟩ := open_int Try.underlying3 (hval 2 3 v2 rfl rfl) h2
  clear hA0 hval0
  simp only [List.append_nil] at hW'
  have walk : Calls Try.prog 5 #[.int .i64 a0, v1, .int .i64 a2] W fun e w' => e = .returned (.bool true) ∧ Framed W w' := by
    rcases open_rowsR Try.underlying22 cells29 (by decide) flat29 (hval 1 22 v1 rfl rfl) h1 with rfl | ⟨b, o, len, cap, rfl, hlen, hrow⟩
    · exact plays_nil W a0 a2
    · rcases Nat.eq_zero_or_pos len with rfl | hpos
      · exact plays_zero W a0 a2 b o cap
      · obtain ⟨u, hu, _⟩ := hrow hpos
        exact plays_row W a0 a2 u len b o cap hpos hu
  refine walk.mono fun e W' ⟨he, hg⟩ => ?_
  refine ⟨_, he, ?_⟩
  exact law_shut (tb := 4) laidOut (readable5) (by kernel_rfl) Try.underlying4 hW' rfl rfl rfl rfl (below_of_framed hg)

theorem overLeastPlays : Rows.leastPlaysRow.holds Try.pinned (OpenSpec.ofChange Rows.leastPlaysSpec) :=
  OpenClaim.holds_of_wide 5 Try.f5 rfl rfl rfl rfl rfl rfl rfl ⟨rfl, rfl, rfl, rfl, rfl⟩ rfl rfl rfl rfl rfl leastPlays_named Try.func5 leastPlays_closed leastPlays_inst leastPlays_wrap
    (fun os started H enc _ => liftedLeastPlays os started H enc)

end La
/-- The statement. -/
theorem provedLeastPlays : Rows.LeastPlaysSaid :=
  La.overLeastPlays

end Go.Proofs.Ytlcjgmehccopkaa
