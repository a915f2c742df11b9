/-
  LinearTells: the row. The law 'LinearTells' answers true for every input, without condition.
-/
import Derived.Test.YtpgonpjakllnjaaLt44
import Derived.Test.YtpgonpjakllnjaaRw
import Derived.Test.YtpgonpjakllnjaaFt2
import Derived.WalkKit
import Derived.ProofKit
import Derived.OpenShut
namespace Go.Proofs.Ytpgonpjakllnjaa
open Go.ChangeShapes Go.WideShapes Go.ChangeAt Go.RowKit Go.Vm
set_option linter.unusedVariables false
namespace Lt

theorem own : ownKnob Try.prog.godebug = none := by kernel_rfl
theorem laidOut : laidOutB Try.prog = true := linearTells_k1
theorem readable_of {f : Func} (h : f.params.toList.all (fun t => Try.prog.readableRec t && Nat.blt t Try.prog.types.size) = true) : ∀ t ∈ f.params.toList, Try.prog.readableRec t = true ∧ t < Try.prog.types.size := fun t ht => by
  have := List.all_eq_true.1 h t ht
  simp only [Bool.and_eq_true] at this
  exact ⟨this.1, Nat.le_of_ble_eq_true this.2⟩
theorem readable5 : ∀ t ∈ Try.f5.params.toList, Try.prog.readableRec t = true ∧ t < Try.prog.types.size := readable_of (by kernel_rfl)
theorem cells31 : Try.prog.cellsOf 31 = ksR.length := by kernel_rfl
theorem flat31 : flat Try.prog 5 31 = some ksR := by kernel_rfl
theorem cells3 : Try.prog.cellsOf 3 = [IntKind.i64].length := by kernel_rfl
theorem flat3 : flat Try.prog 3 3 = some [.i64] := by kernel_rfl
set_option maxRecDepth 100000 in
theorem cap_of {W : World} {r : Reach} {b0 t e : Nat} {a : Addr} {l c : Nat} (ht : Try.prog.underlying t = some (.slice e)) (hv : Value.okWide Try.prog W r b0 t (.slice (some a) l c)) : l ≤ c := by
  simp only [Value.okWide, ht, Cell.okWide, Cell.ok] at hv
  exact hv.1
/-- Of which kind it is. -/
theorem kinds {W : World} {ks : List IntKind} {v : Value} (h : v = .slice none 0 0 ∨ ∃ b o len cap : Nat, v = .slice (some ⟨b, o, none⟩) len cap ∧ len ≤ 9223372036854775807 ∧ (0 < len → ∃ u, RowAt W b o ks len u ∧ InRow ks len u)) (hc : ∀ a l c, v = .slice (some a) l c → l ≤ c) :
    ∃ k n b o c L, AVk W ks k v n b o c L ∧ n ≤ c := by
  rcases h with rfl | ⟨b, o, len, cap, rfl, _, hrow⟩
  · exact ⟨.nil, 0, 0, 0, 0, [], ⟨rfl, rfl, rfl⟩, Nat.le_refl _⟩
  · have hcap := hc _ _ _ rfl
    rcases Nat.eq_zero_or_pos len with rfl | hpos
    · exact ⟨.zero, 0, b, o, cap, [], ⟨rfl, rfl, rfl⟩, Nat.zero_le _⟩
    · obtain ⟨u, hu, _⟩ := hrow hpos
      obtain ⟨c, fr, el, xs, h1, _, h3, h4, h5⟩ := hu.row
      refine ⟨.row, len, b, o, cap, xs.map toZ, ⟨rfl, hpos, by rw [List.length_map]; exact h5.1, c, fr, el, h1, h3, ?_⟩, hcap⟩
      rw [← h5.rowOf]; exact h4
set_option maxRecDepth 100000 in
theorem lifted (os : Os) (started : os.Started) (H : Type) (enc : TypeId × Value → H) :
    ReturnsInHanded {} Try.checked os 5 .any (Rows.linearTellsSpec.pre6 enc Try.prog Try.f5 Rows.linearTellsRow.domain false) (Rows.linearTellsSpec.post enc Try.prog Try.f5 false true false false) := by
  refine returnsInHanded_of_change (C := Try.checked) own started (by kernel_rfl) Try.func5
    (ChangeSpec.witness6 (enc := enc) (C := Try.checked) false ⟨#[], #[.slice none 0 0, .slice none 0 0], []⟩ 8 (by kernel_rfl) (by kernel_rfl) (by kernel_rfl) (by kernel_rfl)) ?_
  intro W base args ds gs before hval0 hW hcnd _
  have hval : ∀ (j : Nat) t v, Try.f5.params[j]? = some t → args[j]? = some v → Value.okWide Try.prog W .any base t v := hval0
  have hW' := hW
  obtain ⟨p, q, hA0, hV, rfl, hfz, hnd⟩ := hW
  have hA : DataW.TrodAll enc Try.prog W 0 (fun _ => true) true Try.f5.params.toList args.toList ds p := hA0
  rw [Try.params5] at hA hval
  obtain ⟨v0, vs0, d0, ds0, p0, q0, hargs, rfl, rfl, h0, r0⟩ := trodAll_cons hA
  obtain ⟨v1, vs1, d1, ds1, p1, q1, rfl, rfl, rfl, h1, r1⟩ := trodAll_cons r0
  obtain ⟨rfl, rfl, rfl⟩ := trodAll_nil r1
  obtain rfl : args = #[v0, v1] := by cases args; simp_all
  obtain ⟨rfl, rfl⟩ := trodVars_none hV
  clear hA0 hval0
  simp only [List.append_nil] at hW'
  have walk : Calls Try.prog 5 #[v0, v1] W fun e w' => e = .returned (.bool true) ∧ Framed W w' := by
    have k0 := hval 0 22 v0 rfl rfl
    have k1 := hval 1 32 v1 rfl rfl
    obtain ⟨ka, n, b, o, c, L, g0, _⟩ := kinds (ks := ksR) (open_rowsR Try.underlying22 cells31 (by decide) flat31 k0 h0) (fun a l c e => by rw [e] at k0; exact cap_of Try.underlying22 k0)
    obtain ⟨kb, m, b', o', c', L', g1, hc⟩ := kinds (ks := [.i64]) (open_rowsR Try.underlying32 cells3 (by decide) flat3 k1 h1) (fun a l c e => by rw [e] at k1; exact cap_of Try.underlying32 k1)
    exact lawV g0 g1 hc
  refine walk.mono fun e W' ⟨he, hg⟩ => ?_
  refine ⟨_, he, ?_⟩
  exact law_shut (tb := 4) laidOut (readable5) (by kernel_rfl) Try.underlying4 hW' rfl rfl rfl rfl (below_of_framed hg)

theorem over : Rows.linearTellsRow.holds Try.pinned (OpenSpec.ofChange Rows.linearTellsSpec) :=
  OpenClaim.holds_of_wide 5 Try.f5 rfl rfl rfl rfl rfl rfl rfl ⟨rfl, rfl, rfl, rfl, rfl⟩ rfl rfl rfl rfl rfl linearTells_named Try.func5 linearTells_closed linearTells_inst linearTells_wrap
    (fun os started H enc _ => lifted os started H enc)

end Lt
/-- The statement. -/
theorem provedLinearTells : Rows.LinearTellsSaid :=
  Lt.over

end Go.Proofs.Ytpgonpjakllnjaa
