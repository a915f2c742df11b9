/-
  Least (8): LeastFirst answers true, for every input; the row.
-/
import Derived.Test.YtlcjgmehccopkaaLe6
import Derived.Test.YtlcjgmehccopkaaLe7
import Derived.Test.YtlcjgmehccopkaaFt2
namespace Go.Proofs.Ytlcjgmehccopkaa
open Go.ChangeShapes Go.WideShapes Go.ChangeAt Go.RowKit Go.Vm Go.Vm.Le Fi
set_option linter.unusedVariables false
namespace Fi

-- LEASTFIRST
theorem run4n : (run Try.prog [] sp02 4000 false 4 (entry Try.f4 (Try.f4.body.getD .ret) [vI 0, .sliceNil] .leaf 0 [])).map (·.all (leafB (.lit true))) = some true := by kernel_rfl
theorem run4z : (run Try.prog [] sp02 4000 false 4 (entry Try.f4 (Try.f4.body.getD .ret) [vI 0, opsZ] .leaf 1 [])).map (·.all (leafB (.lit true))) = some true := by kernel_rfl
theorem run4g : (run Try.prog [] sp02 4000 false 4 (entry Try.f4 (Try.f4.body.getD .ret) [vI 0, opsA] .leaf 1 fBig)).map (·.all (leafB (.lit true))) = some true := by kernel_rfl
noncomputable def sums4e : List LS := [.ret (.bool (.lit true)) [((.cmp .lss (.var 0) (.lit 0)), true), ((.cmp .gtr (.var 10) (.lit 200)), false), ((.cmp .geq (.var 10) (.lit 0)), true), ((.cmp .leq (.var 10) (.lit 200)), true)],
  .ret (.bool (.lit true)) [((.cmp .gtr (.var 0) (.lit 65535)), true), ((.cmp .lss (.var 0) (.lit 0)), false), ((.cmp .gtr (.var 10) (.lit 200)), false), ((.cmp .geq (.var 10) (.lit 0)), true), ((.cmp .leq (.var 10) (.lit 200)), true)],
  .next 3 (.code (.loop b0) :: k0) [((.cmp .gtr (.var 0) (.lit 65535)), false), ((.cmp .lss (.var 0) (.lit 0)), false), ((.cmp .gtr (.var 10) (.lit 200)), false), ((.cmp .geq (.var 10) (.lit 0)), true), ((.cmp .leq (.var 10) (.lit 200)), true)] ⟨[(0, (.var 0)), (1, (.lit 0)), (3, (.lit 0)), (4, (.lit 0))], [], [], [], [(1, 2), (0, 0), (2, 1)]⟩]
theorem run4e : (run Try.prog [] sp02 4000 true 4 (entry Try.f4 (Try.f4.body.getD .ret) [vI 0, opsA] (ofP [(0, opsB)]) 1 csN)).map (·.filterMap (sumL gH TL)) = some sums4e := by kernel_rfl
theorem first_walk (W : World) (a0 : Int) (v : Value) (n b o cap : Nat) (hrow : RowAt W b o kOp n v) : Calls Try.prog 4 #[.int .i64 a0, .slice (some ⟨b, o, none⟩) n cap] W (fun e w' => e = .returned (.bool true) ∧ Framed W w') := by
  by_cases hb : n ≤ 200
  · have hr : HRel (βL W) (envO a0 n cap o v b) (ofP [(0, opsB)]) 1 W := HRel.row (a := 0) hrow rfl rfl (fun _ => rfl) ⟨rfl, rfl⟩
    have := calls_sums (β := βL W) (Q := QT) noCount noExt (sp02_ok W) follows rfl Try.func4 rfl run4e (opsD a0 n cap o v b) hr ?_ (fun s hs => ?_)
    · exact this.mono fun _ _ ⟨_, he, hv, hf⟩ => ⟨by rw [he, hv], hf⟩
    · simp only [csN, CRel_cons, CRel_nil, and_true, BT.den, den_var, den_lit, intCmp, Option.some.injEq, decide_eq_true_eq]
      have e : (envO a0 n cap o v b).I 10 = (n : Int) := rfl
      rw [e]; omega
    · simp only [sums4e, List.mem_cons, List.not_mem_nil, or_false] at hs
      rcases hs with rfl | rfl | rfl
      · intro ρ' hle hc x hx; cases hx; rfl
      · intro ρ' hle hc x hx; cases hx; rfl
      · intro ρ' hle hc T hT hG
        have hT : T0 = T := by simpa [TL] using hT
        subst hT
        have e0 : ρ'.I 0 = a0 := by rw [hle.i]; rfl
        have e10 : ρ'.I 10 = (n : Int) := by rw [hle.i]; rfl
        simp only [CRel_cons, CRel_nil, and_true, BT.den, den_var, den_lit, e0, e10, intCmp, Option.some.injEq, decide_eq_true_eq, decide_eq_false_iff_not] at hc
        have s : S02 v n a0 0 0 [] [] ((⟨[(0, (.var 0)), (1, (.lit 0)), (3, (.lit 0)), (4, (.lit 0))], [], [], [], [(1, 2), (0, 0), (2, 1)]⟩ : Sub).app ρ') :=
          ⟨e0, rfl, rfl, by show decL 0 = _; rw [decL_zero]; rfl, e10, by show ρ'.V 0 = v; rw [hle.v]; rfl, by omega, hb, by omega, by omega, Stk.new (by omega)⟩
        exact ⟨hG, s.ci, fun a w' r => loopO0 _ ⟨0, 0, [], s, Nat.le_refl _⟩ _ a w' (.inr rfl) r⟩
  · refine calls_true (β := βL W) noExt (sp02_ok W) rfl Try.func4 rfl run4g (opsD a0 n cap o v b) (hrel_O W a0 n cap o v b) (CRel_cons.2 ⟨?_, CRel_nil.2 trivial⟩)
    have e : (IT.var 10).den (envO a0 n cap o v b) = some (n : Int) := rfl
    simp only [BT.den, e, den_lit, intCmp, Option.some.injEq, decide_eq_true_eq]
    omega
theorem first_nil (W : World) (a0 : Int) : Calls Try.prog 4 #[.int .i64 a0, .slice none 0 0] W (fun e w' => e = .returned (.bool true) ∧ Framed W w') :=
  calls_true (β := βL W) noExt (sp02_ok W) rfl Try.func4 rfl run4n (xs := [.int .i64 a0, .slice none 0 0]) rfl (hrel_N W a0) (fun _ h => by cases h)
theorem first_zero (W : World) (a0 : Int) (b o cap : Nat) : Calls Try.prog 4 #[.int .i64 a0, .slice (some ⟨b, o, none⟩) 0 cap] W (fun e w' => e = .returned (.bool true) ∧ Framed W w') :=
  calls_true (β := βL W) noExt (sp02_ok W) rfl Try.func4 rfl run4z (opsZD a0 0 cap o (.agg #[]) b) (hrel_O W a0 0 cap o (.agg #[]) b) (fun _ h => by cases h)

theorem readable4 : ∀ t ∈ Try.f4.params.toList, Try.prog.readableRec t = true ∧ t < Try.prog.types.size := readable_of (by kernel_rfl)
set_option maxRecDepth 100000 in
theorem liftedLeastFirst (os : Os) (started : os.Started) (H : Type) (enc : TypeId × Value → H) :
    ReturnsInHanded {} Try.checked os 4 .any (Rows.leastFirstSpec.pre6 enc Try.prog Try.f4 Rows.leastFirstRow.domain false) (Rows.leastFirstSpec.post enc Try.prog Try.f4 false true false false) := by
  refine returnsInHanded_of_change (C := Try.checked) own started (by kernel_rfl) Try.func4
    (ChangeSpec.witness6 (enc := enc) (C := Try.checked) false ⟨#[], #[.int .i64 0, .slice none 0 0], []⟩ 8 (by kernel_rfl) (by kernel_rfl) (by kernel_rfl) (by kernel_rfl)) ?_
  intro W base args ds gs before hval0 hW hcnd _
  have hval : ∀ (j : Nat) t v, Try.f4.params[j]? = some t → args[j]? = some v → Value.okWide Try.prog W .any base t v := hval0
  have hW' := hW
  obtain ⟨p, q, hA0, hV, rfl, hfz, hnd⟩ := hW
  have hA : DataW.TrodAll enc Try.prog W 0 (fun _ => true) true Try.f4.params.toList args.toList ds p := hA0
  rw [Try.params4] at hA hval
  obtain ⟨v0, vs0, d0, ds0, p0, q0, hargs, rfl, rfl, h0, r0⟩ := trodAll_cons hA
  obtain ⟨v1, vs1, d1, ds1, p1, q1, rfl, rfl, rfl, h1, r1⟩ := trodAll_cons r0
  obtain ⟨rfl, rfl, rfl⟩ := trodAll_nil r1
  obtain rfl : args = #[v0, v1] := by cases args; simp_all
  obtain ⟨rfl, rfl⟩ := trodVars_none hV
  obtain ⟨a0, rfl, rfl, rfl, w0⟩ := open_int Try.underlying3 (hval 0 3 v0 rfl rfl) h0
  clear hA0 hval0
  simp only [List.append_nil] at hW'
  have walk : Calls Try.prog 4 #[.int .i64 a0, v1] W fun e w' => e = .returned (.bool true) ∧ Framed W w' := by
    rcases open_rowsR Try.underlying22 cells29 (by decide) flat29 (hval 1 22 v1 rfl rfl) h1 with rfl | ⟨b, o, len, cap, rfl, hlen, hrow⟩
    · exact first_nil W a0
    · rcases Nat.eq_zero_or_pos len with rfl | hpos
      · exact first_zero W a0 b o cap
      · obtain ⟨u, hu, _⟩ := hrow hpos
        exact first_walk W a0 u len b o cap hu
  refine walk.mono fun e W' ⟨he, hg⟩ => ?_
  refine ⟨_, he, ?_⟩
  exact law_shut (tb := 4) laidOut (readable4) (by kernel_rfl) Try.underlying4 hW' rfl rfl rfl rfl (below_of_framed hg)

theorem overLeastFirst : Rows.leastFirstRow.holds Try.pinned (OpenSpec.ofChange Rows.leastFirstSpec) :=
  OpenClaim.holds_of_wide 4 Try.f4 rfl rfl rfl rfl rfl rfl rfl ⟨rfl, rfl, rfl, rfl, rfl⟩ rfl rfl rfl rfl rfl leastFirst_named Try.func4 leastFirst_closed leastFirst_inst leastFirst_wrap
    (fun os started H enc _ => liftedLeastFirst os started H enc)

end Fi
/-- The statement. -/
theorem provedLeastFirst : Rows.LeastFirstSaid :=
  Fi.overLeastFirst

end Go.Proofs.Ytlcjgmehccopkaa
