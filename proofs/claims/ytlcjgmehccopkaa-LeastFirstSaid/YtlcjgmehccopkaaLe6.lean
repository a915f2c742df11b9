/-
  Least (6): LeastHolds answers true, for every input; the row.
-/
import Derived.Test.YtlcjgmehccopkaaLe5
import Derived.Test.YtlcjgmehccopkaaRw
import Derived.Test.YtlcjgmehccopkaaFt1
import Derived.WalkKit
import Derived.ProofKit
import Derived.OpenShut
namespace Go.Proofs.Ytlcjgmehccopkaa
open Go.ChangeShapes Go.WideShapes Go.ChangeAt Go.RowKit Go.Vm Go.Vm.Le
set_option linter.unusedVariables false

def F02 : Nat → Int → Int → Int := fun k => if k = 70 then upC else downC
def envO (a0 : Int) (n cap o : Nat) (v : Value) (b : Nat) : Env := ⟨fun i => if i = 0 then a0 else if i = 10 then n else if i = 11 then o else if i = 12 then cap else 0, fun _ => false, fun _ => default, fun _ => v, fun i => if i = 0 then some b else none, F02⟩
theorem GL_O {a0 : Int} {n cap o : Nat} {v : Value} {b : Nat} : GL.at (envO a0 n cap o v b) := ⟨rfl, rfl⟩
theorem opsD (a0 : Int) (n cap o : Nat) (v : Value) (b : Nat) : AVal.denL (envO a0 n cap o v b) [vI 0, opsA] = some [.int .i64 a0, .slice (some ⟨b, o, none⟩) n cap] := by
  have h0 : natOf ((IT.var 11).den (envO a0 n cap o v b)) = some o := rfl
  have h1 : natOf ((IT.var 10).den (envO a0 n cap o v b)) = some n := rfl
  have h2 : natOf ((IT.var 12).den (envO a0 n cap o v b)) = some cap := rfl
  have h3 : (envO a0 n cap o v b).N 0 = some b := rfl
  have h4 : (IT.var 0).den (envO a0 n cap o v b) = some a0 := rfl
  simp only [AVal.denL, vI, opsA, AVal.den, h0, h1, h2, h3, h4, Option.map_some]
theorem hrel_O (w : World) (a0 : Int) (n cap o : Nat) (v : Value) (b : Nat) : HRel (βL w) (envO a0 n cap o v b) .leaf 1 w :=
  ⟨(fun l k hl => by simp [Tr.get] at hl), (fun l l' k k' hl => by simp [Tr.get] at hl), (fun l k b hl => by simp [Tr.get] at hl), (fun i hi => by show (if i = 0 then some b else none) = none; rw [if_neg (by omega)]), (fun l hl => by cases hl), Nat.le_refl _, fun _ _ _ => rfl, rfl, rfl, rfl, GL_O⟩
theorem hrel_N (w : World) (a0 : Int) : HRel (βL w) ⟨fun _ => a0, fun _ => false, fun _ => default, fun _ => default, fun _ => none, F02⟩ .leaf 0 w := HRel.startG w _ (fun _ => rfl) ⟨rfl, rfl⟩
def csN : Cs := [(.cmp .geq (.var 10) (.lit 0), true), (.cmp .leq (.var 10) (.lit 200), true)]
def opsZ : AVal := .slice 0 (.var 11) (.lit 0) (.var 12)
theorem opsZD (a0 : Int) (n cap o : Nat) (v : Value) (b : Nat) : AVal.denL (envO a0 n cap o v b) [vI 0, opsZ] = some [.int .i64 a0, .slice (some ⟨b, o, none⟩) 0 cap] := by
  have h0 : natOf ((IT.var 11).den (envO a0 n cap o v b)) = some o := rfl
  have h1 : natOf ((IT.lit 0).den (envO a0 n cap o v b)) = some 0 := rfl
  have h2 : natOf ((IT.var 12).den (envO a0 n cap o v b)) = some cap := rfl
  have h3 : (envO a0 n cap o v b).N 0 = some b := rfl
  have h4 : (IT.var 0).den (envO a0 n cap o v b) = some a0 := rfl
  simp only [AVal.denL, vI, opsZ, AVal.den, h0, h1, h2, h3, h4, Option.map_some]
def fBig : Cs := [(.cmp .gtr (.var 10) (.lit 200), true)]

-- LEASTHOLDS
theorem run3n : (run Try.prog [] sp02 4000 false 3 (entry Try.f3 (Try.f3.body.getD .ret) [vI 0, .sliceNil] .leaf 0 [])).map (·.all (leafB (.lit true))) = some true := by kernel_rfl
theorem run3z : (run Try.prog [] sp02 4000 false 3 (entry Try.f3 (Try.f3.body.getD .ret) [vI 0, opsZ] .leaf 1 [])).map (·.all (leafB (.lit true))) = some true := by kernel_rfl
theorem run3g : (run Try.prog [] sp02 4000 false 3 (entry Try.f3 (Try.f3.body.getD .ret) [vI 0, opsA] .leaf 1 fBig)).map (·.all (leafB (.lit true))) = some true := by kernel_rfl
noncomputable def sums3e : List LS := [.ret (.bool (.lit true)) [((.cmp .lss (.var 0) (.lit 0)), true), ((.cmp .gtr (.var 10) (.lit 200)), false), ((.cmp .geq (.var 10) (.lit 0)), true), ((.cmp .leq (.var 10) (.lit 200)), true)],
  .ret (.bool (.lit true)) [((.cmp .gtr (.var 0) (.lit 65535)), true), ((.cmp .lss (.var 0) (.lit 0)), false), ((.cmp .gtr (.var 10) (.lit 200)), false), ((.cmp .geq (.var 10) (.lit 0)), true), ((.cmp .leq (.var 10) (.lit 200)), true)],
  .next 1 (.code (.loop hb0) :: hk0) [((.cmp .gtr (.var 0) (.lit 65535)), false), ((.cmp .lss (.var 0) (.lit 0)), false), ((.cmp .gtr (.var 10) (.lit 200)), false), ((.cmp .geq (.var 10) (.lit 0)), true), ((.cmp .leq (.var 10) (.lit 200)), true)] ⟨[(0, (.var 0)), (2, (.lit 0)), (1, (.lit 0)), (3, (.lit 0)), (4, (.lit 0))], [], [], [], [(1, 2), (0, 0), (2, 1)]⟩]
theorem run3e : (run Try.prog [] sp02 4000 true 3 (entry Try.f3 (Try.f3.body.getD .ret) [vI 0, opsA] (ofP [(0, opsB)]) 1 csN)).map (·.filterMap (sumL gH [T1, T0])) = some sums3e := by kernel_rfl
theorem holds_walk (W : World) (a0 : Int) (v : Value) (n b o cap : Nat) (hrow : RowAt W b o kOp n v) : Calls Try.prog 3 #[.int .i64 a0, .slice (some ⟨b, o, none⟩) n cap] W (fun e w' => e = .returned (.bool true) ∧ Framed W w') := by
  by_cases hb : n ≤ 200
  · have hr : HRel (βL W) (envO a0 n cap o v b) (ofP [(0, opsB)]) 1 W := HRel.row (a := 0) hrow rfl rfl (fun _ => rfl) ⟨rfl, rfl⟩
    have := calls_sums (β := βL W) (Q := QT) noCount noExt (sp02_ok W) follows rfl Try.func3 rfl run3e (opsD a0 n cap o v b) hr ?_ (fun s hs => ?_)
    · exact this.mono fun _ _ ⟨_, he, hv, hf⟩ => ⟨by rw [he, hv], hf⟩
    · simp only [csN, CRel_cons, CRel_nil, and_true, BT.den, den_var, den_lit, intCmp, Option.some.injEq, decide_eq_true_eq]
      have e : (envO a0 n cap o v b).I 10 = (n : Int) := rfl
      rw [e]; omega
    · simp only [sums3e, List.mem_cons, List.not_mem_nil, or_false] at hs
      rcases hs with rfl | rfl | rfl
      · intro ρ' hle hc x hx; cases hx; rfl
      · intro ρ' hle hc x hx; cases hx; rfl
      · intro ρ' hle hc T hT hG
        have hT : T0 = T := by simpa using hT
        subst hT
        have e0 : ρ'.I 0 = a0 := by rw [hle.i]; rfl
        have e10 : ρ'.I 10 = (n : Int) := by rw [hle.i]; rfl
        simp only [CRel_cons, CRel_nil, and_true, BT.den, den_var, den_lit, e0, e10, intCmp, Option.some.injEq, decide_eq_true_eq, decide_eq_false_iff_not] at hc
        have s : S02 v n a0 0 0 [] [] ((⟨[(0, (.var 0)), (2, (.lit 0)), (1, (.lit 0)), (3, (.lit 0)), (4, (.lit 0))], [], [], [], [(1, 2), (0, 0), (2, 1)]⟩ : Sub).app ρ') :=
          ⟨e0, rfl, rfl, by show decL 0 = _; rw [decL_zero]; rfl, e10, by show ρ'.V 0 = v; rw [hle.v]; rfl, by omega, hb, by omega, by omega, Stk.new (by omega)⟩
        exact ⟨hG, s.ci, fun a w' r => loopH0 _ ⟨0, 0, [], s, rfl⟩ _ a w' (.inr rfl) r⟩
  · refine calls_true (β := βL W) noExt (sp02_ok W) rfl Try.func3 rfl run3g (opsD a0 n cap o v b) (hrel_O W a0 n cap o v b) (CRel_cons.2 ⟨?_, CRel_nil.2 trivial⟩)
    have e : (IT.var 10).den (envO a0 n cap o v b) = some (n : Int) := rfl
    simp only [BT.den, e, den_lit, intCmp, Option.some.injEq, decide_eq_true_eq]
    omega
theorem holds_nil (W : World) (a0 : Int) : Calls Try.prog 3 #[.int .i64 a0, .slice none 0 0] W (fun e w' => e = .returned (.bool true) ∧ Framed W w') :=
  calls_true (β := βL W) noExt (sp02_ok W) rfl Try.func3 rfl run3n (xs := [.int .i64 a0, .slice none 0 0]) rfl (hrel_N W a0) (fun _ h => by cases h)
theorem holds_zero (W : World) (a0 : Int) (b o cap : Nat) : Calls Try.prog 3 #[.int .i64 a0, .slice (some ⟨b, o, none⟩) 0 cap] W (fun e w' => e = .returned (.bool true) ∧ Framed W w') :=
  calls_true (β := βL W) noExt (sp02_ok W) rfl Try.func3 rfl run3z (opsZD a0 0 cap o (.agg #[]) b) (hrel_O W a0 0 cap o (.agg #[]) b) (fun _ h => by cases h)

-- THE ROW
theorem own : ownKnob Try.prog.godebug = none := by kernel_rfl
theorem laidOut : laidOutB Try.prog = true := leastHolds_k1
theorem readable_of {f : Func} (h : f.params.toList.all (fun t => Try.prog.readableRec t && Nat.blt t Try.prog.types.size) = true) : ∀ t ∈ f.params.toList, Try.prog.readableRec t = true ∧ t < Try.prog.types.size := fun t ht => by
  have := List.all_eq_true.1 h t ht
  simp only [Bool.and_eq_true] at this
  exact ⟨this.1, Nat.le_of_ble_eq_true this.2⟩
theorem readable3 : ∀ t ∈ Try.f3.params.toList, Try.prog.readableRec t = true ∧ t < Try.prog.types.size := readable_of (by kernel_rfl)
theorem cells29 : Try.prog.cellsOf 29 = kOp.length := by kernel_rfl
theorem flat29 : flat Try.prog 3 29 = some kOp := by kernel_rfl
set_option maxRecDepth 100000 in
theorem liftedLeastHolds (os : Os) (started : os.Started) (H : Type) (enc : TypeId × Value → H) :
    ReturnsInHanded {} Try.checked os 3 .any (Rows.leastHoldsSpec.pre6 enc Try.prog Try.f3 Rows.leastHoldsRow.domain false) (Rows.leastHoldsSpec.post enc Try.prog Try.f3 false true false false) := by
  refine returnsInHanded_of_change (C := Try.checked) own started (by kernel_rfl) Try.func3
    (ChangeSpec.witness6 (enc := enc) (C := Try.checked) false ⟨#[], #[.int .i64 0, .slice none 0 0], []⟩ 8 (by kernel_rfl) (by kernel_rfl) (by kernel_rfl) (by kernel_rfl)) ?_
  intro W base args ds gs before hval0 hW hcnd _
  have hval : ∀ (j : Nat) t v, Try.f3.params[j]? = some t → args[j]? = some v → Value.okWide Try.prog W .any base t v := hval0
  have hW' := hW
  obtain ⟨p, q, hA0, hV, rfl, hfz, hnd⟩ := hW
  have hA : DataW.TrodAll enc Try.prog W 0 (fun _ => true) true Try.f3.params.toList args.toList ds p := hA0
  rw [Try.params3] at hA hval
  obtain ⟨v0, vs0, d0, ds0, p0, q0, hargs, rfl, rfl, h0, r0⟩ := trodAll_cons hA
  obtain ⟨v1, vs1, d1, ds1, p1, q1, rfl, rfl, rfl, h1, r1⟩ := trodAll_cons r0
  obtain ⟨rfl, rfl, rfl⟩ := trodAll_nil r1
  obtain rfl : args = #[v0, v1] := by cases args; simp_all
  obtain ⟨rfl, rfl⟩ := trodVars_none hV
  obtain ⟨a0, rfl, rfl, rfl, w0⟩ := open_int Try.underlying3 (hval 0 3 v0 rfl rfl) h0
  clear hA0 hval0
  simp only [List.append_nil] at hW'
  have walk : Calls Try.prog 3 #[.int .i64 a0, v1] W fun e w' => e = .returned (.bool true) ∧ Framed W w' := by
    rcases open_rowsR Try.underlying22 cells29 (by decide) flat29 (hval 1 22 v1 rfl rfl) h1 with rfl | ⟨b, o, len, cap, rfl, hlen, hrow⟩
    · exact holds_nil W a0
    · rcases Nat.eq_zero_or_pos len with rfl | hpos
      · exact holds_zero W a0 b o cap
      · obtain ⟨u, hu, _⟩ := hrow hpos
        exact holds_walk W a0 u len b o cap hu
  refine walk.mono fun e W' ⟨he, hg⟩ => ?_
  refine ⟨_, he, ?_⟩
  exact law_shut (tb := 4) laidOut (readable3) (by kernel_rfl) Try.underlying4 hW' rfl rfl rfl rfl (below_of_framed hg)

theorem overLeastHolds : Rows.leastHoldsRow.holds Try.pinned (OpenSpec.ofChange Rows.leastHoldsSpec) :=
  OpenClaim.holds_of_wide 3 Try.f3 rfl rfl rfl rfl rfl rfl rfl ⟨rfl, rfl, rfl, rfl, rfl⟩ rfl rfl rfl rfl rfl leastHolds_named Try.func3 leastHolds_closed leastHolds_inst leastHolds_wrap
    (fun os started H enc _ => liftedLeastHolds os started H enc)

/-- The statement. -/
theorem provedLeastHolds : Rows.LeastHoldsSaid :=
  overLeastHolds

end Go.Proofs.Ytlcjgmehccopkaa
