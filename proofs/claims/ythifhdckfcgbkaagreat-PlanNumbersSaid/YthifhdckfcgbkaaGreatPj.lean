/-
  Plans (11): the two laws' walks.
-/
import Derived.Test.YthifhdckfcgbkaaGreatPi
import Derived.Test.YthifhdckfcgbkaaGreatPd
namespace Go.Proofs.YthifhdckfcgbkaaGreat
open Go.Vm
namespace Pln

theorem calls_ret {β : Base} {E : Exts} (hE : ExtOk Tryz.prog E) {sp : CallF} (hsp : CallOk Tryz.prog β sp) (hown : β.own = []) {n : Nat} {f : FuncId} {fn : Func} {c : Code} {args : List AVal} {xs : List Value} {H : Heap} {nl : Nat} {cs : Cs} {ρ : Env} {w : World} {u : AVal} {v : Value}
    (hf : Tryz.prog.funcs[f]? = some fn) (hb : fn.body = some c) (hrun : (run Tryz.prog E sp n false f (entry fn c args H nl cs)).map (·.all (retIs u)) = some true) (hx : AVal.denL ρ args = some xs) (hr : HRel β ρ H nl w) (hcs : CRel ρ cs) (hu : ∀ ρ', ρ.Le ρ' → u.den ρ' = some v) :
    Calls Tryz.prog f xs.toArray w (fun e w' => e = .returned v ∧ Framed β.w0 w') := by
  obtain ⟨ls, hls, hall⟩ := Option.map_eq_some_iff.1 hrun
  refine (run_calls noCount hE hsp follows hf hb hls hx hr hcs (R := fun x w' => x = v ∧ Framed β.w0 w') (fun l hl => ?_)).mono fun e w' ⟨x, he, hv, hfr⟩ => ⟨by rw [he, hv], hfr⟩
  have h1 := List.all_eq_true.1 hall l hl
  cases l with
  | stop cs' => exact dead_ok h1
  | pause S => cases h1
  | ret v' H nl cs' =>
    intro ρ' w' x hle hxd hr' hc'
    have := AVal.beq_eq _ _ h1
    subst this
    rw [hu ρ' hle] at hxd
    exact ⟨(Option.some.inj hxd).symm, ⟨hr'.size, fun b hb => hr'.frame b hb (fun l hl => by rw [hown] at hl; cases hl), hr'.tape, hr'.os, hr'.out⟩⟩

-- A PLAN THAT IS NOT RIGHT
def tab1 : List (List IT × Nat) := [(vs 10 (.var 12), 0)]
def sp1 : CallF := spL [(18, spRt tab1)]
def G1 (A E P K S s : Int) : GP := fun I B _ _ _ => I 10 = s ∧ I 11 = A ∧ I 12 = E ∧ I 13 = P ∧ I 14 = K ∧ I 15 = S ∧ B 0 = RtB A E P K S
theorem run_no : (run Tryz.prog [] sp1 4000 false 17 (entry Tryz.f17 (Tryz.f17.body.getD .ret) [p6] .leaf 0 [(.var 0, false)])).map (·.all (retIs (.tuple [.sliceNil, .int .i64 (.lit 2)]))) = some true := by kernel_rfl
/-- What 'Right' says, under its name. -/
theorem spRt1_ok {β : Base} {A E P K S s : Int} (hG : ∀ ρ : Env, β.G ρ.I ρ.B ρ.S ρ.V ρ.F → (G1 A E P K S s).at ρ) : SpGOk Tryz.prog β 18 (spRt tab1) := by
  intro args H nl cs ls ρ w xs hr hx hh hc
  obtain ⟨k, hk, rfl⟩ := Option.map_eq_some_iff.1 hr
  unfold argK at hk
  split at hk
  rotate_left
  · cases hk
  rename_i l
  obtain ⟨ts, hts, hk⟩ := Option.bind_eq_some_iff.1 hk
  have hm := tabOf_mem hk
  simp only [tab1, List.mem_cons, Prod.mk.injEq, List.not_mem_nil, or_false] at hm
  obtain ⟨rfl, rfl⟩ := hm
  obtain ⟨g0, g1, g2, g3, g4, g5, g6⟩ := hG ρ hh.g
  have hd : AVal.denL ρ l = some [.int .i64 s, .int .i64 A, .int .i64 E, .int .i64 P, .int .i64 K, .int .i64 S] := by
    rw [intsOf_eq hts]
    simp only [vs, List.map_cons, List.map_nil, AVal.denL, AVal.den, IT.den, g0, g1, g2, g3, g4, g5, Option.map_some]
  simp only [AVal.denL, AVal.den, hd, Option.map_some, Option.some.injEq] at hx
  subst hx
  exact spV_ok (right_18 w A E P K S s) (by simp only [AVal.den, BT.den, g6, Option.map_some]) hh hc
theorem no17 (w : World) (A E P K S s : Int) (h : RtB A E P K S = false) : Calls Tryz.prog 17 #[planV A E P K S s] w (fun e w' => e = .returned (.tuple #[.slice none 0 0, .int .i64 2]) ∧ Framed w w') := by
  let ρ : Env := { envP A E P K S s 0 with B := fun _ => RtB A E P K S }
  refine calls_ret (β := ⟨w, [], G1 A E P K S s⟩) (ρ := ρ) noExt (spL_ok fun p hp => ?_) rfl Tryz.func17 rfl run_no (xs := [planV A E P K S s]) rfl (HRel.startG w ρ (fun _ => rfl) ⟨rfl, rfl, rfl, rfl, rfl, rfl, rfl⟩) (CRel_cons.2 ⟨?_, CRel_nil.2 trivial⟩) (fun ρ' hle => rfl)
  · simp only [List.mem_cons, List.not_mem_nil, or_false] at hp
    obtain rfl := hp
    exact spRt1_ok (fun ρ h => h)
  · show some (RtB A E P K S) = some false
    rw [h]
theorem spEvP_ok {β : Base} {tab : List (List IT × Nat)} (hT : ∀ ρ : Env, β.G ρ.I ρ.B ρ.S ρ.V ρ.F → ∀ us k, (us, k) ∈ tab → TabOk ρ us k) : SpGOk Tryz.prog β 17 (spEvP tab) := by
  intro args H nl cs ls ρ w xs hr hx hh hc
  unfold spEvP at hr
  split at hr
  rotate_left
  · cases hr
  rename_i k hk
  simp only [Option.some.injEq] at hr
  subst hr
  obtain ⟨A, E, P, K, S, s, rfl, hB, hR⟩ := argK_ok hk (hT ρ hh.g) hx
  cases hb : RtB A E P K S with
  | true =>
    obtain ⟨hV, hI⟩ := hR hb
    refine (events17 w A E P K S s (RtB_iff.1 hb)).mono fun e w2 ⟨v, he, z, hv, hz⟩ => ⟨v, he, ?_⟩
    subst hv
    have hz' : EvRow A E P K S s w z w2 := by
      unfold EvRow at hz ⊢
      rw [rowE_mod] at hz; exact hz
    obtain ⟨ρ', hle, hd, hH⟩ := row_adopt hh (RtB_iff.1 hb) hz' hV hI
    refine ⟨_, _, _, _, ρ', List.mem_cons_self, hle, den_tuple2 hd rfl, hH, CRel_cons.2 ⟨?_, hc.mono hle⟩⟩
    show some (ρ'.B k) = some true
    rw [hle.b, hB, hb]
  | false =>
    refine (no17 w A E P K S s hb).mono fun e w2 ⟨he, hf⟩ => ⟨_, he, _, _, _, _, ρ, List.mem_cons_of_mem _ List.mem_cons_self, Env.Le.refl ρ, rfl, hh.framed hf, CRel_cons.2 ⟨?_, hc⟩⟩
    show some (ρ.B k) = some false
    rw [hB, hb]

-- THE EVENTS OF PLANS
def tab5 : List (List IT × Nat) := [(vs 10 (.var 12), 0), (vs 10 (.lit 300), 1)]
def sp5 : CallF := spL [(16, spTrue), (17, spEvP tab5), (18, spRt tab5), (19, spRt tab5), (21, spI1 50), (22, spI1 50), (23, spEvR tab5)]
/-- What stands under the names of the plan k. -/
def GK (k : Nat) (A E P K S s : Int) : GP := fun I B _ V _ => B k = RtB A E P K S ∧ (RtB A E P K S = true → V k = .agg (rowE A P K S s E.toNat).toArray ∧ I (70 + k) = 2 * A + E)
def G5 (A E P K S s : Int) : GP := fun I B S' V F => (I 10 = s ∧ I 11 = A ∧ I 12 = E ∧ I 13 = P ∧ I 14 = K ∧ I 15 = S) ∧ F = FP ∧ GK 0 A E P K S s I B S' V F ∧ GK 1 A 300 P K S s I B S' V F
theorem tab5_ok {A E P K S s : Int} {ρ : Env} (h : (G5 A E P K S s).at ρ) : ∀ us k, (us, k) ∈ tab5 → TabOk ρ us k := by
  intro us k hm
  obtain ⟨⟨g0, g1, g2, g3, g4, g5⟩, _, k0, k1⟩ := h
  simp only [tab5, List.mem_cons, Prod.mk.injEq, List.not_mem_nil, or_false] at hm
  rcases hm with ⟨rfl, rfl⟩ | ⟨rfl, rfl⟩
  · exact ⟨A, E, P, K, S, s, by simp only [vs, List.map_cons, List.map_nil, AVal.denL, AVal.den, IT.den, g0, g1, g2, g3, g4, g5, Option.map_some], k0⟩
  · exact ⟨A, 300, P, K, S, s, by simp only [vs, List.map_cons, List.map_nil, AVal.denL, AVal.den, IT.den, g0, g1, g3, g4, g5, Option.map_some], k1⟩
theorem sp5_ok {A E P K S s : Int} (w : World) : CallOk Tryz.prog ⟨w, [], G5 A E P K S s⟩ sp5 := by
  refine spL_ok fun p hp => ?_
  simp only [List.mem_cons, List.not_mem_nil, or_false] at hp
  have hF : ∀ I B S' V F, G5 A E P K S s I B S' V F → ∀ x, F 50 x 0 = nxS x := fun _ _ _ _ F h x => by rw [show F = FP from h.2.1]; rfl
  rcases hp with rfl | rfl | rfl | rfl | rfl | rfl | rfl
  · exact spTrue_ok first35
  · exact spEvP_ok fun _ h => tab5_ok h
  · exact spRt_ok (fun _ h => tab5_ok h) right_18
  · exact spRt_ok (fun _ h => tab5_ok h) right_19
  · exact spI1_ok next21 hF
  · exact spI1_ok next22 hF
  · exact spEvR_ok fun _ h => tab5_ok h
noncomputable def db0 : Code := ((loopsOf (Tryz.f5.body.getD .ret) []).getD 0 (.ret, [])).1
noncomputable def dk0 : List Item := ((loopsOf (Tryz.f5.body.getD .ret) []).getD 0 (.ret, [])).2
def L5 (k : Nat) : Tpl := ⟨[(3, .slice 0 (.lit 0) (.var (70 + k)) (.nv 1)), (5, .slice 2 (.lit 0) (.var (70 + k)) (.nv 3)), (62, .int .i64 (.var (70 + k))), (63, iv 0)], 76, [(0, rowK k), (2, rowK k)], 4, [ge 0 0, (.cmp .leq (.var 0) (.var (70 + k)), true)], 3⟩
def g1 : Gen := ⟨1, 0, 0, 0⟩
noncomputable def sums_d : List LS := [.next 1 (.code (.loop db0) :: dk0) [((.cmp .neq (.var 71) (.var 71)), false), ((.cmp .neq (.fn 50 (.var 10) (.lit 0)) (.fn 50 (.var 10) (.lit 0))), false), ((.var 1), true), ((.cmp .leq (.var 12) (.lit 5000)), true), ((.cmp .gtr (.var 12) (.lit 300)), true)] ⟨[(0, (.lit 0))], [], [], [], [(0, 1), (1, 2), (2, 9), (3, 10)]⟩,
  .ret (.bool (.lit true)) [((.cmp .neq (.fn 50 (.var 10) (.lit 0)) (.fn 50 (.var 10) (.lit 0))), false), ((.var 1), false), ((.cmp .leq (.var 12) (.lit 5000)), true), ((.cmp .gtr (.var 12) (.lit 300)), true)],
  .next 0 (.code (.loop db0) :: dk0) [((.cmp .neq (.var 70) (.var 70)), false), ((.cmp .neq (.fn 50 (.var 10) (.lit 0)) (.fn 50 (.var 10) (.lit 0))), false), ((.var 0), true), ((.cmp .leq (.var 12) (.lit 5000)), false), ((.cmp .gtr (.var 12) (.lit 300)), true)] ⟨[(0, (.lit 0))], [], [], [], [(0, 1), (1, 2), (2, 9), (3, 10)]⟩,
  .ret (.bool (.lit true)) [((.cmp .neq (.fn 50 (.var 10) (.lit 0)) (.fn 50 (.var 10) (.lit 0))), false), ((.var 0), false), ((.cmp .leq (.var 12) (.lit 5000)), false), ((.cmp .gtr (.var 12) (.lit 300)), true)],
  .next 0 (.code (.loop db0) :: dk0) [((.cmp .neq (.var 70) (.var 70)), false), ((.cmp .neq (.fn 50 (.var 10) (.lit 0)) (.fn 50 (.var 10) (.lit 0))), false), ((.var 0), true), ((.cmp .gtr (.var 12) (.lit 300)), false)] ⟨[(0, (.lit 0))], [], [], [], [(0, 1), (1, 2), (2, 9), (3, 10)]⟩,
  .ret (.bool (.lit true)) [((.cmp .neq (.fn 50 (.var 10) (.lit 0)) (.fn 50 (.var 10) (.lit 0))), false), ((.var 0), false), ((.cmp .gtr (.var 12) (.lit 300)), false)]]
noncomputable def sums_d0 : List LS := [.next 0 (.inLoop db0 :: dk0) [((.not (.and (.cmp .eql (.sel 0 8 0 (.var 0)) (.sel 0 8 0 (.var 0))) (.and (.cmp .eql (.sel 0 8 1 (.var 0)) (.sel 0 8 1 (.var 0))) (.and (.cmp .eql (.sel 0 8 2 (.var 0)) (.sel 0 8 2 (.var 0))) (.and (.cmp .eql (.sel 0 8 3 (.var 0)) (.sel 0 8 3 (.var 0))) (.and (.cmp .eql (.sel 0 8 4 (.var 0)) (.sel 0 8 4 (.var 0))) (.and (.cmp .eql (.sel 0 8 5 (.var 0)) (.sel 0 8 5 (.var 0))) (.and (.cmp .eql (.sel 0 8 6 (.var 0)) (.sel 0 8 6 (.var 0))) (.cmp .eql (.sel 0 8 7 (.var 0)) (.sel 0 8 7 (.var 0))))))))))), false), ((.cmp .lss (.var 0) (.var 70)), true), ((.cmp .geq (.var 0) (.lit 0)), true), ((.cmp .leq (.var 0) (.var 70)), true)] ⟨[(0, (.bin .add .i64 (.var 0) (.lit 1)))], [], [], [], [(0, 0), (1, 1), (2, 2), (3, 3)]⟩,
  .ret (.bool (.lit true)) [((.cmp .lss (.var 0) (.var 70)), false), ((.cmp .geq (.var 0) (.lit 0)), true), ((.cmp .leq (.var 0) (.var 70)), true)]]
noncomputable def sums_d1 : List LS := [.next 1 (.inLoop db0 :: dk0) [((.not (.and (.cmp .eql (.sel 1 8 0 (.var 0)) (.sel 1 8 0 (.var 0))) (.and (.cmp .eql (.sel 1 8 1 (.var 0)) (.sel 1 8 1 (.var 0))) (.and (.cmp .eql (.sel 1 8 2 (.var 0)) (.sel 1 8 2 (.var 0))) (.and (.cmp .eql (.sel 1 8 3 (.var 0)) (.sel 1 8 3 (.var 0))) (.and (.cmp .eql (.sel 1 8 4 (.var 0)) (.sel 1 8 4 (.var 0))) (.and (.cmp .eql (.sel 1 8 5 (.var 0)) (.sel 1 8 5 (.var 0))) (.and (.cmp .eql (.sel 1 8 6 (.var 0)) (.sel 1 8 6 (.var 0))) (.cmp .eql (.sel 1 8 7 (.var 0)) (.sel 1 8 7 (.var 0))))))))))), false), ((.cmp .lss (.var 0) (.var 71)), true), ((.cmp .geq (.var 0) (.lit 0)), true), ((.cmp .leq (.var 0) (.var 71)), true)] ⟨[(0, (.bin .add .i64 (.var 0) (.lit 1)))], [], [], [], [(0, 0), (1, 1), (2, 2), (3, 3)]⟩,
  .ret (.bool (.lit true)) [((.cmp .lss (.var 0) (.var 71)), false), ((.cmp .geq (.var 0) (.lit 0)), true), ((.cmp .leq (.var 0) (.var 71)), true)]]
theorem run_d : (run Tryz.prog [] sp5 4000 true 5 (entry Tryz.f5 (Tryz.f5.body.getD .ret) [p6] .leaf 0 [])).map (·.filterMap (sumL g1 [L5 0, L5 1])) = some sums_d := by kernel_rfl
theorem run_d0 : (run Tryz.prog [] sp5 4000 true 5 ((L5 0).st (.code db0 :: .inLoop db0 :: dk0))).map (·.filterMap (sumL g1 [L5 0, L5 1])) = some sums_d0 := by kernel_rfl
theorem run_d1 : (run Tryz.prog [] sp5 4000 true 5 ((L5 1).st (.code db0 :: .inLoop db0 :: dk0))).map (·.filterMap (sumL g1 [L5 0, L5 1])) = some sums_d1 := by kernel_rfl
theorem loop_d0 (w0 : World) {A E P K S s : Int} : ∀ ρ, GP.at (fun I _ _ _ _ => ∃ i : Nat, I 0 = i ∧ (i : Int) ≤ I 70 ∧ I 70 ≤ 10000000) ρ → ∀ todo a w, todo = .inLoop db0 :: dk0 ∨ todo = .code (.loop db0) :: dk0 → SRel ⟨w0, [], G5 A E P K S s⟩ ρ ((L5 0).st todo) a w →
    Goes Tryz.prog 5 (fun x w' => x = .bool true ∧ Framed w0 w') todo a w := by
  refine loop_goes (β := ⟨w0, [], G5 A E P K S s⟩) noCount noExt (sp5_ok w0) follows rfl run_d0 (fun I _ _ _ _ => ∃ i : Nat, I 0 = i ∧ (i : Int) ≤ I 70 ∧ I 70 ≤ 10000000) (fun ρ => (ρ.I 70 - ρ.I 0).toNat) (fun ρ hJ hcs hG ih q hq => ?_)
  obtain ⟨i, j0, j1, j2⟩ := hJ
  simp only [sums_d0, List.mem_cons, List.not_mem_nil, or_false] at hq
  rcases hq with rfl | rfl
  · intro ρ' hle hc T hT hG'
    have e2 : ρ'.I = ρ.I := hle.i
    obtain rfl : L5 0 = T := by simpa using hT
    obtain ⟨-, hc⟩ := CRel_cons.1 hc
    simp only [CRel_cons, CRel_nil, and_true, BT.den, IT.den, e2, j0, intCmp, Option.some.injEq, decide_eq_true_eq] at hc
    have e0 : IntKind.i64.wrap (ρ'.I 0 + 1) = ((i + 1 : Nat) : Int) := by rw [e2, j0, wrap_ok (by omega) (by omega)]; omega
    refine ⟨hG', CRel_cons.2 ⟨?_, CRel_cons.2 ⟨?_, CRel_nil.2 trivial⟩⟩, fun a w r => ih _ ?_ ?_ _ a w (.inl rfl) r⟩
    · show some (decide (IntKind.i64.wrap (ρ'.I 0 + 1) ≥ 0)) = some true
      rw [e0]; simp only [Option.some.injEq, decide_eq_true_eq]; omega
    · show some (decide (IntKind.i64.wrap (ρ'.I 0 + 1) ≤ ρ'.I 70)) = some true
      rw [e0, e2]; simp only [Option.some.injEq, decide_eq_true_eq]; omega
    · show (ρ'.I 70 - IntKind.i64.wrap (ρ'.I 0 + 1)).toNat < (ρ.I 70 - ρ.I 0).toNat
      rw [e0, e2, j0]; omega
    · exact ⟨i + 1, e0, by show ((i + 1 : Nat) : Int) ≤ ρ'.I 70; rw [e2]; omega, by show ρ'.I 70 ≤ _; rw [e2]; exact j2⟩
  · intro ρ' hle hc u hu
    simp only [AVal.den, BT.den, Option.map_some, Option.some.injEq] at hu
    exact hu.symm
theorem loop_d1 (w0 : World) {A E P K S s : Int} : ∀ ρ, GP.at (fun I _ _ _ _ => ∃ i : Nat, I 0 = i ∧ (i : Int) ≤ I 71 ∧ I 71 ≤ 10000000) ρ → ∀ todo a w, todo = .inLoop db0 :: dk0 ∨ todo = .code (.loop db0) :: dk0 → SRel ⟨w0, [], G5 A E P K S s⟩ ρ ((L5 1).st todo) a w →
    Goes Tryz.prog 5 (fun x w' => x = .bool true ∧ Framed w0 w') todo a w := by
  refine loop_goes (β := ⟨w0, [], G5 A E P K S s⟩) noCount noExt (sp5_ok w0) follows rfl run_d1 (fun I _ _ _ _ => ∃ i : Nat, I 0 = i ∧ (i : Int) ≤ I 71 ∧ I 71 ≤ 10000000) (fun ρ => (ρ.I 71 - ρ.I 0).toNat) (fun ρ hJ hcs hG ih q hq => ?_)
  obtain ⟨i, j0, j1, j2⟩ := hJ
  simp only [sums_d1, List.mem_cons, List.not_mem_nil, or_false] at hq
  rcases hq with rfl | rfl
  · intro ρ' hle hc T hT hG'
    have e2 : ρ'.I = ρ.I := hle.i
    obtain rfl : L5 1 = T := by simpa using hT
    obtain ⟨-, hc⟩ := CRel_cons.1 hc
    simp only [CRel_cons, CRel_nil, and_true, BT.den, IT.den, e2, j0, intCmp, Option.some.injEq, decide_eq_true_eq] at hc
    have e0 : IntKind.i64.wrap (ρ'.I 0 + 1) = ((i + 1 : Nat) : Int) := by rw [e2, j0, wrap_ok (by omega) (by omega)]; omega
    refine ⟨hG', CRel_cons.2 ⟨?_, CRel_cons.2 ⟨?_, CRel_nil.2 trivial⟩⟩, fun a w r => ih _ ?_ ?_ _ a w (.inl rfl) r⟩
    · show some (decide (IntKind.i64.wrap (ρ'.I 0 + 1) ≥ 0)) = some true
      rw [e0]; simp only [Option.some.injEq, decide_eq_true_eq]; omega
    · show some (decide (IntKind.i64.wrap (ρ'.I 0 + 1) ≤ ρ'.I 71)) = some true
      rw [e0, e2]; simp only [Option.some.injEq, decide_eq_true_eq]; omega
    · show (ρ'.I 71 - IntKind.i64.wrap (ρ'.I 0 + 1)).toNat < (ρ.I 71 - ρ.I 0).toNat
      rw [e0, e2, j0]; omega
    · exact ⟨i + 1, e0, by show ((i + 1 : Nat) : Int) ≤ ρ'.I 71; rw [e2]; omega, by show ρ'.I 71 ≤ _; rw [e2]; exact j2⟩
  · intro ρ' hle hc u hu
    simp only [AVal.den, BT.den, Option.map_some, Option.some.injEq] at hu
    exact hu.symm
noncomputable def env5 (A E P K S s : Int) : Env := ⟨fun i => if i = 70 then 2 * A + E else if i = 71 then 2 * A + 300 else [0, 0, 0, 0, 0, 0, 0, 0, 0, 0, s, A, E, P, K, S].getD i 0, fun i => if i = 0 then RtB A E P K S else RtB A 300 P K S, fun _ => default, fun i => if i = 0 then .agg (rowE A P K S s E.toNat).toArray else .agg (rowE A P K S s 300).toArray, fun _ => none, FP⟩
theorem draws_walk (w : World) (A E P K S s : Int) : Calls Tryz.prog 5 #[planV A E P K S s] w (fun e w' => e = .returned (.bool true) ∧ Framed w w') := by
  have hG : (G5 A E P K S s).at (env5 A E P K S s) := ⟨⟨rfl, rfl, rfl, rfl, rfl, rfl⟩, rfl, ⟨rfl, fun _ => ⟨rfl, rfl⟩⟩, ⟨rfl, fun _ => ⟨rfl, rfl⟩⟩⟩
  refine calls_eq (calls_sums (β := ⟨w, [], G5 A E P K S s⟩) (ρ := env5 A E P K S s) noCount noExt (sp5_ok w) follows rfl Tryz.func5 rfl run_d (xs := [planV A E P K S s]) rfl (HRel.startG w _ (fun _ => rfl) hG) (fun _ h => by cases h) (fun q hq => ?_))
  simp only [sums_d, List.mem_cons, List.not_mem_nil, or_false] at hq
  have fin : ∀ (k : Nat) (ρ' : Env) (A E P K S s : Int), GP.at (GK k A E P K S s) ρ' → ρ'.B k = true → 0 ≤ ρ'.I (70 + k) ∧ ρ'.I (70 + k) ≤ 10000000 := fun k ρ' A E P K S s hK hB => by
    obtain ⟨h1, h2⟩ := hK
    rw [hB] at h1
    obtain ⟨_, h3⟩ := h2 h1.symm
    have hr := RtB_iff.1 h1.symm
    have := hr.a1; have := hr.a2; have := hr.e1; have := hr.e2
    rw [h3]; omega
  rcases hq with rfl | rfl | rfl | rfl | rfl | rfl
  · intro ρ' hle hc T hT hG'
    obtain rfl : L5 1 = T := by simpa using hT
    have hB : ρ'.B 1 = true := by
      have := hc (.var 1, true) (by simp)
      simpa only [BT.den, Option.some.injEq] using this
    have hb := fin 1 ρ' A 300 P K S s hG'.2.2.2 hB
    refine ⟨hG', CRel_cons.2 ⟨rfl, CRel_cons.2 ⟨?_, CRel_nil.2 trivial⟩⟩, fun a w' r => loop_d1 w _ ?_ _ a w' (.inr rfl) r⟩
    · show some (decide ((0 : Int) ≤ ρ'.I 71)) = some true
      simp only [Option.some.injEq, decide_eq_true_eq]; exact hb.1
    · exact ⟨0, rfl, hb.1, hb.2⟩
  · intro ρ' hle hc u hu
    simp only [AVal.den, BT.den, Option.map_some, Option.some.injEq] at hu
    exact hu.symm
  · intro ρ' hle hc T hT hG'
    obtain rfl : L5 0 = T := by simpa using hT
    have hB : ρ'.B 0 = true := by
      have := hc (.var 0, true) (by simp)
      simpa only [BT.den, Option.some.injEq] using this
    have hb := fin 0 ρ' A E P K S s hG'.2.2.1 hB
    refine ⟨hG', CRel_cons.2 ⟨rfl, CRel_cons.2 ⟨?_, CRel_nil.2 trivial⟩⟩, fun a w' r => loop_d0 w _ ?_ _ a w' (.inr rfl) r⟩
    · show some (decide ((0 : Int) ≤ ρ'.I 70)) = some true
      simp only [Option.some.injEq, decide_eq_true_eq]; exact hb.1
    · exact ⟨0, rfl, hb.1, hb.2⟩
  · intro ρ' hle hc u hu
    simp only [AVal.den, BT.den, Option.map_some, Option.some.injEq] at hu
    exact hu.symm
  · intro ρ' hle hc T hT hG'
    obtain rfl : L5 0 = T := by simpa using hT
    have hB : ρ'.B 0 = true := by
      have := hc (.var 0, true) (by simp)
      simpa only [BT.den, Option.some.injEq] using this
    have hb := fin 0 ρ' A E P K S s hG'.2.2.1 hB
    refine ⟨hG', CRel_cons.2 ⟨rfl, CRel_cons.2 ⟨?_, CRel_nil.2 trivial⟩⟩, fun a w' r => loop_d0 w _ ?_ _ a w' (.inr rfl) r⟩
    · show some (decide ((0 : Int) ≤ ρ'.I 70)) = some true
      simp only [Option.some.injEq, decide_eq_true_eq]; exact hb.1
    · exact ⟨0, rfl, hb.1, hb.2⟩
  · intro ρ' hle hc u hu
    simp only [AVal.den, BT.den, Option.map_some, Option.some.injEq] at hu
    exact hu.symm

-- EVENTS THAT HAVE NUMBERS, AND ARE THE SAME AGAIN
def tab6 : List (List IT × Nat) := [(vs 10 (.mn (.var 12) (.lit 200)), 0), (vs 20 (.mn (.var 22) (.lit 200)), 1)]
def sp6 : CallF := spL [(16, spTrue), (17, spEvP tab6), (24, spA spEnc)]
def q6 : AVal := .agg [iv 20, iv 21, iv 22, iv 23, iv 24, iv 25]
def m200 (E : Int) : Int := if 200 < E then 200 else E
def G6 (A E P K S s A' E' P' K' S' s' : Int) : GP := fun I B S1 V F => (I 10 = s ∧ I 11 = A ∧ I 12 = E ∧ I 13 = P ∧ I 14 = K ∧ I 15 = S) ∧ (I 20 = s' ∧ I 21 = A' ∧ I 22 = E' ∧ I 23 = P' ∧ I 24 = K' ∧ I 25 = S') ∧ F = FP ∧ GK 0 A (m200 E) P K S s I B S1 V F ∧ GK 1 A' (m200 E') P' K' S' s' I B S1 V F
theorem spEnc_okP {β : Base} (hG : ∀ I B S V F, β.G I B S V F → F = FP) : SpGOk Tryz.prog β 24 (spA spEnc) := by
  intro args H nl cs ls ρ w xs hr hx hh hc
  unfold spA spEnc at hr
  split at hr
  · obtain ⟨k', w', o', n', c', y', a', b', h0, h1, h2, h3, h4, h5, h6, h7, rfl⟩ := den_ints8 hx
    obtain rfl := Option.some.inj hr
    have hF : ρ.F = FP := hG _ _ _ _ _ hh.g
    have p (a b : IT) (x y : Int) (ha : a.den ρ = some x) (hb : b.den ρ = some y) : (prT a b).den ρ = some (pr x y) := by
      rw [prT, den_fn ha hb, hF]; rfl
    have hX := den_fn (k := 20) (p _ _ _ _ (p _ _ _ _ h0 h1) (p _ _ _ _ h2 h3)) (p _ _ _ _ (p _ _ _ _ h4 h5) (p _ _ _ _ h6 h7))
    have hT := den_fn (k := 21) (p _ _ _ _ (p _ _ _ _ h0 h1) (p _ _ _ _ h2 h3)) (p _ _ _ _ (p _ _ _ _ h4 h5) (p _ _ _ _ h6 h7))
    rw [hF, show FP 20 = F1 20 from rfl, F1_x] at hX
    rw [hF, show FP 21 = F1 21 from rfl, F1_t] at hT
    refine (enc24 w k' w' o' n' c' y' a' b').mono fun e w2 ⟨v, hv, hq, hf⟩ => ⟨v, hv, ?_⟩
    rw [hq]
    by_cases hE : EncOk k' w' o' n' c' y' a' b'
    · rw [if_pos hE] at hX hT
      refine ⟨_, _, _, _, ρ, List.mem_cons_self, Env.Le.refl ρ, ?_, hh.framed hf, CRel_cons.2 ⟨?_, hc⟩⟩
      · simp only [encV, AVal.den, AVal.denL, BT.den, codeU, hX, Option.map_some]
        unfold encU; rw [if_pos hE]
      · simp only [codeU, BT.den, hT, den_lit, intCmp]; rfl
    · rw [if_neg hE] at hX hT
      refine ⟨_, _, _, _, ρ, List.mem_cons_of_mem _ List.mem_cons_self, Env.Le.refl ρ, ?_, hh.framed hf, CRel_cons.2 ⟨?_, hc⟩⟩
      · simp only [encV, AVal.den, AVal.denL, BT.den, codeU, hX, Option.map_some]
        unfold encU; rw [if_neg hE]
      · simp only [codeU, BT.den, hT, den_lit, intCmp]; rfl
  · cases hr
section
variable {A E P K S s A' E' P' K' S' s' : Int}
theorem tab6_ok {ρ : Env} (h : (G6 A E P K S s A' E' P' K' S' s').at ρ) : ∀ us k, (us, k) ∈ tab6 → TabOk ρ us k := by
  intro us k hm
  obtain ⟨⟨g0, g1, g2, g3, g4, g5⟩, ⟨q0, q1, q2, q3, q4, q5⟩, _, k0, k1⟩ := h
  simp only [tab6, List.mem_cons, Prod.mk.injEq, List.not_mem_nil, or_false] at hm
  rcases hm with ⟨rfl, rfl⟩ | ⟨rfl, rfl⟩
  · exact ⟨A, m200 E, P, K, S, s, by simp only [vs, List.map_cons, List.map_nil, AVal.denL, AVal.den, IT.den, g0, g1, g2, g3, g4, g5, Option.map_some, m200], k0⟩
  · exact ⟨A', m200 E', P', K', S', s', by simp only [vs, List.map_cons, List.map_nil, AVal.denL, AVal.den, IT.den, q0, q1, q2, q3, q4, q5, Option.map_some, m200], k1⟩
theorem sp6_ok (w : World) : CallOk Tryz.prog ⟨w, [], G6 A E P K S s A' E' P' K' S' s'⟩ sp6 := by
  refine spL_ok fun p hp => ?_
  simp only [List.mem_cons, List.not_mem_nil, or_false] at hp
  rcases hp with rfl | rfl | rfl
  · exact spTrue_ok first35
  · exact spEvP_ok fun _ h => tab6_ok h
  · exact spEnc_okP fun _ _ _ _ F h => h.2.2.1
end
noncomputable def nb0 : Code := ((loopsOf (Tryz.f6.body.getD .ret) []).getD 0 (.ret, [])).1
noncomputable def nk0 : List Item := ((loopsOf (Tryz.f6.body.getD .ret) []).getD 0 (.ret, [])).2
def L6 : Tpl := ⟨[(5, .slice 0 (.lit 0) (.var 70) (.nv 1)), (7, .slice 2 (.lit 0) (.var 70) (.nv 3)), (47, .int .i64 (.var 70)), (48, iv 0)], 80, [(0, rowK 0), (2, rowK 0)], 4, [ge 0 0, (.cmp .leq (.var 0) (.var 70), true)], 3⟩
def N6 : Tpl := ⟨[(5, .sliceNil), (7, .sliceNil), (47, .int .i64 (.lit 0)), (48, .int .i64 (.lit 0))], 80, [], 0, [], 3⟩
noncomputable def sums_n : List LS := [.next 0 (.code (.loop nb0) :: nk0) [((.cmp .neq (.var 70) (.var 70)), false), ((.var 0), true), ((.var 1), true), ((.var 0), true)] ⟨[(0, (.lit 0))], [], [], [], [(0, 2), (1, 3), (2, 6), (3, 7)]⟩,
  .ret (.bool (.lit false)) [((.var 0), false), ((.var 1), true), ((.var 0), true)],
  .next 0 (.code (.loop nb0) :: nk0) [((.cmp .neq (.var 70) (.var 70)), false), ((.var 0), true), ((.var 1), false), ((.var 0), true)] ⟨[(0, (.lit 0))], [], [], [], [(0, 2), (1, 3), (2, 4), (3, 5)]⟩,
  .ret (.bool (.lit false)) [((.var 0), false), ((.var 1), false), ((.var 0), true)],
  .ret (.bool (.lit false)) [((.var 0), true), ((.var 1), true), ((.var 0), false)],
  .next 1 (.code (.loop nb0) :: nk0) [((.var 0), false), ((.var 1), true), ((.var 0), false)] ⟨[], [], [], [], []⟩,
  .ret (.bool (.lit false)) [((.var 0), true), ((.var 1), false), ((.var 0), false)],
  .next 1 (.code (.loop nb0) :: nk0) [((.var 0), false), ((.var 1), false), ((.var 0), false)] ⟨[], [], [], [], []⟩]
noncomputable def sums_nn : List LS := [.ret (.bool (.lit true)) []]
noncomputable def sums_n6 : List LS := [.next 0 (.inLoop nb0 :: nk0) [((.not (.and (.cmp .eql (.sel 0 8 0 (.var 0)) (.sel 0 8 0 (.var 0))) (.and (.cmp .eql (.sel 0 8 1 (.var 0)) (.sel 0 8 1 (.var 0))) (.and (.cmp .eql (.sel 0 8 2 (.var 0)) (.sel 0 8 2 (.var 0))) (.and (.cmp .eql (.sel 0 8 3 (.var 0)) (.sel 0 8 3 (.var 0))) (.and (.cmp .eql (.sel 0 8 4 (.var 0)) (.sel 0 8 4 (.var 0))) (.and (.cmp .eql (.sel 0 8 5 (.var 0)) (.sel 0 8 5 (.var 0))) (.and (.cmp .eql (.sel 0 8 6 (.var 0)) (.sel 0 8 6 (.var 0))) (.cmp .eql (.sel 0 8 7 (.var 0)) (.sel 0 8 7 (.var 0))))))))))), false), ((.cmp .eql (.fn 21 (.fn 9 (.fn 9 (.sel 0 8 0 (.var 0)) (.sel 0 8 1 (.var 0))) (.fn 9 (.sel 0 8 2 (.var 0)) (.sel 0 8 3 (.var 0)))) (.fn 9 (.fn 9 (.sel 0 8 4 (.var 0)) (.sel 0 8 5 (.var 0))) (.fn 9 (.sel 0 8 6 (.var 0)) (.sel 0 8 7 (.var 0))))) (.lit 1)), true), ((.cmp .lss (.var 0) (.var 70)), true), ((.cmp .geq (.var 0) (.lit 0)), true), ((.cmp .leq (.var 0) (.var 70)), true)] ⟨[(0, (.bin .add .i64 (.var 0) (.lit 1)))], [], [], [], [(0, 0), (1, 1), (2, 2), (3, 3)]⟩,
  .ret (.bool (.lit false)) [((.cmp .eql (.fn 21 (.fn 9 (.fn 9 (.sel 0 8 0 (.var 0)) (.sel 0 8 1 (.var 0))) (.fn 9 (.sel 0 8 2 (.var 0)) (.sel 0 8 3 (.var 0)))) (.fn 9 (.fn 9 (.sel 0 8 4 (.var 0)) (.sel 0 8 5 (.var 0))) (.fn 9 (.sel 0 8 6 (.var 0)) (.sel 0 8 7 (.var 0))))) (.lit 1)), false), ((.cmp .lss (.var 0) (.var 70)), true), ((.cmp .geq (.var 0) (.lit 0)), true), ((.cmp .leq (.var 0) (.var 70)), true)],
  .ret (.bool (.lit true)) [((.cmp .lss (.var 0) (.var 70)), false), ((.cmp .geq (.var 0) (.lit 0)), true), ((.cmp .leq (.var 0) (.var 70)), true)]]
theorem run_n : (run Tryz.prog [] sp6 4000 true 6 (entry Tryz.f6 (Tryz.f6.body.getD .ret) [p6, q6] .leaf 0 [])).map (·.filterMap (sumL g1 [L6, N6])) = some sums_n := by kernel_rfl
theorem run_nn : (run Tryz.prog [] sp6 4000 true 6 (N6.st (.code nb0 :: .inLoop nb0 :: nk0))).map (·.filterMap (sumL g1 [L6, N6])) = some sums_nn := by kernel_rfl
theorem run_n6 : (run Tryz.prog [] sp6 4000 true 6 (L6.st (.code nb0 :: .inLoop nb0 :: nk0))).map (·.filterMap (sumL g1 [L6, N6])) = some sums_n6 := by kernel_rfl
section
variable {A E P K S s A' E' P' K' S' s' : Int}
theorem loop_nn (w0 : World) : ∀ ρ, GP.at (fun _ _ _ _ _ => True) ρ → ∀ todo a w, todo = .inLoop nb0 :: nk0 ∨ todo = .code (.loop nb0) :: nk0 → SRel ⟨w0, [], G6 A E P K S s A' E' P' K' S' s'⟩ ρ (N6.st todo) a w →
    Goes Tryz.prog 6 (fun x w' => x = .bool true ∧ Framed w0 w') todo a w := by
  refine loop_goes (β := ⟨w0, [], G6 A E P K S s A' E' P' K' S' s'⟩) noCount noExt (sp6_ok w0) follows rfl run_nn (fun _ _ _ _ _ => True) (fun _ => 0) (fun ρ hJ hcs hG ih q hq => ?_)
  simp only [sums_nn, List.mem_cons, List.not_mem_nil, or_false] at hq
  obtain rfl := hq
  intro ρ' hle hc u hu
  simp only [AVal.den, BT.den, Option.map_some, Option.some.injEq] at hu
  exact hu.symm
theorem loop_n6 (w0 : World) (hb : RtB A (m200 E) P K S = true) : ∀ ρ, GP.at (fun I _ _ _ _ => ∃ i : Nat, I 0 = i ∧ (i : Int) ≤ I 70) ρ → ∀ todo a w, todo = .inLoop nb0 :: nk0 ∨ todo = .code (.loop nb0) :: nk0 → SRel ⟨w0, [], G6 A E P K S s A' E' P' K' S' s'⟩ ρ (L6.st todo) a w →
    Goes Tryz.prog 6 (fun x w' => x = .bool true ∧ Framed w0 w') todo a w := by
  refine loop_goes (β := ⟨w0, [], G6 A E P K S s A' E' P' K' S' s'⟩) noCount noExt (sp6_ok w0) follows rfl run_n6 (fun I _ _ _ _ => ∃ i : Nat, I 0 = i ∧ (i : Int) ≤ I 70) (fun ρ => (ρ.I 70 - ρ.I 0).toNat) (fun ρ hJ hcs hG ih q hq => ?_)
  obtain ⟨i, j0, j1⟩ := hJ
  have hr := RtB_iff.1 hb
  have ha1 := hr.a1; have ha2 := hr.a2; have he1 := hr.e1; have he2 := hr.e2
  obtain ⟨hV, hI⟩ := hG.2.2.2.1.2 hb
  have hI : ρ.I 70 = 2 * A + m200 E := hI
  have hF : ρ.F = FP := hG.2.2.1
  simp only [sums_n6, List.mem_cons, List.not_mem_nil, or_false] at hq
  rcases hq with rfl | rfl | rfl
  · intro ρ' hle hc T hT hG'
    have e2 : ρ'.I = ρ.I := hle.i
    obtain rfl : L6 = T := by simpa using hT
    have hc := hc (.cmp .lss (.var 0) (.var 70), true) (by simp)
    simp only [BT.den, IT.den, e2, j0, intCmp, Option.some.injEq, decide_eq_true_eq] at hc
    have e0 : IntKind.i64.wrap (ρ'.I 0 + 1) = ((i + 1 : Nat) : Int) := by rw [e2, j0, wrap_ok (by omega) (by omega)]; omega
    refine ⟨hG', CRel_cons.2 ⟨?_, CRel_cons.2 ⟨?_, CRel_nil.2 trivial⟩⟩, fun a w r => ih _ ?_ ?_ _ a w (.inl rfl) r⟩
    · show some (decide (IntKind.i64.wrap (ρ'.I 0 + 1) ≥ 0)) = some true
      rw [e0]; simp only [Option.some.injEq, decide_eq_true_eq]; omega
    · show some (decide (IntKind.i64.wrap (ρ'.I 0 + 1) ≤ ρ'.I 70)) = some true
      rw [e0, e2]; simp only [Option.some.injEq, decide_eq_true_eq]; omega
    · show (ρ'.I 70 - IntKind.i64.wrap (ρ'.I 0 + 1)).toNat < (ρ.I 70 - ρ.I 0).toNat
      rw [e0, e2, j0]; omega
    · exact ⟨i + 1, e0, by show ((i + 1 : Nat) : Int) ≤ ρ'.I 70; rw [e2]; omega⟩
  · intro ρ' hle hc u hu
    exfalso
    obtain ⟨hc1, hc2⟩ := CRel_cons.1 hc
    have hc2 := hc2 (.cmp .lss (.var 0) (.var 70), true) (by simp)
    simp only [BT.den, IT.den, hle.i, j0, intCmp, Option.some.injEq, decide_eq_true_eq] at hc2
    have hok := sel_ok (rowE_ok hr s (m200 E).toNat) (i := i) (by omega)
    rw [← show ρ.V 0 = .agg (rowE A P K S s (m200 E).toNat).toArray from hV] at hok
    have hs : ∀ j, (IT.sel 0 8 j (.var 0)).den ρ' = some (selI (ρ.V 0) (i * 8 + j)) := fun j => by
      simp only [IT.den, hle.i, hle.v, j0, Option.map_some, Int.toNat_natCast]
    have p (a b : IT) (x y : Int) (ha : a.den ρ' = some x) (hb : b.den ρ' = some y) : (IT.fn 9 a b).den ρ' = some (pr x y) := by
      rw [den_fn ha hb, hle.f, hF]; rfl
    have hT := den_fn (k := 21) (p _ _ _ _ (p _ _ _ _ (hs 0) (hs 1)) (p _ _ _ _ (hs 2) (hs 3))) (p _ _ _ _ (p _ _ _ _ (hs 4) (hs 5)) (p _ _ _ _ (hs 6) (hs 7)))
    rw [hle.f, hF, show FP 21 = F1 21 from rfl, F1_t, if_pos hok] at hT
    simp only [BT.den, hT, den_lit, intCmp] at hc1
    cases hc1
  · intro ρ' hle hc u hu
    simp only [AVal.den, BT.den, Option.map_some, Option.some.injEq] at hu
    exact hu.symm
end
noncomputable def env6 (A E P K S s A' E' P' K' S' s' : Int) : Env := ⟨fun i => if i = 70 then 2 * A + m200 E else if i = 71 then 2 * A' + m200 E' else [0, 0, 0, 0, 0, 0, 0, 0, 0, 0, s, A, E, P, K, S, 0, 0, 0, 0, s', A', E', P', K', S'].getD i 0, fun i => if i = 0 then RtB A (m200 E) P K S else RtB A' (m200 E') P' K' S', fun _ => default, fun i => if i = 0 then .agg (rowE A P K S s (m200 E).toNat).toArray else .agg (rowE A' P' K' S' s' (m200 E').toNat).toArray, fun _ => none, FP⟩
theorem numbers_walk (w : World) (A E P K S s A' E' P' K' S' s' : Int) : Calls Tryz.prog 6 #[planV A E P K S s, planV A' E' P' K' S' s'] w (fun e w' => e = .returned (.bool true) ∧ Framed w w') := by
  have hG : (G6 A E P K S s A' E' P' K' S' s').at (env6 A E P K S s A' E' P' K' S' s') := ⟨⟨rfl, rfl, rfl, rfl, rfl, rfl⟩, ⟨rfl, rfl, rfl, rfl, rfl, rfl⟩, rfl, ⟨rfl, fun _ => ⟨rfl, rfl⟩⟩, ⟨rfl, fun _ => ⟨rfl, rfl⟩⟩⟩
  refine calls_eq (calls_sums (β := ⟨w, [], G6 A E P K S s A' E' P' K' S' s'⟩) (ρ := env6 A E P K S s A' E' P' K' S' s') noCount noExt (sp6_ok w) follows rfl Tryz.func6 rfl run_n (xs := [planV A E P K S s, planV A' E' P' K' S' s']) rfl (HRel.startG w _ (fun _ => rfl) hG) (fun _ h => by cases h) (fun q hq => ?_))
  simp only [sums_n, List.mem_cons, List.not_mem_nil, or_false] at hq
  rcases hq with rfl | rfl | rfl | rfl | rfl | rfl | rfl | rfl
  · intro ρ' hle hc T hT hG'
    obtain rfl : L6 = T := by simpa using hT
    have hB : ρ'.B 0 = true := by
      have := hc (.var 0, true) (by simp)
      simpa only [BT.den, Option.some.injEq] using this
    have hb : RtB A (m200 E) P K S = true := by rw [← hG'.2.2.2.1.1]; exact hB
    have hI : ρ'.I 70 = 2 * A + m200 E := (hG'.2.2.2.1.2 hb).2
    have hr := RtB_iff.1 hb
    have ha1 := hr.a1; have he1 := hr.e1
    have h70 : 0 ≤ ρ'.I 70 := by rw [hI]; omega
    refine ⟨hG', CRel_cons.2 ⟨rfl, CRel_cons.2 ⟨?_, CRel_nil.2 trivial⟩⟩, fun a w' r => loop_n6 w hb _ ?_ _ a w' (.inr rfl) r⟩
    · show some (decide ((0 : Int) ≤ ρ'.I 70)) = some true
      simp only [Option.some.injEq, decide_eq_true_eq]; exact h70
    · exact ⟨0, rfl, h70⟩
  · intro ρ' hle hc u hu
    exfalso
    have h1 := hc (.var 0, true) (by simp)
    have h2 := hc (.var 0, false) (by simp)
    rw [h1] at h2; cases h2
  · intro ρ' hle hc T hT hG'
    obtain rfl : L6 = T := by simpa using hT
    have hB : ρ'.B 0 = true := by
      have := hc (.var 0, true) (by simp)
      simpa only [BT.den, Option.some.injEq] using this
    have hb : RtB A (m200 E) P K S = true := by rw [← hG'.2.2.2.1.1]; exact hB
    have hI : ρ'.I 70 = 2 * A + m200 E := (hG'.2.2.2.1.2 hb).2
    have hr := RtB_iff.1 hb
    have ha1 := hr.a1; have he1 := hr.e1
    have h70 : 0 ≤ ρ'.I 70 := by rw [hI]; omega
    refine ⟨hG', CRel_cons.2 ⟨rfl, CRel_cons.2 ⟨?_, CRel_nil.2 trivial⟩⟩, fun a w' r => loop_n6 w hb _ ?_ _ a w' (.inr rfl) r⟩
    · show some (decide ((0 : Int) ≤ ρ'.I 70)) = some true
      simp only [Option.some.injEq, decide_eq_true_eq]; exact h70
    · exact ⟨0, rfl, h70⟩
  · intro ρ' hle hc u hu
    exfalso
    have h1 := hc (.var 0, true) (by simp)
    have h2 := hc (.var 0, false) (by simp)
    rw [h1] at h2; cases h2
  · intro ρ' hle hc u hu
    exfalso
    have h1 := hc (.var 0, true) (by simp)
    have h2 := hc (.var 0, false) (by simp)
    rw [h1] at h2; cases h2
  · intro ρ' hle hc T hT hG'
    obtain rfl : N6 = T := by simpa using hT
    exact ⟨hG', CRel_nil.2 trivial, fun a w' r => loop_nn w _ trivial _ a w' (.inr rfl) r⟩
  · intro ρ' hle hc u hu
    exfalso
    have h1 := hc (.var 0, true) (by simp)
    have h2 := hc (.var 0, false) (by simp)
    rw [h1] at h2; cases h2
  · intro ρ' hle hc T hT hG'
    obtain rfl : N6 = T := by simpa using hT
    exact ⟨hG', CRel_nil.2 trivial, fun a w' r => loop_nn w _ trivial _ a w' (.inr rfl) r⟩
end Pln
end Go.Proofs.YthifhdckfcgbkaaGreat
