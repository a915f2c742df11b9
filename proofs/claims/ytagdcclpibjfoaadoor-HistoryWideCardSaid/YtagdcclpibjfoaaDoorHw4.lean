/-
  HistoryWide (4): ref.Open, ref.Width; the law.
-/
import Derived.Test.YtagdcclpibjfoaaDoorHw3
import Derived.Test.YtagdcclpibjfoaaDoorHo1
namespace Go.Proofs.YtagdcclpibjfoaaDoor
open Go.Vm

theorem cntO_bnd (v : Value) (a : Int) : ∀ j : Nat, 0 ≤ cntO v a j ∧ cntO v a j ≤ j
  | 0 => by simp [cntO]
  | j + 1 => by
    have := cntO_bnd v a j
    simp only [cntO]
    cases opn v j a <;> simp <;> omega
noncomputable def ob0 : Code := ((loopsOf (Tryd.f81.body.getD .ret) []).getD 0 (.ret, [])).1
noncomputable def ok0 : List Item := ((loopsOf (Tryd.f81.body.getD .ret) []).getD 0 (.ret, [])).2
noncomputable def sums81e : List LS := [.next 0 (.code (.loop ob0) :: ok0) [] ⟨[(0, (.lit 0)), (1, (.lit 0))], [], [], [], [(0, 0)]⟩]
noncomputable def sums81 : List LS := [.next 0 (.inLoop ob0 :: ok0) [((.not (.cmp .gtr (.sel 0 16 8 (.var 0)) (.lit (-1)))), true), ((.cmp .geq (.var 20) (.sel 0 16 7 (.var 0))), true), ((.cmp .lss (.var 0) (.var 10)), true), ((.cmp .geq (.var 0) (.lit 0)), true), ((.cmp .leq (.var 0) (.var 10)), true)] ⟨[(0, (.bin .add .i64 (.var 0) (.lit 1))), (1, (.bin .add .i64 (.var 1) (.lit 1)))], [], [], [], [(0, 0)]⟩,
  .next 0 (.inLoop ob0 :: ok0) [((.cmp .leq (.var 20) (.sel 0 16 8 (.var 0))), true), ((.not (.cmp .gtr (.sel 0 16 8 (.var 0)) (.lit (-1)))), false), ((.cmp .geq (.var 20) (.sel 0 16 7 (.var 0))), true), ((.cmp .lss (.var 0) (.var 10)), true), ((.cmp .geq (.var 0) (.lit 0)), true), ((.cmp .leq (.var 0) (.var 10)), true)] ⟨[(0, (.bin .add .i64 (.var 0) (.lit 1))), (1, (.bin .add .i64 (.var 1) (.lit 1)))], [], [], [], [(0, 0)]⟩,
  .next 0 (.inLoop ob0 :: ok0) [((.cmp .leq (.var 20) (.sel 0 16 8 (.var 0))), false), ((.not (.cmp .gtr (.sel 0 16 8 (.var 0)) (.lit (-1)))), false), ((.cmp .geq (.var 20) (.sel 0 16 7 (.var 0))), true), ((.cmp .lss (.var 0) (.var 10)), true), ((.cmp .geq (.var 0) (.lit 0)), true), ((.cmp .leq (.var 0) (.var 10)), true)] ⟨[(0, (.bin .add .i64 (.var 0) (.lit 1))), (1, (.var 1))], [], [], [], [(0, 0)]⟩,
  .next 0 (.inLoop ob0 :: ok0) [((.cmp .geq (.var 20) (.sel 0 16 7 (.var 0))), false), ((.cmp .lss (.var 0) (.var 10)), true), ((.cmp .geq (.var 0) (.lit 0)), true), ((.cmp .leq (.var 0) (.var 10)), true)] ⟨[(0, (.bin .add .i64 (.var 0) (.lit 1))), (1, (.var 1))], [], [], [], [(0, 0)]⟩,
  .ret (.int .i64 (.var 1)) [((.cmp .lss (.var 0) (.var 10)), false), ((.cmp .geq (.var 0) (.lit 0)), true), ((.cmp .leq (.var 0) (.var 10)), true)]]
theorem run81e : (run Tryd.prog [] noSp 4000 true 81 (entry Tryd.f81 (Tryd.f81.body.getD .ret) [sl, .int .i64 (.var 20)] (ofP H0) 1 [])).map (·.filterMap (sumL g10 [O0])) = some sums81e := by kernel_rfl
theorem run81 : (run Tryd.prog [] noSp 4000 true 81 (O0.st (.code ob0 :: .inLoop ob0 :: ok0))).map (·.filterMap (sumL g10 [O0])) = some sums81 := by kernel_rfl
def JO (v : Value) (n : Nat) (a : Int) : GP := fun I _ _ V _ => I 10 = n ∧ V 0 = v ∧ I 20 = a ∧ ∃ i : Nat, I 0 = i ∧ I 1 = cntO v a i
theorem loop81 (w0 : World) (v : Value) (n : Nat) (a0 : Int) (hn : n ≤ maxN) : ∀ ρ, (JO v n a0).at ρ → ∀ todo a w, todo = .inLoop ob0 :: ok0 ∨ todo = .code (.loop ob0) :: ok0 → SRel (.plain w0) ρ (O0.st todo) a w →
    Goes Tryd.prog 81 (fun x w' => x = .int .i64 (cntO v a0 n) ∧ Framed w0 w') todo a w := by
  refine loop_goes (β := .plain w0) noCount noExt noSp_ok follows rfl run81 (JO v n a0) (fun ρ => (n - ρ.I 0).toNat) (fun ρ hJ hcs hG ih s hs => ?_)
  simp only [sums81, List.mem_cons, List.not_mem_nil, or_false] at hs
  rcases hs with rfl | rfl | rfl | rfl | rfl
  case' inr.inr.inr.inr =>
    intro ρ' hle hc u hu
    obtain ⟨j1, j2, j7, i, j3, j4⟩ := GP.mono hle hJ
    simp [CRel_cons, CRel_nil, BT.den, IT.den, intCmp, j1, j3] at hc
    have hij : i = n := by omega
    subst hij
    simp only [AVal.den, IT.den, Option.map_some, Option.some.injEq] at hu
    rw [← hu, j4]
  all_goals
    intro ρ' hle hc T hT hG'
    obtain ⟨j1, j2, j7, i, j3, j4⟩ := GP.mono hle hJ
    have hcn := cntO_bnd v a0 i
    have e2 : ρ.I = ρ'.I := hle.i.symm
    simp [CRel_cons, CRel_nil, BT.den, IT.den, intCmp, j1, j2, j3, j7] at hc
    have hT : O0 = T := by simpa using hT
    subst hT
    have e0 : IntKind.i64.wrap (ρ'.I 0 + 1) = ((i + 1 : Nat) : Int) := up1 j3 (by simp only [maxN] at hn; omega)
    have e1 : IntKind.i64.wrap (ρ'.I 1 + 1) = ρ'.I 1 + 1 := wrap_ok (by simp only [maxN] at hn; omega) (by simp only [maxN] at hn; omega)
    refine ⟨hG', ?_, fun a w r => ih _ ?_ ?_ _ a w (.inl rfl) r⟩
    · simp [O0, inCs, CRel_cons, CRel_nil, BT.den, IT.den, intCmp, intBin, Go.Vm.Sub.app, lk_cons, lk_nil, e0, j1]
      omega
    · show ((n : Int) - IntKind.i64.wrap (ρ'.I 0 + 1)).toNat < _
      rw [e0, e2, j3]; omega
    · refine ⟨j1, j2, j7, i + 1, e0, ?_⟩
      first
        | (show IntKind.i64.wrap (ρ'.I 1 + 1) = _
           rw [e1, j4]
           simp only [cntO]
           rw [show opn v i a0 = true by (refine opn_iff.2 ?_; simp only [St, En]; omega)]
           rfl)
        | (show ρ'.I 1 = _
           rw [j4]
           simp only [cntO]
           rw [show opn v i a0 = false by (rw [Bool.eq_false_iff]; intro h; simp only [opn_iff, St, En] at h; omega)]
           simp)
def ρO (a0 : Int) (n cap o : Nat) (v : Value) (b : Nat) : Env := ρR a0 0 n cap o v b F0
theorem open81 (w : World) (v : Value) (n b o cap : Nat) (a0 : Int) (hn : n ≤ maxN) (hrow : RowAt w b o ksR n v) : Calls Tryd.prog 81 #[.slice (some ⟨b, o, none⟩) n cap, .int .i64 a0] w (fun e w' => e = .returned (.int .i64 (cntO v a0 n)) ∧ Framed w w') := by
  have hr : HRel (.plain w) (ρO a0 n cap o v b) (ofP H0) 1 w := HRel.row (a := 0) hrow rfl rfl (fun _ => rfl) trivial
  have := calls_sums (β := .plain w) (Q := fun x => x = .int .i64 (cntO v a0 n)) noCount noExt noSp_ok follows rfl Tryd.func81 rfl run81e (xs := [.slice (some ⟨b, o, none⟩) n cap, .int .i64 a0]) (by simp only [AVal.denL, ρO, slD]; rfl) hr (fun _ h => by cases h) (fun s hs => ?_)
  · exact this.mono fun _ _ ⟨_, he, hv, hf⟩ => ⟨by rw [he, hv], hf⟩
  · rcases List.mem_cons.1 hs with rfl | hs
    · intro ρ' hle hc T hT hG
      have hT : O0 = T := by simpa using hT
      subst hT
      have e : ρ'.I = (ρO a0 n cap o v b).I := hle.i
      have ev : ρ'.V = (ρO a0 n cap o v b).V := hle.v
      have e10 : ρ'.I 10 = n := by rw [e]; rfl
      refine ⟨hG, ?_, fun a w' r => loop81 w v n a0 hn _ ?_ _ a w' (.inr rfl) r⟩
      rotate_left
      · exact ⟨e10, by show ρ'.V 0 = v; rw [ev]; rfl, by show ρ'.I 20 = a0; rw [e]; rfl, 0, rfl, rfl⟩
      simp [O0, inCs, CRel_cons, CRel_nil, BT.den, IT.den, intCmp, Go.Vm.Sub.app, lk_cons, lk_nil, e10]
    · cases hs

-- REF.WIDTH
noncomputable def rb0 : Code := ((loopsOf (Tryd.f29.body.getD .ret) []).getD 0 (.ret, [])).1
noncomputable def rk0 : List Item := ((loopsOf (Tryd.f29.body.getD .ret) []).getD 0 (.ret, [])).2
noncomputable def sums29e : List LS := [.next 0 (.code (.loop rb0) :: rk0) [] ⟨[(0, (.lit 0)), (1, (.lit 0))], [], [], [], [(0, 0)]⟩]
noncomputable def sums29 : List LS := [.next 0 (.inLoop rb0 :: rk0) [((.cmp .lss (.var 0) (.var 10)), true), ((.cmp .geq (.var 0) (.lit 0)), true), ((.cmp .leq (.var 0) (.var 10)), true)] ⟨[(0, (.bin .add .i64 (.var 0) (.lit 1))), (1, (.mx (.mx (.var 1) (.fn 1 (.sel 0 16 7 (.var 0)) (.lit 0))) (.fn 1 (.sel 0 16 8 (.var 0)) (.lit 0))))], [], [], [], [(0, 0)]⟩,
  .ret (.int .i64 (.var 1)) [((.cmp .lss (.var 0) (.var 10)), false), ((.cmp .geq (.var 0) (.lit 0)), true), ((.cmp .leq (.var 0) (.var 10)), true)]]
def spR : CallF := spL [(81, spOpen)]
def GR (v : Value) (n : Nat) : GP := fun I _ _ V F => V 0 = v ∧ I 10 = n ∧ ∀ x, F 1 x 0 = cntO v x n
def βR (w : World) (v : Value) (n : Nat) : Base := ⟨w, [], GR v n⟩
theorem spOpen_ok (w : World) (v : Value) (n : Nat) (hn : n ≤ maxN) : SpGOk Tryd.prog (βR w v n) 81 spOpen := by
  intro args H nl cs ls ρ w xs hr hx hh hc
  have hGR : GR v n ρ.I ρ.B ρ.S ρ.V ρ.F := hh.g
  unfold spOpen at hr
  split at hr
  rotate_left
  · cases hr
  rename_i x a
  split at hr
  rotate_left
  · cases hr
  rename_i hra
  cases hr
  simp only [AVal.denL, AVal.den] at hx
  cases hxd : x.den ρ with
  | none => rw [hxd] at hx; cases hx
  | some xv =>
    cases ha : a.den ρ with
    | none => rw [hxd, ha] at hx; cases hx
    | some y =>
      rw [hxd, ha] at hx
      obtain ⟨b, o, m, cap, rfl, hm, hrow⟩ := rowArg_ok hra hxd hh
      have hmn : m = n := by
        have : ρ.I 10 = m := Option.some.inj hm
        rw [hGR.2.1] at this; omega
      subst hmn
      rw [hGR.1] at hrow
      cases hx
      exact spV_ok (open81 w v m b o cap y hn hrow) (by simp only [AVal.den, IT.den, ha, hGR.2.2]; rfl) hh hc
theorem spR_ok (w : World) (v : Value) (n : Nat) (hn : n ≤ maxN) : CallOk Tryd.prog (βR w v n) spR := by
  refine spL_ok fun p hp => ?_
  simp only [List.mem_cons, List.not_mem_nil, or_false] at hp
  obtain rfl := hp
  exact spOpen_ok w v n hn
theorem run29e : (run Tryd.prog [] spR 4000 true 29 (entry Tryd.f29 (Tryd.f29.body.getD .ret) [sl] (ofP H0) 1 [])).map (·.filterMap (sumL g10 [R0])) = some sums29e := by kernel_rfl
theorem run29 : (run Tryd.prog [] spR 4000 true 29 (R0.st (.code rb0 :: .inLoop rb0 :: rk0))).map (·.filterMap (sumL g10 [R0])) = some sums29 := by kernel_rfl
def JR (v : Value) (n : Nat) : GP := fun I _ _ V _ => I 10 = n ∧ V 0 = v ∧ ∃ i : Nat, I 0 = i ∧ I 1 = maxR v n i
theorem loop29 (w0 : World) (v : Value) (n : Nat) (hn : n ≤ maxN) : ∀ ρ, (JR v n).at ρ → ∀ todo a w, todo = .inLoop rb0 :: rk0 ∨ todo = .code (.loop rb0) :: rk0 → SRel (βR w0 v n) ρ (R0.st todo) a w →
    Goes Tryd.prog 29 (fun x w' => x = .int .i64 (maxR v n n) ∧ Framed w0 w') todo a w := by
  refine loop_goes (β := βR w0 v n) noCount noExt (spR_ok w0 v n hn) follows rfl run29 (JR v n) (fun ρ => (n - ρ.I 0).toNat) (fun ρ hJ hcs hG ih s hs => ?_)
  simp only [sums29, List.mem_cons, List.not_mem_nil, or_false] at hs
  rcases hs with rfl | rfl
  · intro ρ' hle hc T hT hG'
    obtain ⟨j1, j2, i, j3, j4⟩ := GP.mono hle hJ
    have e2 : ρ.I = ρ'.I := hle.i.symm
    have hF : ∀ x, ρ'.F 1 x 0 = cntO v x n := hG'.2.2
    simp [CRel_cons, CRel_nil, BT.den, IT.den, intCmp, j1, j3] at hc
    have hT : R0 = T := by simpa using hT
    subst hT
    have e0 : IntKind.i64.wrap (ρ'.I 0 + 1) = ((i + 1 : Nat) : Int) := up1 j3 (by simp only [maxN] at hn; omega)
    refine ⟨hG', ?_, fun a w r => ih _ ?_ ?_ _ a w (.inl rfl) r⟩
    · simp [R0, inCs, CRel_cons, CRel_nil, BT.den, IT.den, intCmp, intBin, Go.Vm.Sub.app, lk_cons, lk_nil, e0, j1]
      omega
    · show ((n : Int) - IntKind.i64.wrap (ρ'.I 0 + 1)).toNat < _
      rw [e0, e2, j3]; omega
    · refine ⟨j1, j2, i + 1, e0, ?_⟩
      show mx2 (mx2 (ρ'.I 1) (ρ'.F 1 (selI (ρ'.V 0) ((ρ'.I 0).toNat * 16 + 7)) 0)) (ρ'.F 1 (selI (ρ'.V 0) ((ρ'.I 0).toNat * 16 + 8)) 0) = _
      rw [hF, hF, j4, j2, j3]; rfl
  · intro ρ' hle hc u hu
    obtain ⟨j1, j2, i, j3, j4⟩ := GP.mono hle hJ
    simp [CRel_cons, CRel_nil, BT.den, IT.den, intCmp, j1, j3] at hc
    have hij : i = n := by omega
    subst hij
    simp only [AVal.den, IT.den, Option.map_some, Option.some.injEq] at hu
    rw [← hu, j4]
theorem width29 (w : World) (v : Value) (n b o cap : Nat) (hn : n ≤ maxN) (hrow : RowAt w b o ksR n v) : Calls Tryd.prog 29 #[.slice (some ⟨b, o, none⟩) n cap] w (fun e w' => e = .returned (.int .i64 (maxR v n n)) ∧ Framed w w') := by
  have hr : HRel (βR w v n) (ρR 0 0 n cap o v b fun _ x _ => cntO v x n) (ofP H0) 1 w := HRel.row (a := 0) hrow rfl rfl (fun _ => rfl) ⟨rfl, rfl, fun _ => rfl⟩
  have := calls_sums (β := βR w v n) (Q := fun x => x = .int .i64 (maxR v n n)) noCount noExt (spR_ok w v n hn) follows rfl Tryd.func29 rfl run29e (xs := [.slice (some ⟨b, o, none⟩) n cap]) (by simp only [AVal.denL, slD]) hr (fun _ h => by cases h) (fun s hs => ?_)
  · exact this.mono fun _ _ ⟨_, he, hv, hf⟩ => ⟨by rw [he, hv], hf⟩
  · rcases List.mem_cons.1 hs with rfl | hs
    · intro ρ' hle hc T hT hG
      have hT : R0 = T := by simpa using hT
      subst hT
      have e : ρ'.I = (ρR 0 0 n cap o v b fun _ x _ => cntO v x n).I := hle.i
      have ev : ρ'.V = (ρR 0 0 n cap o v b fun _ x _ => cntO v x n).V := hle.v
      have e10 : ρ'.I 10 = n := by rw [e]; rfl
      refine ⟨hG, ?_, fun a w' r => loop29 w v n hn _ ?_ _ a w' (.inr rfl) r⟩
      rotate_left
      · exact ⟨e10, by show ρ'.V 0 = v; rw [ev]; rfl, 0, rfl, rfl⟩
      simp [R0, inCs, CRel_cons, CRel_nil, BT.den, IT.den, intCmp, Go.Vm.Sub.app, lk_cons, lk_nil, e10]
    · cases hs

-- THE LAW
noncomputable def lb0 : Code := ((loopsOf (Tryd.f4.body.getD .ret) []).getD 0 (.ret, [])).1
noncomputable def lk0 : List Item := ((loopsOf (Tryd.f4.body.getD .ret) []).getD 0 (.ret, [])).2
noncomputable def sums4e : List LS := [.next 0 (.code (.loop lb0) :: lk0) [] ⟨[(0, (.lit 0))], [], [], [], [(0, 0)]⟩]
noncomputable def sums4 : List LS := [.ret (.bool (.lit true)) [((.cmp .geq (.sel 0 16 8 (.var 0)) (.lit 0)), true), ((.cmp .lss (.sel 0 16 8 (.var 0)) (.sel 0 16 7 (.var 0))), true), ((.cmp .lss (.var 0) (.var 10)), true), ((.cmp .geq (.var 0) (.lit 0)), true), ((.cmp .leq (.var 0) (.var 10)), true)],
  .next 0 (.inLoop lb0 :: lk0) [((.cmp .geq (.sel 0 16 8 (.var 0)) (.lit 0)), false), ((.cmp .lss (.sel 0 16 8 (.var 0)) (.sel 0 16 7 (.var 0))), true), ((.cmp .lss (.var 0) (.var 10)), true), ((.cmp .geq (.var 0) (.lit 0)), true), ((.cmp .leq (.var 0) (.var 10)), true)] ⟨[(0, (.bin .add .i64 (.var 0) (.lit 1)))], [], [], [], [(0, 0)]⟩,
  .next 0 (.inLoop lb0 :: lk0) [((.cmp .lss (.sel 0 16 8 (.var 0)) (.sel 0 16 7 (.var 0))), false), ((.cmp .lss (.var 0) (.var 10)), true), ((.cmp .geq (.var 0) (.lit 0)), true), ((.cmp .leq (.var 0) (.var 10)), true)] ⟨[(0, (.bin .add .i64 (.var 0) (.lit 1)))], [], [], [], [(0, 0)]⟩,
  .ret (.bool (.lit true)) [((.cmp .gtr (.var 10) (.lit 100)), true), ((.cmp .lss (.var 0) (.var 10)), false), ((.cmp .geq (.var 0) (.lit 0)), true), ((.cmp .leq (.var 0) (.var 10)), true)],
  .ret (.bool (.cmp .eql (.var 20) (.var 21))) [((.cmp .gtr (.var 10) (.lit 100)), false), ((.cmp .lss (.var 0) (.var 10)), false), ((.cmp .geq (.var 0) (.lit 0)), true), ((.cmp .leq (.var 0) (.var 10)), true)]]
def spLw : CallF := spL [(16, spTrue), (28, spRow 20), (29, spRow 21)]
def GL (v : Value) (n : Nat) : GP := fun I _ _ V _ => V 0 = v ∧ I 10 = n ∧ I 20 = maxW v n n ∧ I 21 = maxR v n n
def βL (w : World) (v : Value) (n : Nat) : Base := ⟨w, [], GL v n⟩
theorem spRow_ok {w : World} {v : Value} {n : Nat} {g : FuncId} {k : Nat} {x : Int} (h : ∀ w b o cap, RowAt w b o ksR n v → Calls Tryd.prog g #[.slice (some ⟨b, o, none⟩) n cap] w (fun e w' => e = .returned (.int .i64 x) ∧ Framed w w')) (hk : ∀ I B S V F, GL v n I B S V F → I k = x) : SpGOk Tryd.prog (βL w v n) g (spRow k) := by
  intro args H nl cs ls ρ w xs hr hx hh hc
  have hGR : GL v n ρ.I ρ.B ρ.S ρ.V ρ.F := hh.g
  unfold spRow at hr
  split at hr
  rotate_left
  · cases hr
  rename_i x
  split at hr
  rotate_left
  · cases hr
  rename_i hra
  cases hr
  simp only [AVal.denL] at hx
  cases hxd : x.den ρ with
  | none => rw [hxd] at hx; cases hx
  | some xv =>
    rw [hxd] at hx
    obtain ⟨b, o, m, cap, rfl, hm, hrow⟩ := rowArg_ok hra hxd hh
    have hmn : m = n := by
      have : ρ.I 10 = m := Option.some.inj hm
      rw [hGR.2.1] at this; omega
    subst hmn
    rw [hGR.1] at hrow
    cases hx
    exact spV_ok (h w b o cap hrow) (by simp only [AVal.den, IT.den, hk _ _ _ _ _ hGR]; rfl) hh hc
theorem spLw_ok (w : World) (v : Value) (n : Nat) (hn : n ≤ maxN) : CallOk Tryd.prog (βL w v n) spLw := by
  refine spL_ok fun p hp => ?_
  simp only [List.mem_cons, List.not_mem_nil, or_false] at hp
  rcases hp with rfl | rfl | rfl
  · exact spTrue_ok first27
  · exact spRow_ok (fun w b o cap h => width28 w v n b o cap hn h) fun _ _ _ _ _ h => h.2.2.1
  · exact spRow_ok (fun w b o cap h => width29 w v n b o cap hn h) fun _ _ _ _ _ h => h.2.2.2
theorem run4e : (run Tryd.prog [] spLw 4000 true 4 (entry Tryd.f4 (Tryd.f4.body.getD .ret) [sl] (ofP H0) 1 [])).map (·.filterMap (sumL g10 [L0])) = some sums4e := by kernel_rfl
theorem run4 : (run Tryd.prog [] spLw 4000 true 4 (L0.st (.code lb0 :: .inLoop lb0 :: lk0))).map (·.filterMap (sumL g10 [L0])) = some sums4 := by kernel_rfl
/-- None of those that were looked at ends ahead of its start. -/
def JL (v : Value) (n : Nat) : GP := fun I _ _ V _ => I 10 = n ∧ V 0 = v ∧ I 20 = maxW v n n ∧ I 21 = maxR v n n ∧ ∃ i : Nat, I 0 = i ∧ ∀ k, k < i → En v k < St v k → En v k < 0
theorem loop4 (w0 : World) (v : Value) (n : Nat) (hn : n ≤ maxN) : ∀ ρ, (JL v n).at ρ → ∀ todo a w, todo = .inLoop lb0 :: lk0 ∨ todo = .code (.loop lb0) :: lk0 → SRel (βL w0 v n) ρ (L0.st todo) a w →
    Goes Tryd.prog 4 (fun x w' => x = .bool true ∧ Framed w0 w') todo a w := by
  refine loop_goes (β := βL w0 v n) noCount noExt (spLw_ok w0 v n hn) follows rfl run4 (JL v n) (fun ρ => (n - ρ.I 0).toNat) (fun ρ hJ hcs hG ih s hs => ?_)
  simp only [sums4, List.mem_cons, List.not_mem_nil, or_false] at hs
  rcases hs with rfl | rfl | rfl | rfl | rfl
  case' inl =>
    intro ρ' hle hc u hu
    simp only [AVal.den, BT.den, Option.map_some, Option.some.injEq] at hu
    exact hu.symm
  case' inr.inr.inr.inl =>
    intro ρ' hle hc u hu
    simp only [AVal.den, BT.den, Option.map_some, Option.some.injEq] at hu
    exact hu.symm
  case' inr.inr.inr.inr =>
    intro ρ' hle hc u hu
    obtain ⟨j1, j2, j5, j6, i, j3, j4⟩ := GP.mono hle hJ
    simp [CRel_cons, CRel_nil, BT.den, IT.den, intCmp, j1, j3] at hc
    have hij : i = n := by omega
    subst hij
    simp only [AVal.den, BT.den, IT.den, intCmp, j5, j6, wide j4, Option.map_some, Option.some.injEq, beq_self_eq_true] at hu
    exact hu.symm
  all_goals
    intro ρ' hle hc T hT hG'
    obtain ⟨j1, j2, j5, j6, i, j3, j4⟩ := GP.mono hle hJ
    have e2 : ρ.I = ρ'.I := hle.i.symm
    simp [CRel_cons, CRel_nil, BT.den, IT.den, intCmp, j1, j2, j3] at hc
    have hT : L0 = T := by simpa using hT
    subst hT
    have e0 : IntKind.i64.wrap (ρ'.I 0 + 1) = ((i + 1 : Nat) : Int) := up1 j3 (by simp only [maxN] at hn; omega)
    refine ⟨hG', ?_, fun a w r => ih _ ?_ ?_ _ a w (.inl rfl) r⟩
    · simp [L0, inCs, CRel_cons, CRel_nil, BT.den, IT.den, intCmp, intBin, Go.Vm.Sub.app, lk_cons, lk_nil, e0, j1]
      omega
    · show ((n : Int) - IntKind.i64.wrap (ρ'.I 0 + 1)).toNat < _
      rw [e0, e2, j3]; omega
    · refine ⟨j1, j2, j5, j6, i + 1, e0, fun k hk h => ?_⟩
      rcases Nat.lt_or_ge k i with h1 | h1
      · exact j4 k h1 h
      · have : k = i := by omega
        subst this
        simp only [St, En] at h ⊢
        omega
theorem wide_walk (w : World) (v : Value) (n b o cap : Nat) (hn : n ≤ maxN) (hrow : RowAt w b o ksR n v) : Calls Tryd.prog 4 #[.slice (some ⟨b, o, none⟩) n cap] w (fun e w' => e = .returned (.bool true) ∧ Framed w w') := by
  have hr : HRel (βL w v n) (ρR (maxW v n n) (maxR v n n) n cap o v b F0) (ofP H0) 1 w := HRel.row (a := 0) hrow rfl rfl (fun _ => rfl) ⟨rfl, rfl, rfl, rfl⟩
  have := calls_sums (β := βL w v n) (Q := fun x => x = .bool true) noCount noExt (spLw_ok w v n hn) follows rfl Tryd.func4 rfl run4e (xs := [.slice (some ⟨b, o, none⟩) n cap]) (by simp only [AVal.denL, slD]) hr (fun _ h => by cases h) (fun s hs => ?_)
  · exact this.mono fun _ _ ⟨_, he, hv, hf⟩ => ⟨by rw [he, hv], hf⟩
  · rcases List.mem_cons.1 hs with rfl | hs
    · intro ρ' hle hc T hT hG
      have hT : L0 = T := by simpa using hT
      subst hT
      have e : ρ'.I = (ρR (maxW v n n) (maxR v n n) n cap o v b F0).I := hle.i
      have ev : ρ'.V = (ρR (maxW v n n) (maxR v n n) n cap o v b F0).V := hle.v
      have e10 : ρ'.I 10 = n := by rw [e]; rfl
      refine ⟨hG, ?_, fun a w' r => loop4 w v n hn _ ?_ _ a w' (.inr rfl) r⟩
      rotate_left
      · exact ⟨e10, by show ρ'.V 0 = v; rw [ev]; rfl, by show ρ'.I 20 = _; rw [e]; rfl, by show ρ'.I 21 = _; rw [e]; rfl, 0, rfl, fun k hk => absurd hk (by omega)⟩
      simp [L0, inCs, CRel_cons, CRel_nil, BT.den, IT.den, intCmp, Go.Vm.Sub.app, lk_cons, lk_nil, e10]
    · cases hs
-- NO RECORD AT ALL
def spF : CallF := spL [(16, spTrue)]
theorem spF_ok (w : World) : CallOk Tryd.prog (.plain w) spF := by
  refine spL_ok fun p hp => ?_
  simp only [List.mem_cons, List.not_mem_nil, or_false] at hp
  obtain rfl := hp
  exact spTrue_ok first27
theorem run4n : (run Tryd.prog [] spF 4000 false 4 (entry Tryd.f4 (Tryd.f4.body.getD .ret) [.sliceNil] .leaf 0 [])).map (·.all (leafB (.lit true))) = some true := by kernel_rfl
theorem run4z : (run Tryd.prog [] spF 4000 false 4 (entry Tryd.f4 (Tryd.f4.body.getD .ret) [.slice 0 (.var 12) (.lit 0) (.var 11)] .leaf 1 [])).map (·.all (leafB (.lit true))) = some true := by kernel_rfl
theorem wide_nil (w : World) : Calls Tryd.prog 4 #[.slice none 0 0] w (fun e w' => e = .returned (.bool true) ∧ Framed w w') :=
  calls_true (β := .plain w) (ρ := envOf [] [] F0) noExt (spF_ok w) rfl Tryd.func4 rfl run4n (xs := [.slice none 0 0]) rfl (HRel.start w _ fun _ => rfl) (fun _ h => by cases h)
theorem wide_zero (w : World) (b o cap : Nat) : Calls Tryd.prog 4 #[.slice (some ⟨b, o, none⟩) 0 cap] w (fun e w' => e = .returned (.bool true) ∧ Framed w w') := by
  have hr : HRel (.plain w) (ρR 0 0 0 cap o (.agg #[]) b F0) .leaf 1 w :=
    ⟨(fun l k hl => by simp [Tr.get] at hl), (fun l l' k k' hl => by simp [Tr.get] at hl), (fun l k b hl => by simp [Tr.get] at hl), (fun i hi => by show (if i = 0 then some b else none) = none; rw [if_neg (by omega)]), (fun l hl => by cases hl), Nat.le_refl _, fun _ _ _ => rfl, rfl, rfl, rfl, trivial⟩
  refine calls_true (β := .plain w) noExt (spF_ok w) rfl Tryd.func4 rfl run4z (xs := [.slice (some ⟨b, o, none⟩) 0 cap]) ?_ hr (fun _ h => by cases h)
  have h0 : natOf ((IT.var 12).den (ρR 0 0 0 cap o (.agg #[]) b F0)) = some o := rfl
  have h1 : natOf ((IT.lit 0).den (ρR 0 0 0 cap o (.agg #[]) b F0)) = some 0 := rfl
  have h2 : natOf ((IT.var 11).den (ρR 0 0 0 cap o (.agg #[]) b F0)) = some cap := rfl
  have h3 : (ρR 0 0 0 cap o (.agg #[]) b F0).N 0 = some b := rfl
  simp only [AVal.denL, AVal.den, h0, h1, h2, h3]

end Go.Proofs.YtagdcclpibjfoaaDoor
