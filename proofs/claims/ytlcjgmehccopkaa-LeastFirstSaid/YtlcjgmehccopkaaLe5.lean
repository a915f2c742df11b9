/-
  Least (5): LeastHolds: no number is in use twice, none is too great.
-/
import Derived.Test.YtlcjgmehccopkaaLe4
namespace Go.Proofs.Ytlcjgmehccopkaa
open Go.Vm Go.Vm.Le

theorem run6 : (run Try.prog [] noSp 40000 false 6 (entry Try.f6 (Try.f6.body.getD .ret) [] .leaf 0 [])).map (·.all (leafB (.lit true))) = some true := by kernel_rfl
theorem first6 (w : World) : Calls Try.prog 6 #[] w (fun e w' => e = .returned (.bool true) ∧ Framed w w') :=
  calls_true (β := .plain w) (ρ := envOf [] [] F0) noExt noSp_ok rfl Try.func6 rfl run6 (xs := []) rfl (HRel.start w _ fun _ => rfl) (fun _ h => by cases h)
def sp02 : CallF := spL [(6, spTrue), (22, spUp), (24, spDown)]
def βL (w : World) : Base := ⟨w, [], GL⟩
theorem sp02_ok (w : World) : CallOk Try.prog (βL w) sp02 := by
  refine spL_ok fun p hp => ?_
  simp only [List.mem_cons, List.not_mem_nil, or_false] at hp
  rcases hp with rfl | rfl | rfl
  · exact spTrue_ok first6
  · exact spUp_ok fun _ _ _ _ _ h => h
  · exact spDown_ok fun _ _ _ _ _ h => h

-- THE HEADS
def gH : Gen := ⟨10, 0, 0, 0⟩
def kOp : List IntKind := [.i64, .i64, .i64]
def opsB : HB := ⟨.arr (.var 0) kOp 29 (.var 10) (.var 11) none, false⟩
def opsA : AVal := .slice 0 (.var 11) (.var 10) (.var 12)
def csI : Cs := [(.cmp .geq (.var 1) (.lit 0), true), (.cmp .leq (.var 1) (.var 10), true), (.cmp .leq (.var 10) (.lit 200), true), (.cmp .geq (.var 0) (.lit 0), true), (.cmp .leq (.var 0) (.lit 65535), true), (.cmp .geq (.var 3) (.lit 0), true), (.cmp .leq (.var 3) (.var 0), true)]
def csB : Cs := [(.cmp .geq (.var 6) (.lit 0), true), (.cmp .leq (.var 6) (.lit 65535), true), (.cmp .leq (.var 6) (.var 7), true)]
def sbH (v : AVal) : HB := ⟨.cells [vI 0, vI 3, v, .map 2] 51 none, true⟩
def mBH : HB := ⟨.mapc (.var 4), true⟩
def rBH : HB := ⟨.arr (.code [.i64] (.var 5)) [.i64] 3 (.var 7) (.lit 0) (some (.nv 4)), true⟩
def HT0 : List (Nat × HB) := [(0, opsB), (1, sbH .sliceNil), (2, mBH)]
def HT1 : List (Nat × HB) := [(0, opsB), (1, sbH (.slice 3 (.lit 0) (.var 6) (.nv 4))), (2, mBH), (3, rBH)]
section
variable {v : Value} {n : Nat} {most : Int} {i h : Nat} {B K : List Int} {ρ : Env}
theorem csI_of (h1 : 0 ≤ ρ.I 1) (h2 : ρ.I 1 ≤ ρ.I 10) (h3 : ρ.I 10 ≤ 200) (h4 : 0 ≤ ρ.I 0) (h5 : ρ.I 0 ≤ 65535) (h6 : 0 ≤ ρ.I 3) (h7 : ρ.I 3 ≤ ρ.I 0) : CRel ρ csI := by
  simp only [csI, CRel_cons, CRel_nil, and_true, BT.den, den_var, den_lit, intCmp, Option.some.injEq, decide_eq_true_eq]
  exact ⟨h1, h2, h3, h4, h5, h6, h7⟩
theorem S02.ci (s : S02 v n most i h B K ρ) : CRel ρ csI := by
  have := s.s.le; have := s.le; have := s.n2; have := s.m0; have := s.m
  exact csI_of (by rw [s.i1]; omega) (by rw [s.i1, s.i10]; omega) (by rw [s.i10]; omega) (by rw [s.i0]; exact s.m0) (by rw [s.i0]; exact s.m) (by rw [s.i3]; omega) (by rw [s.i3, s.i0]; omega)
theorem R02.cb (r : R02 B ρ) (hb : B.length ≤ 65535) : CRel ρ csB := by
  have := r.le
  simp only [csB, CRel_cons, CRel_nil, and_true, BT.den, den_var, den_lit, r.i6, r.i7, intCmp, Option.some.injEq, decide_eq_true_eq]
  omega
theorem R02.cap {w0 : World} (hh : ∃ w, HRel (βL w0) ρ (ofP HT1) 5 w) : ∃ cap, ρ.N 4 = some cap ∧ (decL (ρ.I 5)).length ≤ cap := by
  obtain ⟨w, hh⟩ := hh
  obtain ⟨cap, x, h1, h2, h3⟩ := room_ok hh (l := 3) (q := 4) (t := .code [.i64] (.var 5)) (an := .var 7) (c := .var 5) rfl rfl
  have h2 : ρ.I 5 = x := Option.some.inj h2
  exact ⟨cap, h1, by rw [h2]; exact h3⟩
end

-- LEASTHOLDS: ONE ROUND
def tmH : List (Nat × AVal) := [(0, vI 0), (4, .bool (.lit false)), (5, .ptr 1 (.lit 0)), (7, vI 2), (26, opsA), (27, vI 10), (28, vI 1)]
def T0 : Tpl := ⟨tmH, 86, HT0, 3, csI, 3⟩
def T1 : Tpl := ⟨tmH, 86, HT1, 5, csB ++ csI, 3⟩
noncomputable def hb0 : Code := ((loopsOf (Try.f3.body.getD .ret) []).getD 0 (.ret, [])).1
noncomputable def hk0 : List Item := ((loopsOf (Try.f3.body.getD .ret) []).getD 0 (.ret, [])).2
def fLen : Cs := [(.cmp .neq (.un 9 (.var 4) (.lit 0)) (.var 0), false)]
def hwA : Cs := fIn ++ fKind 2 true ++ fHi true ++ fTake h1
def hwB : Cs := fIn ++ fKind 2 true ++ fHi false ++ fLen
def hwH : Cs := fIn ++ fKind 2 false ++ ze (.var 4) tN true ++ bn (us (.un 8 (.var 4) tN) tN) false
def hwN : Cs := fIn ++ fKind 2 false ++ ze (.var 4) tN false
def hwE : Cs := [(.cmp .lss (.var 1) (.var 10), false)]
def hwP : Cs := fIn ++ fKind 2 true ++ f6 true ++ fP ++ fTake x5
def i1T : IT := .bin .add .i64 (.var 1) (.lit 1)
def pkT (c : IT) : IT := .mx (.var 2) (.un 9 c (.lit 0))
def sg0 (c3 c4 : IT) : Sub := ⟨[(0, .var 0), (2, pkT c4), (1, i1T), (3, c3), (4, c4)], [], [], [], [(1, 1), (0, 0), (2, 2)]⟩
def sg1 (c3 c6 c4 c5 c7 : IT) (a b : Nat) : Sub := ⟨[(0, .var 0), (2, pkT c4), (1, i1T), (3, c3), (6, c6), (4, c4), (5, c5), (7, c7)], [], [], [], [(1, 1), (0, 0), (3, a), (4, b), (2, 2)]⟩
noncomputable def RunH (T : Tpl) (c : Cs) (s : LS) : Prop := (run Try.prog [] sp02 4000 true 3 ((⟨T.tm, T.nt, T.H, T.nl, c ++ T.cs, T.dep⟩ : Tpl).st (.code hb0 :: .inLoop hb0 :: hk0))).map (·.filterMap (sumL gH [T1, T0])) = some [s]
noncomputable def tdH : List Item := .inLoop hb0 :: hk0
def del4 : IT := .un 8 (.var 4) tN
def endT : AVal := .bool (.cmp .eql (.var 3) (.var 2))
theorem rh0A : RunH T0 hwA (.next 1 tdH (hwA ++ csI) (sg0 h1 (put (.var 4) h1))) := by unfold RunH; kernel_rfl
theorem rh0B : RunH T0 hwB (.next 1 tdH (hwB ++ csI) (sg0 (.var 3) (.var 4))) := by unfold RunH; kernel_rfl
theorem rh0H : RunH T0 hwH (.next 0 tdH (hwH ++ csI) (sg1 (.var 3) (.lit 1) del4 (.un 3 (.lit 0) tN) (.lit 1) 6 5)) := by unfold RunH; kernel_rfl
theorem rh0N : RunH T0 hwN (.next 1 tdH (hwN ++ csI) (sg0 (.var 3) (.var 4))) := by unfold RunH; kernel_rfl
theorem rh0E : RunH T0 hwE (.ret endT (hwE ++ csI)) := by unfold RunH; kernel_rfl
theorem rh1P : RunH T1 hwP (.next 0 tdH (hwP ++ (csB ++ csI)) (sg1 (.var 3) n6 (put (.var 4) x5) dn5 (.var 7) 3 4)) := by unfold RunH; kernel_rfl
theorem rh1A : RunH T1 (f6 false ++ hwA) (.next 0 tdH ((f6 false ++ hwA) ++ (csB ++ csI)) (sg1 h1 (.var 6) (put (.var 4) h1) (.var 5) (.var 7) 3 4)) := by unfold RunH; kernel_rfl
theorem rh1B : RunH T1 (f6 false ++ hwB) (.next 0 tdH ((f6 false ++ hwB) ++ (csB ++ csI)) (sg1 (.var 3) (.var 6) (.var 4) (.var 5) (.var 7) 3 4)) := by unfold RunH; kernel_rfl
theorem rh1H : RunH T1 (fQ ++ hwH) (.next 0 tdH ((fQ ++ hwH) ++ (csB ++ csI)) (sg1 (.var 3) h6 del4 (psh (.un 10 (.var 5) (.var 6)) j6) h6 8 7)) := by unfold RunH; kernel_rfl
theorem rh1N : RunH T1 hwN (.next 0 tdH (hwN ++ (csB ++ csI)) (sg1 (.var 3) (.var 6) (.var 4) (.var 5) (.var 7) 3 4)) := by unfold RunH; kernel_rfl
theorem rh1E : RunH T1 hwE (.ret endT (hwE ++ (csB ++ csI))) := by unfold RunH; kernel_rfl

section
variable {v : Value} {n : Nat} {most : Int} {i h : Nat} {B K : List Int} {ρ : Env}
theorem i1T_den (s : S02 v n most i h B K ρ) : i1T.den ρ = some ((i + 1 : Nat) : Int) := by
  have := s.le; have := s.n2
  simp only [i1T, IT.den, intBin, s.i1]
  rw [wrap_ok (by omega) (by omega)]
  congr 1
theorem fLen_ok (s : S02 v n most i h B K ρ) (hk : (K.length : Int) = most) : CRel ρ fLen := by
  have e := len_den (ρ := ρ) (den_var 4) s.i4
  simp only [fLen, CRel_cons, CRel_nil, and_true, BT.den, e, den_var, s.i0, intCmp, Option.some.injEq, bne_eq_false_iff_eq]
  exact hk
theorem wE_ok (s : S02 v n most i h B K ρ) (hi : ¬ i < n) : CRel ρ hwE := by
  simp only [hwE, CRel_cons, CRel_nil, and_true, BT.den, den_var, s.i1, s.i10, intCmp, Option.some.injEq, decide_eq_false_iff_not]
  omega
theorem fKind_ok {k : Nat} {b : Bool} (hb : (BT.cmp .eql (tK k) (.lit 0)).den ρ = some b) : CRel ρ (fKind k b) := by
  simp only [fKind, CRel_cons, CRel_nil, and_true, hb]
def J1 (v : Value) (n : Nat) (most : Int) : Env → Prop := fun ρ => ∃ i h B K, S02 v n most i h B K ρ ∧ R02 B ρ ∧ ρ.I 2 = (h : Int)
def J0 (v : Value) (n : Nat) (most : Int) : Env → Prop := fun ρ => ∃ i h K, S02 v n most i h [] K ρ ∧ ρ.I 2 = (h : Int)
abbrev QT : Value → Prop := fun x => x = .bool true
abbrev RT (w0 : World) : Value → World → Prop := fun v w' => QT v ∧ Framed w0 w'
/-- What comes of a round that ends at a head with a row. -/
theorem next1 {w0 : World} {h' : Nat} {B' K' : List Int} {c3 c6 c4 c5 c7 : IT} {a b : Nat} {cs : Cs} {x4 x5' : Int} (s : S02 v n most i h B K ρ) (hp : ρ.I 2 = (h : Int)) (hi : i < n) (s' : Stk most h' B' K') (hpk : (if (K'.length : Int) > (h : Int) then (K'.length : Int) else (h : Int)) = (h' : Int))
    (d3 : ∀ ρ', ρ.Le ρ' → GL.at ρ' → c3.den ρ' = some (h' : Int)) (d4 : ∀ ρ', ρ.Le ρ' → GL.at ρ' → c4.den ρ' = some x4) (e4 : decL x4 = usedL K') (d6 : ∀ ρ', ρ.Le ρ' → GL.at ρ' → c6.den ρ' = some (B'.length : Int)) (d5 : ∀ ρ', ρ.Le ρ' → GL.at ρ' → c5.den ρ' = some x5')
    (d7 : ∀ ρ', ρ.Le ρ' → GL.at ρ' → c7.den ρ' = some ((decL x5').length : Int)) (e5 : (decL x5').take B'.length = B') (l5 : B'.length ≤ (decL x5').length)
    (ih : ∀ ρ', ((n : Int) - ρ'.I 1).toNat < ((n : Int) - ρ.I 1).toNat → J1 v n most ρ' → ∀ todo a w, todo = .inLoop hb0 :: hk0 ∨ todo = .code (.loop hb0) :: hk0 → SRel (βL w0) ρ' (T1.st todo) a w → Goes Try.prog 3 (RT w0) todo a w) :
    SumGood Try.prog (βL w0) 3 QT [T1, T0] ρ (.next 0 tdH cs (sg1 c3 c6 c4 c5 c7 a b)) := by
  intro ρ' hle _ T hT hG'
  have hT : T1 = T := by simpa using hT
  subst hT
  have sl := s.of_le hle
  have j0 : ((sg1 c3 c6 c4 c5 c7 a b).app ρ').I 0 = most := sl.i0
  have j1 : ((sg1 c3 c6 c4 c5 c7 a b).app ρ').I 1 = ((i + 1 : Nat) : Int) := by show (i1T.den ρ').getD 0 = _; rw [i1T_den sl]; rfl
  have j3 : ((sg1 c3 c6 c4 c5 c7 a b).app ρ').I 3 = (h' : Int) := by show (c3.den ρ').getD 0 = _; rw [d3 ρ' hle hG']; rfl
  have j4 : ((sg1 c3 c6 c4 c5 c7 a b).app ρ').I 4 = x4 := by show (c4.den ρ').getD 0 = _; rw [d4 ρ' hle hG']; rfl
  have j5 : ((sg1 c3 c6 c4 c5 c7 a b).app ρ').I 5 = x5' := by show (c5.den ρ').getD 0 = _; rw [d5 ρ' hle hG']; rfl
  have j6' : ((sg1 c3 c6 c4 c5 c7 a b).app ρ').I 6 = (B'.length : Int) := by show (c6.den ρ').getD 0 = _; rw [d6 ρ' hle hG']; rfl
  have j7 : ((sg1 c3 c6 c4 c5 c7 a b).app ρ').I 7 = ((decL x5').length : Int) := by show (c7.den ρ').getD 0 = _; rw [d7 ρ' hle hG']; rfl
  have j10 : ((sg1 c3 c6 c4 c5 c7 a b).app ρ').I 10 = n := sl.i10
  have jv : ((sg1 c3 c6 c4 c5 c7 a b).app ρ').V 0 = v := sl.hv
  have hp' : ρ'.I 2 = (h : Int) := by rw [hle.i]; exact hp
  have j2 : ((sg1 c3 c6 c4 c5 c7 a b).app ρ').I 2 = (h' : Int) := by
    show ((pkT c4).den ρ').getD 0 = _
    have e := len_den (d4 ρ' hle hG') e4
    rw [← hpk]
    simp only [pkT, IT.den.eq_8, e, den_var, hp', Option.getD_some]
  have sN : S02 v n most (i + 1) h' B' K' ((sg1 c3 c6 c4 c5 c7 a b).app ρ') := ⟨j0, j1, j3, by rw [j4, e4], j10, jv, by omega, s.n2, s.m0, s.m, s'⟩
  have rN : R02 B' ((sg1 c3 c6 c4 c5 c7 a b).app ρ') := ⟨j6', by rw [j7, j5], by rw [j5]; exact l5, by rw [j5]; exact e5⟩
  refine ⟨hG', CRel_app.2 ⟨rN.cb sN.bl, sN.ci⟩, fun a' w r => ih _ ?_ ⟨_, _, _, _, sN, rN, j2⟩ _ a' w (.inl rfl) r⟩
  rw [j1, s.i1]; omega
theorem next0 {w0 : World} {h' : Nat} {K' : List Int} {c3 c4 : IT} {cs : Cs} {x4 : Int} (s : S02 v n most i h B K ρ) (hp : ρ.I 2 = (h : Int)) (hi : i < n) (s' : Stk most h' [] K') (hpk : (if (K'.length : Int) > (h : Int) then (K'.length : Int) else (h : Int)) = (h' : Int))
    (d3 : ∀ ρ', ρ.Le ρ' → GL.at ρ' → c3.den ρ' = some (h' : Int)) (d4 : ∀ ρ', ρ.Le ρ' → GL.at ρ' → c4.den ρ' = some x4) (e4 : decL x4 = usedL K')
    (ih : ∀ ρ', ((n : Int) - ρ'.I 1).toNat < ((n : Int) - ρ.I 1).toNat → J0 v n most ρ' → ∀ todo a w, todo = .inLoop hb0 :: hk0 ∨ todo = .code (.loop hb0) :: hk0 → SRel (βL w0) ρ' (T0.st todo) a w → Goes Try.prog 3 (RT w0) todo a w) :
    SumGood Try.prog (βL w0) 3 QT [T1, T0] ρ (.next 1 tdH cs (sg0 c3 c4)) := by
  intro ρ' hle _ T hT hG'
  have hT : T0 = T := by simpa using hT
  subst hT
  have sl := s.of_le hle
  have j0 : ((sg0 c3 c4).app ρ').I 0 = most := sl.i0
  have j1 : ((sg0 c3 c4).app ρ').I 1 = ((i + 1 : Nat) : Int) := by show (i1T.den ρ').getD 0 = _; rw [i1T_den sl]; rfl
  have j3 : ((sg0 c3 c4).app ρ').I 3 = (h' : Int) := by show (c3.den ρ').getD 0 = _; rw [d3 ρ' hle hG']; rfl
  have j4 : ((sg0 c3 c4).app ρ').I 4 = x4 := by show (c4.den ρ').getD 0 = _; rw [d4 ρ' hle hG']; rfl
  have j10 : ((sg0 c3 c4).app ρ').I 10 = n := sl.i10
  have jv : ((sg0 c3 c4).app ρ').V 0 = v := sl.hv
  have hp' : ρ'.I 2 = (h : Int) := by rw [hle.i]; exact hp
  have j2 : ((sg0 c3 c4).app ρ').I 2 = (h' : Int) := by
    show ((pkT c4).den ρ').getD 0 = _
    have e := len_den (d4 ρ' hle hG') e4
    rw [← hpk]
    simp only [pkT, IT.den.eq_8, e, den_var, hp', Option.getD_some]
  have sN : S02 v n most (i + 1) h' [] K' ((sg0 c3 c4).app ρ') := ⟨j0, j1, j3, by rw [j4, e4], j10, jv, by omega, s.n2, s.m0, s.m, s'⟩
  refine ⟨hG', sN.ci, fun a' w r => ih _ ?_ ⟨_, _, _, sN, j2⟩ _ a' w (.inl rfl) r⟩
  rw [j1, s.i1]; omega
theorem end_ok {w0 : World} {cs : Cs} (s : S02 v n most i h B K ρ) (hp : ρ.I 2 = (h : Int)) : SumGood Try.prog (βL w0) 3 QT [T1, T0] ρ (.ret endT cs) := by
  intro ρ' hle _ x hx
  have e3 : ρ'.I 3 = (h : Int) := by rw [hle.i]; exact s.i3
  have e2 : ρ'.I 2 = (h : Int) := by rw [hle.i]; exact hp
  simp only [endT, AVal.den, BT.den, den_var, e3, e2, intCmp, Option.map_some, Option.some.injEq] at hx
  rw [← hx]; simp
end
theorem one {P : Program} {β : Base} {f : FuncId} {Q : Value → Prop} {Ts : List Tpl} {ρ : Env} {s : LS} (h : SumGood P β f Q Ts ρ s) : ∀ x ∈ [s], SumGood P β f Q Ts ρ x := fun x hx => by rw [List.mem_singleton.1 hx]; exact h
theorem loopH1 {w0 : World} {v : Value} {n : Nat} {most : Int} : ∀ ρ, J1 v n most ρ → ∀ todo a w, todo = .inLoop hb0 :: hk0 ∨ todo = .code (.loop hb0) :: hk0 → SRel (βL w0) ρ (T1.st todo) a w → Goes Try.prog 3 (RT w0) todo a w := by
  refine loop_goesS (n := 4000) (Ts := [T1, T0]) (pl := true) (g := gH) (β := βL w0) noCount noExt (sp02_ok w0) follows rfl (J1 v n most) (fun ρ => ((n : Int) - ρ.I 1).toNat) (fun ρ hJ hH hcs hG ih => ?_)
  obtain ⟨i, h, B, K, s, r, hp⟩ := hJ
  have hbl := s.bl
  have hsl := s.s.len
  have sL : ∀ {ρ'}, ρ.Le ρ' → S02 v n most i h B K ρ' := fun hle => s.of_le hle
  have rL : ∀ {ρ'}, ρ.Le ρ' → R02 B ρ' := fun hle => r.of_le hle
  have v5 : ∀ ρ', ρ.Le ρ' → GL.at ρ' → (IT.var 5).den ρ' = some (ρ.I 5) := fun ρ' hle _ => by rw [den_var, hle.i]
  have v4 : ∀ ρ', ρ.Le ρ' → GL.at ρ' → (IT.var 4).den ρ' = some (ρ.I 4) := fun ρ' hle _ => by rw [den_var, hle.i]
  have v3 : ∀ ρ', ρ.Le ρ' → GL.at ρ' → (IT.var 3).den ρ' = some (h : Int) := fun ρ' hle _ => by rw [den_var, (sL hle).i3]
  have v6 : ∀ ρ', ρ.Le ρ' → GL.at ρ' → (IT.var 6).den ρ' = some (B.length : Int) := fun ρ' hle _ => by rw [den_var, (rL hle).i6]
  have v7 : ∀ ρ', ρ.Le ρ' → GL.at ρ' → (IT.var 7).den ρ' = some ((decL (ρ.I 5)).length : Int) := fun ρ' hle _ => by rw [den_var, (rL hle).i7, hle.i]
  by_cases hi : i < n
  · have cIn := fIn_ok s hi
    obtain ⟨b, hb⟩ := kind_den s (k := 2) (by decide)
    have cK := fKind_ok hb
    cases b with
    | true =>
      by_cases h0 : 0 < B.length
      · obtain ⟨cap, hN, hc⟩ := R02.cap hH
        obtain ⟨p1, p2, p3, p4, _⟩ := s.s.pop h0
        obtain ⟨q1, _, _, q4, _⟩ := pop_ok s.s.heap h0
        have hxd := x5_den hG r s h0 hbl
        have hle' := s.s.le
        have htl : ((popD B).take (B.length - 1)).length = B.length - 1 := by simp; omega
        have hl2 : (popD B ++ (decL (ρ.I 5)).drop B.length).length = (decL (ρ.I 5)).length := by
          have := r.le
          simp only [List.length_append, List.length_drop, q1]; omega
        refine ⟨_, _, CRel_app.2 ⟨CRel_app.2 ⟨CRel_app.2 ⟨CRel_app.2 ⟨CRel_app.2 ⟨cIn, cK⟩, f6_ok r (decide_eq_true h0)⟩, fP_ok r h0 hbl hN hc⟩, take_ok s hxd p2 p3 (by omega)⟩, hcs⟩, rh1P,
          one (next1 (x4 := encL (usedL (K ++ [at0 B 0]))) (x5' := encL (popD B ++ (decL (ρ.I 5)).drop B.length)) s hp hi p1 ?_ v3 (fun ρ' hle hG' => put_den (sL hle) (x5_den hG' (rL hle) (sL hle) h0 hbl) p2) (by rw [decL_encL]) (fun ρ' hle _ => by rw [htl]; exact n6_den (rL hle) h0 hbl) (fun ρ' hle hG' => ?_) (fun ρ' hle hG' => ?_) ?_ ?_ ih)⟩
        · simp only [List.length_append, List.length_cons, List.length_nil]
          rw [if_neg (by omega)]
        · rw [dn5_den hG' (rL hle) h0 hbl, hle.i]
        · rw [decL_encL, hl2]; exact v7 ρ' hle hG'
        · rw [decL_encL, htl, List.take_append_of_le_length (by omega)]
        · rw [decL_encL, htl, hl2]; have := r.le; omega
      · have hB : B = [] := List.length_eq_zero_iff.1 (by omega)
        have c6 := f6_ok r (b := false) (decide_eq_false h0)
        by_cases hh : (h : Int) < most
        · rw [hB] at s
          obtain ⟨p1, p2, p3, _⟩ := s.s.next hh
          have hd := h1_den s
          refine ⟨_, _, CRel_app.2 ⟨CRel_app.2 ⟨c6, CRel_app.2 ⟨CRel_app.2 ⟨CRel_app.2 ⟨cIn, cK⟩, fHi_ok s (decide_eq_true hh)⟩, take_ok s hd p2 (by omega) (by omega)⟩⟩, hcs⟩, rh1A,
            one (next1 (h' := h + 1) (x4 := encL (usedL (K ++ [(h : Int) + 1]))) (x5' := ρ.I 5) s hp hi p1 ?_ (fun ρ' hle _ => h1_den (s.of_le hle)) (fun ρ' hle _ => put_den (s.of_le hle) (h1_den (s.of_le hle)) p2) (by rw [decL_encL]) (fun ρ' hle hG' => ?_) v5 v7 ?_ ?_ ih)⟩
          · simp only [List.length_append, List.length_cons, List.length_nil]
            rw [if_pos (by omega)]; omega
          · rw [v6 ρ' hle hG', hB]
          · rfl
          · exact Nat.zero_le _
        · have hm : (K.length : Int) = most := by have := s.s.le; rw [hB] at hsl; simp at hsl; omega
          refine ⟨_, _, CRel_app.2 ⟨CRel_app.2 ⟨c6, CRel_app.2 ⟨CRel_app.2 ⟨CRel_app.2 ⟨cIn, cK⟩, fHi_ok s (decide_eq_false hh)⟩, fLen_ok s hm⟩⟩, hcs⟩, rh1B,
            one (next1 (x4 := ρ.I 4) (x5' := ρ.I 5) s hp hi s.s (by rw [if_neg (by omega)]) v3 v4 s.i4 v6 v5 v7 r.i5 r.le ih)⟩
    | false =>
      have hN := tN_den s
      by_cases hk : opN v i ∈ K
      · obtain ⟨p1, _⟩ := s.s.give hk
        have hel := List.length_erase_of_mem hk
        have hpl : (pushL B (opN v i)).length = B.length + 1 := (push_ok s.s.heap).2.length_eq
        have hkl : 0 < K.length := List.length_pos_of_mem hk
        refine ⟨_, _, CRel_app.2 ⟨CRel_app.2 ⟨fQ_ok r hbl, CRel_app.2 ⟨CRel_app.2 ⟨CRel_app.2 ⟨cIn, cK⟩, ze_ok s hN (decide_eq_true hk)⟩, usdel_ok s hN⟩⟩, hcs⟩, rh1H,
          one (next1 (x4 := encL (usedL (K.erase (opN v i)))) (x5' := encL (pushL B (opN v i))) s hp hi p1 (by rw [hel, if_neg (by omega)]) v3 (fun ρ' hle _ => del_den (sL hle) (tN_den (sL hle))) (by rw [decL_encL]) (fun ρ' hle _ => by rw [hpl]; exact (j6_den (rL hle) hbl).1) (fun ρ' hle hG' => psh_den hG' (rL hle) (sL hle) hbl) (fun ρ' hle _ => by rw [decL_encL, hpl]; exact (j6_den (rL hle) hbl).1) (by rw [decL_encL, List.take_length]) (by rw [decL_encL]; exact Nat.le_refl _) ih)⟩
      · exact ⟨_, _, CRel_app.2 ⟨CRel_app.2 ⟨CRel_app.2 ⟨cIn, cK⟩, ze_ok s hN (decide_eq_false hk)⟩, hcs⟩, rh1N, one (next1 (x4 := ρ.I 4) (x5' := ρ.I 5) s hp hi s.s (by rw [if_neg (by omega)]) v3 v4 s.i4 v6 v5 v7 r.i5 r.le ih)⟩
  · exact ⟨_, _, CRel_app.2 ⟨wE_ok s hi, hcs⟩, rh1E, one (end_ok s hp)⟩
theorem loopH0 {w0 : World} {v : Value} {n : Nat} {most : Int} : ∀ ρ, J0 v n most ρ → ∀ todo a w, todo = .inLoop hb0 :: hk0 ∨ todo = .code (.loop hb0) :: hk0 → SRel (βL w0) ρ (T0.st todo) a w → Goes Try.prog 3 (RT w0) todo a w := by
  refine loop_goesS (n := 4000) (Ts := [T1, T0]) (pl := true) (g := gH) (β := βL w0) noCount noExt (sp02_ok w0) follows rfl (J0 v n most) (fun ρ => ((n : Int) - ρ.I 1).toNat) (fun ρ hJ hH hcs hG ih => ?_)
  obtain ⟨i, h, K, s, hp⟩ := hJ
  have hsl := s.s.len
  simp only [List.length_nil, Nat.zero_add] at hsl
  have sL : ∀ {ρ'}, ρ.Le ρ' → S02 v n most i h [] K ρ' := fun hle => s.of_le hle
  have v4 : ∀ ρ', ρ.Le ρ' → GL.at ρ' → (IT.var 4).den ρ' = some (ρ.I 4) := fun ρ' hle _ => by rw [den_var, hle.i]
  have v3 : ∀ ρ', ρ.Le ρ' → GL.at ρ' → (IT.var 3).den ρ' = some (h : Int) := fun ρ' hle _ => by rw [den_var, (sL hle).i3]
  by_cases hi : i < n
  · have cIn := fIn_ok s hi
    obtain ⟨b, hb⟩ := kind_den s (k := 2) (by decide)
    have cK := fKind_ok hb
    cases b with
    | true =>
      by_cases hh : (h : Int) < most
      · obtain ⟨p1, p2, p3, _⟩ := s.s.next hh
        have hd := h1_den s
        refine ⟨_, _, CRel_app.2 ⟨CRel_app.2 ⟨CRel_app.2 ⟨CRel_app.2 ⟨cIn, cK⟩, fHi_ok s (decide_eq_true hh)⟩, take_ok s hd p2 (by omega) (by omega)⟩, hcs⟩, rh0A,
          one (next0 (h' := h + 1) (x4 := encL (usedL (K ++ [(h : Int) + 1]))) s hp hi p1 ?_ (fun ρ' hle _ => h1_den (sL hle)) (fun ρ' hle _ => put_den (sL hle) (h1_den (sL hle)) p2) (by rw [decL_encL]) ih)⟩
        simp only [List.length_append, List.length_cons, List.length_nil]
        rw [if_pos (by omega)]; omega
      · have hm : (K.length : Int) = most := by have := s.s.le; omega
        exact ⟨_, _, CRel_app.2 ⟨CRel_app.2 ⟨CRel_app.2 ⟨CRel_app.2 ⟨cIn, cK⟩, fHi_ok s (decide_eq_false hh)⟩, fLen_ok s hm⟩, hcs⟩, rh0B, one (next0 (x4 := ρ.I 4) s hp hi s.s (by rw [if_neg (by omega)]) v3 v4 s.i4 ih)⟩
    | false =>
      have hN := tN_den s
      by_cases hk : opN v i ∈ K
      · obtain ⟨p1, _⟩ := s.s.give hk
        have hel := List.length_erase_of_mem hk
        have hkl : 0 < K.length := List.length_pos_of_mem hk
        have hpu : pushL [] (opN v i) = [opN v i] := by
          show upL [opN v i] 0 = _
          rw [upL, dif_pos rfl]
        rw [hpu] at p1
        have e5 : ∀ ρ', ρ.Le ρ' → GL.at ρ' → (IT.un 3 (.lit 0) tN).den ρ' = some (encL [opN v i]) := fun ρ' hle _ => by
          rw [un_den 3 (den_lit 0) (tN_den (sL hle))]
          simp [univ]
        exact ⟨_, _, CRel_app.2 ⟨CRel_app.2 ⟨CRel_app.2 ⟨CRel_app.2 ⟨cIn, cK⟩, ze_ok s hN (decide_eq_true hk)⟩, usdel_ok s hN⟩, hcs⟩, rh0H,
          one (next1 (x4 := encL (usedL (K.erase (opN v i)))) (x5' := encL [opN v i]) s hp hi p1 (by rw [hel, if_neg (by omega)]) v3 (fun ρ' hle _ => del_den (sL hle) (tN_den (sL hle))) (by rw [decL_encL]) (fun ρ' _ _ => rfl) e5 (fun ρ' _ _ => by rw [decL_encL]; rfl) (by rw [decL_encL]; rfl) (by rw [decL_encL]; exact Nat.le_refl _) (fun ρ' _ hJ' todo a w ht r => loopH1 ρ' hJ' todo a w ht r))⟩
      · exact ⟨_, _, CRel_app.2 ⟨CRel_app.2 ⟨CRel_app.2 ⟨cIn, cK⟩, ze_ok s hN (decide_eq_false hk)⟩, hcs⟩, rh0N, one (next0 (x4 := ρ.I 4) s hp hi s.s (by rw [if_neg (by omega)]) v3 v4 s.i4 ih)⟩
  · exact ⟨_, _, CRel_app.2 ⟨wE_ok s hi, hcs⟩, rh0E, one (end_ok s hp)⟩
end Go.Proofs.Ytlcjgmehccopkaa
