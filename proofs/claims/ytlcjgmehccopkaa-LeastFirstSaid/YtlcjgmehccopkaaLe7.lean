/-
  Least (7): LeastFirst: what is taken is the least that wasn't in use.
-/
import Derived.Test.YtlcjgmehccopkaaLe5
namespace Go.Proofs.Ytlcjgmehccopkaa
open Go.Vm Go.Vm.Le
namespace Fi

def tmF : List (Nat × AVal) := [(0, vI 0), (4, .bool (.lit false)), (5, .ptr 1 (.lit 0)), (26, opsA), (27, vI 10), (28, vI 1)]
def tmI : List (Nat × AVal) := [(0, vI 0), (4, .bool (.lit false)), (5, .ptr 1 (.lit 0)), (26, opsA), (27, vI 10), (28, vI 1), (9, vI 8), (11, vI 2)]
def csF : Cs := [(.cmp .lss (.var 1) (.var 10), true), (.cmp .geq (.var 2) (.lit 1), true), (.cmp .leq (.var 2) (.lit 301), true), (.cmp .geq (.var 8) (.lit 1), true), (.cmp .leq (.var 8) (.lit 300), true)]
def T0 : Tpl := ⟨tmF, 68, HT0, 3, csI, 3⟩
def T1 : Tpl := ⟨tmF, 68, HT1, 5, csB ++ csI, 3⟩
def I0 : Tpl := ⟨tmI, 68, HT0, 3, csF ++ csI, 7⟩
def I1 : Tpl := ⟨tmI, 68, HT1, 5, csF ++ (csB ++ csI), 7⟩
def TL : List Tpl := [I1, I0, T1, T0]
noncomputable def b0 : Code := ((loopsOf (Try.f4.body.getD .ret) []).getD 0 (.ret, [])).1
noncomputable def k0 : List Item := ((loopsOf (Try.f4.body.getD .ret) []).getD 0 (.ret, [])).2
noncomputable def b1 : Code := ((loopsOf (Try.f4.body.getD .ret) []).getD 1 (.ret, [])).1
noncomputable def k1 : List Item := ((loopsOf (Try.f4.body.getD .ret) []).getD 1 (.ret, [])).2
def fTakeF (x : IT) : Cs := [(.cmp .eql x (.lit 0), false), (.cmp .gtr x (.lit 300), false)]
def fLenE : Cs := [(.cmp .eql (.un 9 (.var 4) (.lit 0)) (.var 0), true)]
def vA : Cs := fIn ++ fKind 3 false ++ fHi true ++ fTakeF h1
def vB : Cs := fIn ++ fKind 3 false ++ fHi false ++ fLenE
def vH : Cs := fIn ++ fKind 3 true ++ ze (.var 4) tN true
def vN : Cs := fIn ++ fKind 3 true ++ ze (.var 4) tN false
def vP : Cs := fIn ++ fKind 3 false ++ f6 true ++ fP ++ fTakeF x5
def iG : Cs := [(.cmp .leq (.var 2) (.var 8), true)] ++ bn (us (.var 4) (.var 2)) true
def iE : Cs := [(.cmp .leq (.var 2) (.var 8), false)]
def i2T : IT := .bin .add .i64 (.var 2) (.lit 1)
def sf0 (c3 c4 : IT) : Sub := ⟨[(0, .var 0), (1, i1T), (3, c3), (4, c4)], [], [], [], [(1, 1), (0, 0), (2, 2)]⟩
def sf1 (c3 c6 c4 c5 c7 : IT) (a b : Nat) : Sub := ⟨[(0, .var 0), (1, i1T), (3, c3), (6, c6), (4, c4), (5, c5), (7, c7)], [], [], [], [(1, 1), (0, 0), (3, a), (4, b), (2, 2)]⟩
def si0 (c8 c2 c3 c4 : IT) : Sub := ⟨[(0, .var 0), (1, .var 1), (8, c8), (2, c2), (3, c3), (4, c4)], [], [], [], [(1, 1), (0, 0), (2, 2)]⟩
def si1 (c8 c2 c3 c6 c4 c5 c7 : IT) : Sub := ⟨[(0, .var 0), (1, .var 1), (8, c8), (2, c2), (3, c3), (6, c6), (4, c4), (5, c5), (7, c7)], [], [], [], [(1, 1), (0, 0), (3, 3), (4, 4), (2, 2)]⟩
noncomputable def RunO (T : Tpl) (c : Cs) (s : LS) : Prop := (run Try.prog [] sp02 4000 true 4 ((⟨T.tm, T.nt, T.H, T.nl, c ++ T.cs, T.dep⟩ : Tpl).st (.code b0 :: .inLoop b0 :: k0))).map (·.filterMap (sumL gH TL)) = some [s]
noncomputable def RunI (T : Tpl) (c : Cs) (s : LS) : Prop := (run Try.prog [] sp02 4000 true 4 ((⟨T.tm, T.nt, T.H, T.nl, c ++ T.cs, T.dep⟩ : Tpl).st (.code b1 :: .inLoop b1 :: k1))).map (·.filterMap (sumL gH TL)) = some [s]
noncomputable def tdO : List Item := .inLoop b0 :: k0
noncomputable def tdI : List Item := .inLoop b1 :: k1
noncomputable def tdE : List Item := .code (.loop b1) :: k1
def tT : AVal := .bool (.lit true)
theorem r0A : RunO T0 vA (.next 1 tdE (vA ++ csI) (si0 h1 (.lit 1) h1 (put (.var 4) h1))) := by unfold RunO; kernel_rfl
theorem r0B : RunO T0 vB (.ret tT (vB ++ csI)) := by unfold RunO; kernel_rfl
theorem r0H : RunO T0 vH (.next 2 tdO (vH ++ csI) (sf1 (.var 3) (.lit 1) del4 (.un 3 (.lit 0) tN) (.lit 1) 6 5)) := by unfold RunO; kernel_rfl
theorem r0N : RunO T0 vN (.next 3 tdO (vN ++ csI) (sf0 (.var 3) (.var 4))) := by unfold RunO; kernel_rfl
theorem r0E : RunO T0 hwE (.ret tT (hwE ++ csI)) := by unfold RunO; kernel_rfl
theorem r1P : RunO T1 vP (.next 0 tdE (vP ++ (csB ++ csI)) (si1 x5 (.lit 1) (.var 3) n6 (put (.var 4) x5) dn5 (.var 7))) := by unfold RunO; kernel_rfl
theorem r1A : RunO T1 (f6 false ++ vA) (.next 0 tdE ((f6 false ++ vA) ++ (csB ++ csI)) (si1 h1 (.lit 1) h1 (.var 6) (put (.var 4) h1) (.var 5) (.var 7))) := by unfold RunO; kernel_rfl
theorem r1B : RunO T1 (f6 false ++ vB) (.ret tT ((f6 false ++ vB) ++ (csB ++ csI))) := by unfold RunO; kernel_rfl
theorem r1H : RunO T1 (fQ ++ vH) (.next 2 tdO ((fQ ++ vH) ++ (csB ++ csI)) (sf1 (.var 3) h6 del4 (psh (.un 10 (.var 5) (.var 6)) j6) h6 8 7)) := by unfold RunO; kernel_rfl
theorem r1N : RunO T1 vN (.next 2 tdO (vN ++ (csB ++ csI)) (sf1 (.var 3) (.var 6) (.var 4) (.var 5) (.var 7) 3 4)) := by unfold RunO; kernel_rfl
theorem r1E : RunO T1 hwE (.ret tT (hwE ++ (csB ++ csI))) := by unfold RunO; kernel_rfl
theorem ri0G : RunI I0 iG (.next 1 tdI (iG ++ (csF ++ csI)) (si0 (.var 8) i2T (.var 3) (.var 4))) := by unfold RunI; kernel_rfl
theorem ri0E : RunI I0 iE (.next 3 tdO (iE ++ (csF ++ csI)) (sf0 (.var 3) (.var 4))) := by unfold RunI; kernel_rfl
theorem ri1G : RunI I1 iG (.next 0 tdI (iG ++ (csF ++ (csB ++ csI))) (si1 (.var 8) i2T (.var 3) (.var 6) (.var 4) (.var 5) (.var 7))) := by unfold RunI; kernel_rfl
theorem ri1E : RunI I1 iE (.next 2 tdO (iE ++ (csF ++ (csB ++ csI))) (sf1 (.var 3) (.var 6) (.var 4) (.var 5) (.var 7) 3 4)) := by unfold RunI; kernel_rfl

def J1 (v : Value) (n : Nat) (most : Int) : Env → Prop := fun ρ => ∃ i h B K, S02 v n most i h B K ρ ∧ R02 B ρ ∧ h ≤ i
def J0 (v : Value) (n : Nat) (most : Int) : Env → Prop := fun ρ => ∃ i h K, S02 v n most i h [] K ρ ∧ h ≤ i
/-- Within: x was taken; those below j are in use. -/
structure In (n i h : Nat) (K : List Int) (x : Int) (j : Nat) (ρ : Env) : Prop where
  i8 : ρ.I 8 = x
  i2 : ρ.I 2 = (j : Int)
  hi : i < n
  hh : h ≤ i + 1
  x1 : 1 ≤ x
  xh : x ≤ h
  j1 : 1 ≤ j
  jx : (j : Int) ≤ x + 1
  all : ∀ y, 1 ≤ y → y ≤ x → y ∈ K
def JI1 (v : Value) (n : Nat) (most : Int) (M : Nat) : Env → Prop := fun ρ => ∃ i h B K x j, S02 v n most i h B K ρ ∧ R02 B ρ ∧ In n i h K x j ρ ∧ ((n : Int) - (i : Int)).toNat = M
def JI0 (v : Value) (n : Nat) (most : Int) (M : Nat) : Env → Prop := fun ρ => ∃ i h K x j, S02 v n most i h [] K ρ ∧ In n i h K x j ρ ∧ ((n : Int) - (i : Int)).toNat = M
section
variable {v : Value} {n : Nat} {most : Int} {i h j : Nat} {B K : List Int} {x : Int} {ρ : Env}
theorem In.cs (q : In n i h K x j ρ) (s : S02 v n most i h B K ρ) : CRel ρ csF := by
  have := q.hi; have := q.hh; have := q.x1; have := q.xh; have := q.j1; have := q.jx; have := s.n2
  simp only [csF, CRel_cons, CRel_nil, and_true, BT.den, den_var, den_lit, s.i1, s.i10, q.i2, q.i8, intCmp, Option.some.injEq, decide_eq_true_eq]
  omega
theorem takeF_ok {x : IT} {z : Int} (hx : x.den ρ = some z) (h1 : 1 ≤ z) (h2 : z ≤ 300) : CRel ρ (fTakeF x) := by
  simp only [fTakeF, CRel_cons, CRel_nil, and_true, BT.den, hx, den_lit, intCmp, Option.some.injEq, decide_eq_false_iff_not, beq_eq_false_iff_ne, ne_eq]
  omega
theorem fLenE_ok (s : S02 v n most i h B K ρ) (hk : (K.length : Int) = most) : CRel ρ fLenE := by
  have e := len_den (ρ := ρ) (den_var 4) s.i4
  simp only [fLenE, CRel_cons, CRel_nil, and_true, BT.den, e, den_var, s.i0, intCmp, Option.some.injEq, beq_iff_eq]
  exact hk
theorem ret_ok {w0 : World} {cs : Cs} : SumGood Try.prog (βL w0) 4 QT TL ρ (.ret tT cs) := by
  intro ρ' hle _ x hx
  cases hx; rfl
/-- What comes of a round that ends at a head with a row. -/
theorem nextO1 {w0 : World} {B' K' : List Int} {c3 c6 c4 c5 c7 : IT} {a b : Nat} {cs : Cs} {x4 x5' : Int} {N : Nat} (s : S02 v n most i h B K ρ) (hi : i < n) (hhi : h ≤ i + 1) (s' : Stk most h B' K') (hN : ((n : Int) - (i : Int)).toNat ≤ N)
    (d3 : ∀ ρ', ρ.Le ρ' → GL.at ρ' → c3.den ρ' = some (h : Int)) (d4 : ∀ ρ', ρ.Le ρ' → GL.at ρ' → c4.den ρ' = some x4) (e4 : decL x4 = usedL K') (d6 : ∀ ρ', ρ.Le ρ' → GL.at ρ' → c6.den ρ' = some (B'.length : Int)) (d5 : ∀ ρ', ρ.Le ρ' → GL.at ρ' → c5.den ρ' = some x5')
    (d7 : ∀ ρ', ρ.Le ρ' → GL.at ρ' → c7.den ρ' = some ((decL x5').length : Int)) (e5 : (decL x5').take B'.length = B') (l5 : B'.length ≤ (decL x5').length)
    (ih : ∀ ρ', ((n : Int) - ρ'.I 1).toNat < N → J1 v n most ρ' → ∀ todo a w, todo = .inLoop b0 :: k0 ∨ todo = .code (.loop b0) :: k0 → SRel (βL w0) ρ' (T1.st todo) a w → Goes Try.prog 4 (RT w0) todo a w) :
    SumGood Try.prog (βL w0) 4 QT TL ρ (.next 2 tdO cs (sf1 c3 c6 c4 c5 c7 a b)) := by
  intro ρ' hle _ T hT hG'
  have hT : T1 = T := by simpa [TL] using hT
  subst hT
  have sl := s.of_le hle
  have q1 : ((sf1 c3 c6 c4 c5 c7 a b).app ρ').I 1 = ((i + 1 : Nat) : Int) := by show (i1T.den ρ').getD 0 = _; rw [i1T_den sl]; rfl
  have q3 : ((sf1 c3 c6 c4 c5 c7 a b).app ρ').I 3 = (h : Int) := by show (c3.den ρ').getD 0 = _; rw [d3 ρ' hle hG']; rfl
  have q4 : ((sf1 c3 c6 c4 c5 c7 a b).app ρ').I 4 = x4 := by show (c4.den ρ').getD 0 = _; rw [d4 ρ' hle hG']; rfl
  have q5 : ((sf1 c3 c6 c4 c5 c7 a b).app ρ').I 5 = x5' := by show (c5.den ρ').getD 0 = _; rw [d5 ρ' hle hG']; rfl
  have q6 : ((sf1 c3 c6 c4 c5 c7 a b).app ρ').I 6 = (B'.length : Int) := by show (c6.den ρ').getD 0 = _; rw [d6 ρ' hle hG']; rfl
  have q7 : ((sf1 c3 c6 c4 c5 c7 a b).app ρ').I 7 = ((decL x5').length : Int) := by show (c7.den ρ').getD 0 = _; rw [d7 ρ' hle hG']; rfl
  have sN : S02 v n most (i + 1) h B' K' ((sf1 c3 c6 c4 c5 c7 a b).app ρ') := ⟨sl.i0, q1, q3, by rw [q4, e4], sl.i10, sl.hv, by omega, s.n2, s.m0, s.m, s'⟩
  have rN : R02 B' ((sf1 c3 c6 c4 c5 c7 a b).app ρ') := ⟨q6, by rw [q7, q5], by rw [q5]; exact l5, by rw [q5]; exact e5⟩
  refine ⟨hG', CRel_app.2 ⟨rN.cb sN.bl, sN.ci⟩, fun a' w r => ih _ ?_ ⟨_, _, _, _, sN, rN, hhi⟩ _ a' w (.inl rfl) r⟩
  rw [q1]; omega
theorem nextO0 {w0 : World} {K' : List Int} {c3 c4 : IT} {cs : Cs} {x4 : Int} {N : Nat} (s : S02 v n most i h B K ρ) (hi : i < n) (hhi : h ≤ i + 1) (s' : Stk most h [] K') (hN : ((n : Int) - (i : Int)).toNat ≤ N)
    (d3 : ∀ ρ', ρ.Le ρ' → GL.at ρ' → c3.den ρ' = some (h : Int)) (d4 : ∀ ρ', ρ.Le ρ' → GL.at ρ' → c4.den ρ' = some x4) (e4 : decL x4 = usedL K')
    (ih : ∀ ρ', ((n : Int) - ρ'.I 1).toNat < N → J0 v n most ρ' → ∀ todo a w, todo = .inLoop b0 :: k0 ∨ todo = .code (.loop b0) :: k0 → SRel (βL w0) ρ' (T0.st todo) a w → Goes Try.prog 4 (RT w0) todo a w) :
    SumGood Try.prog (βL w0) 4 QT TL ρ (.next 3 tdO cs (sf0 c3 c4)) := by
  intro ρ' hle _ T hT hG'
  have hT : T0 = T := by simpa [TL] using hT
  subst hT
  have sl := s.of_le hle
  have q1 : ((sf0 c3 c4).app ρ').I 1 = ((i + 1 : Nat) : Int) := by show (i1T.den ρ').getD 0 = _; rw [i1T_den sl]; rfl
  have q3 : ((sf0 c3 c4).app ρ').I 3 = (h : Int) := by show (c3.den ρ').getD 0 = _; rw [d3 ρ' hle hG']; rfl
  have q4 : ((sf0 c3 c4).app ρ').I 4 = x4 := by show (c4.den ρ').getD 0 = _; rw [d4 ρ' hle hG']; rfl
  have sN : S02 v n most (i + 1) h [] K' ((sf0 c3 c4).app ρ') := ⟨sl.i0, q1, q3, by rw [q4, e4], sl.i10, sl.hv, by omega, s.n2, s.m0, s.m, s'⟩
  refine ⟨hG', sN.ci, fun a' w r => ih _ ?_ ⟨_, _, _, sN, hhi⟩ _ a' w (.inl rfl) r⟩
  rw [q1]; omega
/-- What comes of a round that ends within. -/
theorem nextI1 {w0 : World} {h' j' : Nat} {B' K' : List Int} {c8 c2 c3 c6 c4 c5 c7 : IT} {td : List Item} {cs : Cs} {x4 x5' z : Int} {M : Nat} (s : S02 v n most i h B K ρ) (s' : Stk most h' B' K') (hi : i < n) (hM : ((n : Int) - (i : Int)).toNat = M) (hh' : h' ≤ i + 1) (hz1 : 1 ≤ z) (hzh : z ≤ h') (hj1 : 1 ≤ j') (hjz : (j' : Int) ≤ z + 1) (hall : ∀ y, 1 ≤ y → y ≤ z → y ∈ K')
    (d8 : ∀ ρ', ρ.Le ρ' → GL.at ρ' → c8.den ρ' = some z) (d2 : ∀ ρ', ρ.Le ρ' → GL.at ρ' → c2.den ρ' = some (j' : Int))
    (d3 : ∀ ρ', ρ.Le ρ' → GL.at ρ' → c3.den ρ' = some (h' : Int)) (d4 : ∀ ρ', ρ.Le ρ' → GL.at ρ' → c4.den ρ' = some x4) (e4 : decL x4 = usedL K') (d6 : ∀ ρ', ρ.Le ρ' → GL.at ρ' → c6.den ρ' = some (B'.length : Int)) (d5 : ∀ ρ', ρ.Le ρ' → GL.at ρ' → c5.den ρ' = some x5')
    (d7 : ∀ ρ', ρ.Le ρ' → GL.at ρ' → c7.den ρ' = some ((decL x5').length : Int)) (e5 : (decL x5').take B'.length = B') (l5 : B'.length ≤ (decL x5').length)
    (go : ∀ ρ', JI1 v n most M ρ' → ρ'.I 2 = (j' : Int) → ρ'.I 8 = z → ∀ a w, SRel (βL w0) ρ' (I1.st td) a w → Goes Try.prog 4 (RT w0) td a w) :
    SumGood Try.prog (βL w0) 4 QT TL ρ (.next 0 td cs (si1 c8 c2 c3 c6 c4 c5 c7)) := by
  intro ρ' hle _ T hT hG'
  have hT : I1 = T := by simpa [TL] using hT
  subst hT
  have sl := s.of_le hle
  have q3 : ((si1 c8 c2 c3 c6 c4 c5 c7).app ρ').I 3 = (h' : Int) := by show (c3.den ρ').getD 0 = _; rw [d3 ρ' hle hG']; rfl
  have q4 : ((si1 c8 c2 c3 c6 c4 c5 c7).app ρ').I 4 = x4 := by show (c4.den ρ').getD 0 = _; rw [d4 ρ' hle hG']; rfl
  have q5 : ((si1 c8 c2 c3 c6 c4 c5 c7).app ρ').I 5 = x5' := by show (c5.den ρ').getD 0 = _; rw [d5 ρ' hle hG']; rfl
  have q6 : ((si1 c8 c2 c3 c6 c4 c5 c7).app ρ').I 6 = (B'.length : Int) := by show (c6.den ρ').getD 0 = _; rw [d6 ρ' hle hG']; rfl
  have q7 : ((si1 c8 c2 c3 c6 c4 c5 c7).app ρ').I 7 = ((decL x5').length : Int) := by show (c7.den ρ').getD 0 = _; rw [d7 ρ' hle hG']; rfl
  have q8 : ((si1 c8 c2 c3 c6 c4 c5 c7).app ρ').I 8 = z := by show (c8.den ρ').getD 0 = _; rw [d8 ρ' hle hG']; rfl
  have q2 : ((si1 c8 c2 c3 c6 c4 c5 c7).app ρ').I 2 = (j' : Int) := by show (c2.den ρ').getD 0 = _; rw [d2 ρ' hle hG']; rfl
  have sN : S02 v n most i h' B' K' ((si1 c8 c2 c3 c6 c4 c5 c7).app ρ') := ⟨sl.i0, sl.i1, q3, by rw [q4, e4], sl.i10, sl.hv, s.le, s.n2, s.m0, s.m, s'⟩
  have rN : R02 B' ((si1 c8 c2 c3 c6 c4 c5 c7).app ρ') := ⟨q6, by rw [q7, q5], by rw [q5]; exact l5, by rw [q5]; exact e5⟩
  have iN : In n i h' K' z j' ((si1 c8 c2 c3 c6 c4 c5 c7).app ρ') := ⟨q8, q2, hi, hh', hz1, hzh, hj1, hjz, hall⟩
  exact ⟨hG', CRel_app.2 ⟨iN.cs sN, CRel_app.2 ⟨rN.cb sN.bl, sN.ci⟩⟩, fun a' w r => go _ ⟨_, _, _, _, _, _, sN, rN, iN, hM⟩ q2 q8 a' w r⟩
theorem nextI0 {w0 : World} {h' j' : Nat} {K' : List Int} {c8 c2 c3 c4 : IT} {td : List Item} {cs : Cs} {x4 z : Int} {M : Nat} (s : S02 v n most i h B K ρ) (s' : Stk most h' [] K') (hi : i < n) (hM : ((n : Int) - (i : Int)).toNat = M) (hh' : h' ≤ i + 1) (hz1 : 1 ≤ z) (hzh : z ≤ h') (hj1 : 1 ≤ j') (hjz : (j' : Int) ≤ z + 1) (hall : ∀ y, 1 ≤ y → y ≤ z → y ∈ K')
    (d8 : ∀ ρ', ρ.Le ρ' → GL.at ρ' → c8.den ρ' = some z) (d2 : ∀ ρ', ρ.Le ρ' → GL.at ρ' → c2.den ρ' = some (j' : Int))
    (d3 : ∀ ρ', ρ.Le ρ' → GL.at ρ' → c3.den ρ' = some (h' : Int)) (d4 : ∀ ρ', ρ.Le ρ' → GL.at ρ' → c4.den ρ' = some x4) (e4 : decL x4 = usedL K')
    (go : ∀ ρ', JI0 v n most M ρ' → ρ'.I 2 = (j' : Int) → ρ'.I 8 = z → ∀ a w, SRel (βL w0) ρ' (I0.st td) a w → Goes Try.prog 4 (RT w0) td a w) :
    SumGood Try.prog (βL w0) 4 QT TL ρ (.next 1 td cs (si0 c8 c2 c3 c4)) := by
  intro ρ' hle _ T hT hG'
  have hT : I0 = T := by simpa [TL] using hT
  subst hT
  have sl := s.of_le hle
  have q3 : ((si0 c8 c2 c3 c4).app ρ').I 3 = (h' : Int) := by show (c3.den ρ').getD 0 = _; rw [d3 ρ' hle hG']; rfl
  have q4 : ((si0 c8 c2 c3 c4).app ρ').I 4 = x4 := by show (c4.den ρ').getD 0 = _; rw [d4 ρ' hle hG']; rfl
  have q8 : ((si0 c8 c2 c3 c4).app ρ').I 8 = z := by show (c8.den ρ').getD 0 = _; rw [d8 ρ' hle hG']; rfl
  have q2 : ((si0 c8 c2 c3 c4).app ρ').I 2 = (j' : Int) := by show (c2.den ρ').getD 0 = _; rw [d2 ρ' hle hG']; rfl
  have sN : S02 v n most i h' [] K' ((si0 c8 c2 c3 c4).app ρ') := ⟨sl.i0, sl.i1, q3, by rw [q4, e4], sl.i10, sl.hv, s.le, s.n2, s.m0, s.m, s'⟩
  have iN : In n i h' K' z j' ((si0 c8 c2 c3 c4).app ρ') := ⟨q8, q2, hi, hh', hz1, hzh, hj1, hjz, hall⟩
  exact ⟨hG', CRel_app.2 ⟨iN.cs sN, sN.ci⟩, fun a' w r => go _ ⟨_, _, _, _, _, sN, iN, hM⟩ q2 q8 a' w r⟩
theorem i2T_den (q : In n i h K x j ρ) (s : S02 v n most i h B K ρ) : i2T.den ρ = some ((j + 1 : Nat) : Int) := by
  have := q.jx; have := q.xh; have := s.hn
  simp only [i2T, IT.den, intBin, q.i2]
  rw [wrap_ok (by omega) (by omega)]
  congr 1
theorem In.of_le (q : In n i h K x j ρ) {ρ' : Env} (hle : ρ.Le ρ') : In n i h K x j ρ' := ⟨by rw [hle.i]; exact q.i8, by rw [hle.i]; exact q.i2, q.hi, q.hh, q.x1, q.xh, q.j1, q.jx, q.all⟩
theorem bn_ok {t : BT} {b : Bool} (h : t.den ρ = some b) : CRel ρ (bn t b) := by
  simp only [bn, CRel_cons, CRel_nil, and_true, h, BT.den.eq_4, Option.map_some]
theorem iG_ok (q : In n i h K x j ρ) (s : S02 v n most i h B K ρ) (hj : (j : Int) ≤ x) : CRel ρ iG := by
  have hd : (IT.var 2).den ρ = some (j : Int) := by rw [den_var, q.i2]
  have hu := us_den s hd
  rw [decide_eq_true (q.all _ (by have := q.j1; omega) hj)] at hu
  refine CRel_app.2 ⟨?_, bn_ok hu⟩
  simp only [CRel_cons, CRel_nil, and_true, BT.den, den_var, q.i2, q.i8, intCmp, Option.some.injEq, decide_eq_true_eq]
  exact hj
theorem iE_ok (q : In n i h K x j ρ) (hj : ¬ (j : Int) ≤ x) : CRel ρ iE := by
  simp only [iE, CRel_cons, CRel_nil, and_true, BT.den, den_var, q.i2, q.i8, intCmp, Option.some.injEq, decide_eq_false_iff_not]
  exact hj
end
theorem one {P : Program} {β : Base} {f : FuncId} {Q : Value → Prop} {Ts : List Tpl} {ρ : Env} {s : LS} (h : SumGood P β f Q Ts ρ s) : ∀ x ∈ [s], SumGood P β f Q Ts ρ x := fun x hx => by rw [List.mem_singleton.1 hx]; exact h
theorem loopI1 {w0 : World} {v : Value} {n : Nat} {most : Int} {M : Nat} (out : ∀ ρ', ((n : Int) - ρ'.I 1).toNat < M → J1 v n most ρ' → ∀ todo a w, todo = .inLoop b0 :: k0 ∨ todo = .code (.loop b0) :: k0 → SRel (βL w0) ρ' (T1.st todo) a w → Goes Try.prog 4 (RT w0) todo a w) :
    ∀ ρ, JI1 v n most M ρ → ∀ todo a w, todo = .inLoop b1 :: k1 ∨ todo = .code (.loop b1) :: k1 → SRel (βL w0) ρ (I1.st todo) a w → Goes Try.prog 4 (RT w0) todo a w := by
  refine loop_goesS (n := 4000) (Ts := TL) (pl := true) (g := gH) (β := βL w0) noCount noExt (sp02_ok w0) follows rfl (JI1 v n most M) (fun ρ => (ρ.I 8 + 1 - ρ.I 2).toNat) (fun ρ hJ hH hcs hG ih => ?_)
  obtain ⟨i, h, B, K, x, j, s, r, q, hM⟩ := hJ
  have v2 : ∀ k, ∀ ρ', ρ.Le ρ' → GL.at ρ' → (IT.var k).den ρ' = some (ρ.I k) := fun k ρ' hle _ => by rw [den_var, hle.i]
  have v3 : ∀ ρ', ρ.Le ρ' → GL.at ρ' → (IT.var 3).den ρ' = some (h : Int) := fun ρ' hle _ => by rw [den_var, (s.of_le hle).i3]
  have v6 : ∀ ρ', ρ.Le ρ' → GL.at ρ' → (IT.var 6).den ρ' = some (B.length : Int) := fun ρ' hle _ => by rw [den_var, (r.of_le hle).i6]
  have v7 : ∀ ρ', ρ.Le ρ' → GL.at ρ' → (IT.var 7).den ρ' = some ((decL (ρ.I 5)).length : Int) := fun ρ' hle _ => by rw [den_var, (r.of_le hle).i7, hle.i]
  have v8 : ∀ ρ', ρ.Le ρ' → GL.at ρ' → (IT.var 8).den ρ' = some x := fun ρ' hle _ => by rw [den_var, (q.of_le hle).i8]
  by_cases hj : (j : Int) ≤ x
  · exact ⟨_, _, CRel_app.2 ⟨iG_ok q s hj, hcs⟩, ri1G, one (nextI1 (x4 := ρ.I 4) (x5' := ρ.I 5) (j' := j + 1) s s.s q.hi hM q.hh q.x1 q.xh (by omega) (by omega) q.all v8 (fun ρ' hle _ => i2T_den (q.of_le hle) (s.of_le hle)) v3 (v2 4) s.i4 v6 (v2 5) v7 r.i5 r.le (fun ρ' hJ' e2 e8 a w r' => ih ρ' (by rw [e2, e8, q.i2, q.i8]; omega) hJ' _ a w (.inl rfl) r'))⟩
  · exact ⟨_, _, CRel_app.2 ⟨iE_ok q hj, hcs⟩, ri1E, one (nextO1 (x4 := ρ.I 4) (x5' := ρ.I 5) s q.hi q.hh s.s (Nat.le_of_eq hM) v3 (v2 4) s.i4 v6 (v2 5) v7 r.i5 r.le out)⟩
theorem loopI0 {w0 : World} {v : Value} {n : Nat} {most : Int} {M : Nat} (out : ∀ ρ', ((n : Int) - ρ'.I 1).toNat < M → J0 v n most ρ' → ∀ todo a w, todo = .inLoop b0 :: k0 ∨ todo = .code (.loop b0) :: k0 → SRel (βL w0) ρ' (T0.st todo) a w → Goes Try.prog 4 (RT w0) todo a w) :
    ∀ ρ, JI0 v n most M ρ → ∀ todo a w, todo = .inLoop b1 :: k1 ∨ todo = .code (.loop b1) :: k1 → SRel (βL w0) ρ (I0.st todo) a w → Goes Try.prog 4 (RT w0) todo a w := by
  refine loop_goesS (n := 4000) (Ts := TL) (pl := true) (g := gH) (β := βL w0) noCount noExt (sp02_ok w0) follows rfl (JI0 v n most M) (fun ρ => (ρ.I 8 + 1 - ρ.I 2).toNat) (fun ρ hJ hH hcs hG ih => ?_)
  obtain ⟨i, h, K, x, j, s, q, hM⟩ := hJ
  have v2 : ∀ k, ∀ ρ', ρ.Le ρ' → GL.at ρ' → (IT.var k).den ρ' = some (ρ.I k) := fun k ρ' hle _ => by rw [den_var, hle.i]
  have v3 : ∀ ρ', ρ.Le ρ' → GL.at ρ' → (IT.var 3).den ρ' = some (h : Int) := fun ρ' hle _ => by rw [den_var, (s.of_le hle).i3]
  have v8 : ∀ ρ', ρ.Le ρ' → GL.at ρ' → (IT.var 8).den ρ' = some x := fun ρ' hle _ => by rw [den_var, (q.of_le hle).i8]
  by_cases hj : (j : Int) ≤ x
  · exact ⟨_, _, CRel_app.2 ⟨iG_ok q s hj, hcs⟩, ri0G, one (nextI0 (x4 := ρ.I 4) (j' := j + 1) s s.s q.hi hM q.hh q.x1 q.xh (by omega) (by omega) q.all v8 (fun ρ' hle _ => i2T_den (q.of_le hle) (s.of_le hle)) v3 (v2 4) s.i4 (fun ρ' hJ' e2 e8 a w r' => ih ρ' (by rw [e2, e8, q.i2, q.i8]; omega) hJ' _ a w (.inl rfl) r'))⟩
  · exact ⟨_, _, CRel_app.2 ⟨iE_ok q hj, hcs⟩, ri0E, one (nextO0 (x4 := ρ.I 4) s q.hi q.hh s.s (Nat.le_of_eq hM) v3 (v2 4) s.i4 out)⟩
theorem loopO1 {w0 : World} {v : Value} {n : Nat} {most : Int} : ∀ ρ, J1 v n most ρ → ∀ todo a w, todo = .inLoop b0 :: k0 ∨ todo = .code (.loop b0) :: k0 → SRel (βL w0) ρ (T1.st todo) a w → Goes Try.prog 4 (RT w0) todo a w := by
  refine loop_goesS (n := 4000) (Ts := TL) (pl := true) (g := gH) (β := βL w0) noCount noExt (sp02_ok w0) follows rfl (J1 v n most) (fun ρ => ((n : Int) - ρ.I 1).toNat) (fun ρ hJ hH hcs hG ih => ?_)
  obtain ⟨i, h, B, K, s, r, hp⟩ := hJ
  have hbl := s.bl
  have hsl := s.s.len
  have hn2 := s.n2
  have hM : ((n : Int) - (i : Int)).toNat = ((n : Int) - ρ.I 1).toNat := by rw [s.i1]
  have sL : ∀ {ρ'}, ρ.Le ρ' → S02 v n most i h B K ρ' := fun hle => s.of_le hle
  have rL : ∀ {ρ'}, ρ.Le ρ' → R02 B ρ' := fun hle => r.of_le hle
  have v2 : ∀ k, ∀ ρ', ρ.Le ρ' → GL.at ρ' → (IT.var k).den ρ' = some (ρ.I k) := fun k ρ' hle _ => by rw [den_var, hle.i]
  have v3 : ∀ ρ', ρ.Le ρ' → GL.at ρ' → (IT.var 3).den ρ' = some (h : Int) := fun ρ' hle _ => by rw [den_var, (sL hle).i3]
  have v6 : ∀ ρ', ρ.Le ρ' → GL.at ρ' → (IT.var 6).den ρ' = some (B.length : Int) := fun ρ' hle _ => by rw [den_var, (rL hle).i6]
  have v7 : ∀ ρ', ρ.Le ρ' → GL.at ρ' → (IT.var 7).den ρ' = some ((decL (ρ.I 5)).length : Int) := fun ρ' hle _ => by rw [den_var, (rL hle).i7, hle.i]
  have go : ∀ {z : Int} {j' : Nat} ρ', JI1 v n most (((n : Int) - ρ.I 1).toNat) ρ' → ρ'.I 2 = (j' : Int) → ρ'.I 8 = z → ∀ a w, SRel (βL w0) ρ' (I1.st tdE) a w → Goes Try.prog 4 (RT w0) tdE a w := fun ρ' hJ' _ _ a w r' => loopI1 ih ρ' hJ' _ a w (.inr rfl) r'
  by_cases hi : i < n
  · have cIn := fIn_ok s hi
    obtain ⟨b, hb⟩ := kind_den s (k := 3) (by decide)
    have cK := fKind_ok hb
    cases b with
    | false =>
      by_cases h0 : 0 < B.length
      · obtain ⟨cap, hN, hc⟩ := R02.cap hH
        obtain ⟨p1, p2, p3, p4, p5⟩ := s.s.pop h0
        obtain ⟨q1, _, _, q4, _⟩ := pop_ok s.s.heap h0
        have hxd := x5_den hG r s h0 hbl
        have htl : ((popD B).take (B.length - 1)).length = B.length - 1 := by simp; omega
        have hl2 : (popD B ++ (decL (ρ.I 5)).drop B.length).length = (decL (ρ.I 5)).length := by
          have := r.le
          simp only [List.length_append, List.length_drop, q1]; omega
        refine ⟨_, _, CRel_app.2 ⟨CRel_app.2 ⟨CRel_app.2 ⟨CRel_app.2 ⟨CRel_app.2 ⟨cIn, cK⟩, f6_ok r (decide_eq_true h0)⟩, fP_ok r h0 hbl hN hc⟩, takeF_ok hxd p3 (by omega)⟩, hcs⟩, r1P,
          one (nextI1 (h' := h) (z := at0 B 0) (j' := 1) (x4 := encL (usedL (K ++ [at0 B 0]))) (x5' := encL (popD B ++ (decL (ρ.I 5)).drop B.length)) s p1 hi hM (by omega) p3 p4 (Nat.le_refl _) (by omega) p5 (fun ρ' hle hG' => x5_den hG' (rL hle) (sL hle) h0 hbl) (fun ρ' _ _ => rfl) v3 (fun ρ' hle hG' => put_den (sL hle) (x5_den hG' (rL hle) (sL hle) h0 hbl) p2) (by rw [decL_encL]) (fun ρ' hle _ => by rw [htl]; exact n6_den (rL hle) h0 hbl) (fun ρ' hle hG' => ?_) (fun ρ' hle hG' => ?_) ?_ ?_ go)⟩
        · rw [dn5_den hG' (rL hle) h0 hbl, hle.i]
        · rw [decL_encL, hl2]; exact v7 ρ' hle hG'
        · rw [decL_encL, htl, List.take_append_of_le_length (by omega)]
        · rw [decL_encL, htl, hl2]; have := r.le; omega
      · have hB : B = [] := List.length_eq_zero_iff.1 (by omega)
        have c6 := f6_ok r (b := false) (decide_eq_false h0)
        by_cases hh : (h : Int) < most
        · rw [hB] at s
          obtain ⟨p1, p2, p3, p5⟩ := s.s.next hh
          have hd := h1_den s
          refine ⟨_, _, CRel_app.2 ⟨CRel_app.2 ⟨c6, CRel_app.2 ⟨CRel_app.2 ⟨CRel_app.2 ⟨cIn, cK⟩, fHi_ok s (decide_eq_true hh)⟩, takeF_ok hd (by omega) (by omega)⟩⟩, hcs⟩, r1A,
            one (nextI1 (h' := h + 1) (z := (h : Int) + 1) (j' := 1) (x4 := encL (usedL (K ++ [(h : Int) + 1]))) (x5' := ρ.I 5) s p1 hi hM (by omega) (by omega) (by omega) (Nat.le_refl _) (by omega) p5 (fun ρ' hle _ => h1_den (s.of_le hle)) (fun ρ' _ _ => rfl) (fun ρ' hle _ => h1_den (s.of_le hle)) (fun ρ' hle _ => put_den (s.of_le hle) (h1_den (s.of_le hle)) p2) (by rw [decL_encL]) (fun ρ' hle hG' => ?_) (v2 5) v7 ?_ ?_ go)⟩
          · rw [v6 ρ' hle hG', hB]
          · rfl
          · exact Nat.zero_le _
        · have hm : (K.length : Int) = most := by have := s.s.le; rw [hB] at hsl; simp at hsl; omega
          exact ⟨_, _, CRel_app.2 ⟨CRel_app.2 ⟨c6, CRel_app.2 ⟨CRel_app.2 ⟨CRel_app.2 ⟨cIn, cK⟩, fHi_ok s (decide_eq_false hh)⟩, fLenE_ok s hm⟩⟩, hcs⟩, r1B, one ret_ok⟩
    | true =>
      have hN := tN_den s
      by_cases hk : opN v i ∈ K
      · obtain ⟨p1, _⟩ := s.s.give hk
        have hpl : (pushL B (opN v i)).length = B.length + 1 := (push_ok s.s.heap).2.length_eq
        exact ⟨_, _, CRel_app.2 ⟨CRel_app.2 ⟨fQ_ok r hbl, CRel_app.2 ⟨CRel_app.2 ⟨cIn, cK⟩, ze_ok s hN (decide_eq_true hk)⟩⟩, hcs⟩, r1H,
          one (nextO1 (x4 := encL (usedL (K.erase (opN v i)))) (x5' := encL (pushL B (opN v i))) s hi (by omega) p1 (Nat.le_of_eq hM) v3 (fun ρ' hle _ => del_den (sL hle) (tN_den (sL hle))) (by rw [decL_encL]) (fun ρ' hle _ => by rw [hpl]; exact (j6_den (rL hle) hbl).1) (fun ρ' hle hG' => psh_den hG' (rL hle) (sL hle) hbl) (fun ρ' hle _ => by rw [decL_encL, hpl]; exact (j6_den (rL hle) hbl).1) (by rw [decL_encL, List.take_length]) (by rw [decL_encL]; exact Nat.le_refl _) ih)⟩
      · exact ⟨_, _, CRel_app.2 ⟨CRel_app.2 ⟨CRel_app.2 ⟨cIn, cK⟩, ze_ok s hN (decide_eq_false hk)⟩, hcs⟩, r1N, one (nextO1 (x4 := ρ.I 4) (x5' := ρ.I 5) s hi (by omega) s.s (Nat.le_of_eq hM) v3 (v2 4) s.i4 v6 (v2 5) v7 r.i5 r.le ih)⟩
  · exact ⟨_, _, CRel_app.2 ⟨wE_ok s hi, hcs⟩, r1E, one ret_ok⟩
theorem loopO0 {w0 : World} {v : Value} {n : Nat} {most : Int} : ∀ ρ, J0 v n most ρ → ∀ todo a w, todo = .inLoop b0 :: k0 ∨ todo = .code (.loop b0) :: k0 → SRel (βL w0) ρ (T0.st todo) a w → Goes Try.prog 4 (RT w0) todo a w := by
  refine loop_goesS (n := 4000) (Ts := TL) (pl := true) (g := gH) (β := βL w0) noCount noExt (sp02_ok w0) follows rfl (J0 v n most) (fun ρ => ((n : Int) - ρ.I 1).toNat) (fun ρ hJ hH hcs hG ih => ?_)
  obtain ⟨i, h, K, s, hp⟩ := hJ
  have hsl := s.s.len
  have hn2 := s.n2
  simp only [List.length_nil, Nat.zero_add] at hsl
  have hM : ((n : Int) - (i : Int)).toNat = ((n : Int) - ρ.I 1).toNat := by rw [s.i1]
  have sL : ∀ {ρ'}, ρ.Le ρ' → S02 v n most i h [] K ρ' := fun hle => s.of_le hle
  have v2 : ∀ k, ∀ ρ', ρ.Le ρ' → GL.at ρ' → (IT.var k).den ρ' = some (ρ.I k) := fun k ρ' hle _ => by rw [den_var, hle.i]
  have v3 : ∀ ρ', ρ.Le ρ' → GL.at ρ' → (IT.var 3).den ρ' = some (h : Int) := fun ρ' hle _ => by rw [den_var, (sL hle).i3]
  have go : ∀ {z : Int} {j' : Nat} ρ', JI0 v n most (((n : Int) - ρ.I 1).toNat) ρ' → ρ'.I 2 = (j' : Int) → ρ'.I 8 = z → ∀ a w, SRel (βL w0) ρ' (I0.st tdE) a w → Goes Try.prog 4 (RT w0) tdE a w := fun ρ' hJ' _ _ a w r' => loopI0 ih ρ' hJ' _ a w (.inr rfl) r'
  by_cases hi : i < n
  · have cIn := fIn_ok s hi
    obtain ⟨b, hb⟩ := kind_den s (k := 3) (by decide)
    have cK := fKind_ok hb
    cases b with
    | false =>
      by_cases hh : (h : Int) < most
      · obtain ⟨p1, p2, p3, p5⟩ := s.s.next hh
        have hd := h1_den s
        exact ⟨_, _, CRel_app.2 ⟨CRel_app.2 ⟨CRel_app.2 ⟨CRel_app.2 ⟨cIn, cK⟩, fHi_ok s (decide_eq_true hh)⟩, takeF_ok hd (by omega) (by omega)⟩, hcs⟩, r0A,
          one (nextI0 (h' := h + 1) (z := (h : Int) + 1) (j' := 1) (x4 := encL (usedL (K ++ [(h : Int) + 1]))) s p1 hi hM (by omega) (by omega) (by omega) (Nat.le_refl _) (by omega) p5 (fun ρ' hle _ => h1_den (sL hle)) (fun ρ' _ _ => rfl) (fun ρ' hle _ => h1_den (sL hle)) (fun ρ' hle _ => put_den (sL hle) (h1_den (sL hle)) p2) (by rw [decL_encL]) go)⟩
      · have hm : (K.length : Int) = most := by have := s.s.le; omega
        exact ⟨_, _, CRel_app.2 ⟨CRel_app.2 ⟨CRel_app.2 ⟨CRel_app.2 ⟨cIn, cK⟩, fHi_ok s (decide_eq_false hh)⟩, fLenE_ok s hm⟩, hcs⟩, r0B, one ret_ok⟩
    | true =>
      have hN := tN_den s
      by_cases hk : opN v i ∈ K
      · obtain ⟨p1, _⟩ := s.s.give hk
        have hpu : pushL [] (opN v i) = [opN v i] := by
          show upL [opN v i] 0 = _
          rw [upL, dif_pos rfl]
        rw [hpu] at p1
        have e5 : ∀ ρ', ρ.Le ρ' → GL.at ρ' → (IT.un 3 (.lit 0) tN).den ρ' = some (encL [opN v i]) := fun ρ' hle _ => by
          rw [un_den 3 (den_lit 0) (tN_den (sL hle))]
          simp [univ]
        exact ⟨_, _, CRel_app.2 ⟨CRel_app.2 ⟨CRel_app.2 ⟨cIn, cK⟩, ze_ok s hN (decide_eq_true hk)⟩, hcs⟩, r0H,
          one (nextO1 (N := ((n : Int) - ρ.I 1).toNat) (x4 := encL (usedL (K.erase (opN v i)))) (x5' := encL [opN v i]) s hi (by omega) p1 (Nat.le_of_eq hM) v3 (fun ρ' hle _ => del_den (sL hle) (tN_den (sL hle))) (by rw [decL_encL]) (fun ρ' _ _ => rfl) e5 (fun ρ' _ _ => by rw [decL_encL]; rfl) (by rw [decL_encL]; rfl) (by rw [decL_encL]; exact Nat.le_refl _) (fun ρ' _ hJ' todo a w ht r => loopO1 ρ' hJ' todo a w ht r))⟩
      · exact ⟨_, _, CRel_app.2 ⟨CRel_app.2 ⟨CRel_app.2 ⟨cIn, cK⟩, ze_ok s hN (decide_eq_false hk)⟩, hcs⟩, r0N, one (nextO0 (x4 := ρ.I 4) s hi (by omega) s.s (Nat.le_of_eq hM) v3 (v2 4) s.i4 ih)⟩
  · exact ⟨_, _, CRel_app.2 ⟨wE_ok s hi, hcs⟩, r0E, one ret_ok⟩
end Fi
end Go.Proofs.Ytlcjgmehccopkaa
