/-
  Least (2): container/heap's down, over the row of a stock: what it makes of it.
-/
import Derived.Test.YtlcjgmehccopkaaLe1
namespace Go.Proofs.Ytlcjgmehccopkaa
open Go.Vm Go.Vm.Le

def RD : Tpl := ⟨[(0, .bool (.var 0))], 1, H2, 3, [], 0⟩
noncomputable def db0 : Code := ((loopsOf (Try.f24.body.getD .ret) []).getD 0 (.ret, [])).1
noncomputable def dk0 : List Item := ((loopsOf (Try.f24.body.getD .ret) []).getD 0 (.ret, [])).2
def csDe : Cs := [(.cmp .leq (.var 2) (.lit 1000000), true), (.cmp .geq (.var 6) (.lit 0), true), (.cmp .lss (.lit 0) (.var 2), true), (.cmp .lss (.var 6) (.var 2), true), (.cmp .leq (.var 2) (.var 3), true)]
def D0 : Tpl := ⟨[(0, hA), (1, .int .i64 (.lit 0)), (2, vI 6), (6, .bool (.lit false)), (7, vI 5)], 48, H2, 3, csD, 3⟩
def fk (x : IT) : Cs := [(.cmp .geq x (.lit 0), true), (.cmp .lss x (.var 2), true), (.cmp .lss x (.var 3), true)]
def ltT (x y : IT) (b : Bool) : Cs := [(.cmp .lss (atT x) (atT y), b), (.not (.cmp .lss (atT x) (atT y)), !b)]
def fBs : Cs := [(.cmp .geq k1 (.var 6), false), (.cmp .lss k1 (.lit 0), false), (.cmp .lss (.var 5) (.var 3), true)] ++ fk k1
def wA : Cs := [(.cmp .geq k1 (.var 6), true)]
def wB (b : Bool) : Cs := fBs ++ [(.cmp .lss k2 (.var 6), false)] ++ ltT k1 (.var 5) b
def wC (b : Bool) : Cs := fBs ++ [(.cmp .lss k2 (.var 6), true)] ++ fk k2 ++ ltT k2 k1 true ++ ltT k2 (.var 5) b
def wD (b : Bool) : Cs := fBs ++ [(.cmp .lss k2 (.var 6), true)] ++ fk k2 ++ ltT k2 k1 false ++ ltT k1 (.var 5) b
def sgD : Sub := ⟨[(2, (.var 2)), (4, (.var 4)), (3, (.var 3))], [(0, (.cmp .gtr (.var 5) (.lit 0)))], [], [], [(0, 0), (1, 1), (2, 2)]⟩
def sgN (k : IT) : Sub := ⟨[(6, (.var 6)), (5, k), (2, (.var 2)), (4, swT (.var 5) (atT k) k (atT (.var 5))), (3, (.var 3))], [], [], [], [(0, 0), (1, 1), (2, 2)]⟩
noncomputable def RunD (c : Cs) (s : LM) : Prop := (run Try.prog [] noSp 4000 true 24 ((⟨D0.tm, D0.nt, D0.H, D0.nl, c ++ csD, D0.dep⟩ : Tpl).st (.code db0 :: .inLoop db0 :: dk0))).map (·.filterMap (sumMO gL [0, 1, 2] [RD] [D0])) = some [s]
theorem rdA : RunD wA (.done 0 (wA ++ csD) sgD) := by unfold RunD; kernel_rfl
theorem rdB0 : RunD (wB false) (.done 0 (wB false ++ csD) sgD) := by unfold RunD; kernel_rfl
theorem rdB1 : RunD (wB true) (.next 0 (.inLoop db0 :: dk0) (wB true ++ csD) (sgN k1)) := by unfold RunD; kernel_rfl
theorem rdC0 : RunD (wC false) (.done 0 (wC false ++ csD) sgD) := by unfold RunD; kernel_rfl
theorem rdC1 : RunD (wC true) (.next 0 (.inLoop db0 :: dk0) (wC true ++ csD) (sgN k2)) := by unfold RunD; kernel_rfl
theorem rdD0 : RunD (wD false) (.done 0 (wD false ++ csD) sgD) := by unfold RunD; kernel_rfl
theorem rdD1 : RunD (wD true) (.next 0 (.inLoop db0 :: dk0) (wD true ++ csD) (sgN k1)) := by unfold RunD; kernel_rfl
theorem run_de : (run Try.prog [] noSp 4000 true 24 (entry Try.f24 (Try.f24.body.getD .ret) [hA, .int .i64 (.lit 0), vI 6] (ofP H2) 3 csDe)).map (·.filterMap (sumMO gL [0, 1, 2] [RD] [D0])) = some [.next 0 (.code (.loop db0) :: dk0) csDe ⟨[(6, (.var 6)), (5, (.lit 0)), (2, (.var 2)), (4, (.var 4)), (3, (.var 3))], [], [], [], [(0, 0), (1, 1), (2, 2)]⟩] := by kernel_rfl

def JD (n m b1 cap : Nat) (L : List Int) : Env → Prop := fun ρ => ρ.I 2 = n ∧ ρ.I 3 = L.length ∧ n ≤ L.length ∧ n ≤ 1000000 ∧ ρ.I 6 = m ∧ m < n ∧ ρ.N 1 = some b1 ∧ ρ.N 2 = some cap ∧ ∃ j : Nat, ρ.I 5 = j ∧ j < n ∧ (decL (ρ.I 4)).length = L.length ∧ downL (decL (ρ.I 4)) j m = L
def DnR (b1 cap : Nat) (L : List Int) (w : World) : Value → World → Prop := fun v w' => (∃ b, v = .bool b) ∧ RStep b1 cap L w w'
theorem ret_bool {β : Base} {ρ : Env} {w' : World} {x : Value} (r : SRel β ρ (RD.st []) ⟨#[x], []⟩ w') : ∃ b, x = .bool b := by
  obtain ⟨y, hy, hg⟩ := r.t 0 (.bool (.var 0)) rfl
  cases hy
  have : some x = some (Value.bool (ρ.B 0)) := hg
  exact ⟨_, Option.some.inj this⟩
theorem kid_2 {l : List Int} {i m : Nat} (h1 : 2 * i + 2 < m) (h2 : at0 l (2 * i + 2) < at0 l (2 * i + 1)) : kid l i m = 2 * i + 2 := if_pos ⟨h1, h2⟩
theorem kid_1 {l : List Int} {i m : Nat} (h : m ≤ 2 * i + 2 ∨ at0 l (2 * i + 1) ≤ at0 l (2 * i + 2)) : kid l i m = 2 * i + 1 := if_neg (by omega)
theorem down_end {l : List Int} {i m : Nat} (h : m ≤ 2 * i + 1) : downL l i m = l := by rw [downL, dif_pos h]
theorem down_stay {l : List Int} {i m k : Nat} (hk : kid l i m = k) (h : at0 l i ≤ at0 l k) : downL l i m = l := by
  rw [downL]
  split
  · rfl
  · rw [hk, if_neg (by omega)]
theorem down_go {l : List Int} {i m k : Nat} (h0 : 2 * i + 1 < m) (hk : kid l i m = k) (h : at0 l k < at0 l i) : downL l i m = downL (swapL l i k) k m := by
  conv => lhs; rw [downL]
  rw [dif_neg (by omega), hk, if_pos h]

section
variable {ρ : Env} {n m j : Nat} {L : List Int}
/-- What the terms are worth. -/
structure DenD (ρ : Env) (n m j : Nat) (L : List Int) : Prop where
  k1 : k1.den ρ = some ((2 * j + 1 : Nat) : Int)
  k2 : k2.den ρ = some ((2 * j + 2 : Nat) : Int)
  d5 : (IT.var 5).den ρ = some (j : Int)
  d2 : (IT.var 2).den ρ = some (n : Int)
  d3 : (IT.var 3).den ρ = some (L.length : Int)
  d6 : (IT.var 6).den ρ = some (m : Int)
theorem fk_ok (d : DenD ρ n m j L) {x : IT} {k : Nat} (hx : x.den ρ = some (k : Int)) (h1 : k < n) (h2 : k < L.length) : CRel ρ (fk x) := by
  simp only [fk, CRel_cons, CRel_nil, and_true, BT.den, hx, d.d2, d.d3, den_lit, intCmp, Option.some.injEq, decide_eq_true_eq]
  omega
theorem ltT_ok {x y : IT} {k i : Nat} (hx : x.den ρ = some (k : Int)) (hy : y.den ρ = some (i : Int)) : CRel ρ (ltT x y (decide (at0 (decL (ρ.I 4)) k < at0 (decL (ρ.I 4)) i))) := by
  simp only [ltT, CRel_cons, CRel_nil, and_true, BT.den, at_den hx, at_den hy, intCmp, Option.map_some]
theorem fBs_ok (d : DenD ρ n m j L) (h1 : 2 * j + 1 < m) (h2 : m < n) (h3 : n ≤ L.length) : CRel ρ fBs := by
  refine CRel_app.2 ⟨?_, fk_ok d d.k1 (by omega) (by omega)⟩
  simp only [CRel_cons, CRel_nil, and_true, BT.den, d.k1, d.d6, d.d5, d.d3, den_lit, intCmp, Option.some.injEq, decide_eq_true_eq, decide_eq_false_iff_not]
  omega
theorem lt6_ok (d : DenD ρ n m j L) {b : Bool} (h : decide (2 * j + 2 < m) = b) : CRel ρ [(.cmp .lss k2 (.var 6), b)] := by
  simp only [CRel_cons, CRel_nil, and_true, BT.den, d.k2, d.d6, intCmp, Option.some.injEq]
  rw [← h]
  exact decide_eq_decide.2 (by omega)
end
section
variable {w0 : World} {n m b1 cap : Nat} {L : List Int} {ρ : Env} {j : Nat}
theorem leaf_same (j5 : ρ.N 1 = some b1) (j6 : ρ.N 2 = some cap) (hd : decL (ρ.I 4) = L) (cs : Cs) : MGoodO Try.prog ⟨w0, [1], G0⟩ 24 (DnR b1 cap L w0) [RD] [D0] ρ (.done 0 cs sgD) := by
  refine ⟨fun l hl => by rw [List.mem_singleton.1 hl]; rfl, fun ρ' hle _ T hT hG' => ?_⟩
  have hT : RD = T := by simpa using hT
  subst hT
  refine ⟨trivial, CRel_nil.2 trivial, fun x w' r => ⟨ret_bool r, row_end r.h rfl (hle.n _ _ j5) (hle.n _ _ j6) ?_⟩⟩
  show decL (ρ'.I 4) = L
  rw [hle.i, hd]
theorem leaf_next (d : DenD ρ n m j L) (j3 : n ≤ L.length) (j4 : n ≤ 1000000) (jm2 : m < n) (j5 : ρ.N 1 = some b1) (j6 : ρ.N 2 = some cap) (j9 : (decL (ρ.I 4)).length = L.length) (j10 : downL (decL (ρ.I 4)) j m = L) {kT : IT} {k : Nat} (hk : ∀ ρ', ρ.Le ρ' → kT.den ρ' = some (k : Int))
    (hkid : kid (decL (ρ.I 4)) j m = k) (hjk : j < k) (hkm : k < m) (hlt : at0 (decL (ρ.I 4)) k < at0 (decL (ρ.I 4)) j) (h2 : 2 * j + 1 < m) (cs : Cs)
    (ih : ∀ ρ', n - (ρ'.I 5).toNat < n - (ρ.I 5).toNat → JD n m b1 cap L ρ' → ∀ todo a w, todo = .inLoop db0 :: dk0 ∨ todo = .code (.loop db0) :: dk0 → SRel ⟨w0, [1], G0⟩ ρ' (D0.st todo) a w → Goes Try.prog 24 (DnR b1 cap L w0) todo a w) :
    MGoodO Try.prog ⟨w0, [1], G0⟩ 24 (DnR b1 cap L w0) [RD] [D0] ρ (.next 0 (.inLoop db0 :: dk0) cs (sgN kT)) := by
  refine ⟨fun l hl => by rw [List.mem_singleton.1 hl]; rfl, fun ρ' hle _ T hT hG' => ?_⟩
  have hT : D0 = T := by simpa using hT
  subst hT
  have e0 : ρ'.I = ρ.I := hle.i
  have d5 : (IT.var 5).den ρ' = some (j : Int) := by rw [den_var, e0]; exact d.d5
  have d2 : (IT.var 2).den ρ' = some (n : Int) := by rw [den_var, e0]; exact d.d2
  have d3 : (IT.var 3).den ρ' = some (L.length : Int) := by rw [den_var, e0]; exact d.d3
  have d6 : (IT.var 6).den ρ' = some (m : Int) := by rw [den_var, e0]; exact d.d6
  have hw := sw_den d5 (hk ρ' hle)
  rw [e0] at hw
  have I5 : ((sgN kT).app ρ').I 5 = (k : Int) := by show (kT.den ρ').getD 0 = _; rw [hk ρ' hle]; rfl
  have I2 : ((sgN kT).app ρ').I 2 = (n : Int) := by show ((IT.var 2).den ρ').getD 0 = _; rw [d2]; rfl
  have I3 : ((sgN kT).app ρ').I 3 = (L.length : Int) := by show ((IT.var 3).den ρ').getD 0 = _; rw [d3]; rfl
  have I6 : ((sgN kT).app ρ').I 6 = (m : Int) := by show ((IT.var 6).den ρ').getD 0 = _; rw [d6]; rfl
  have I4 : ((sgN kT).app ρ').I 4 = encL (swapL (decL (ρ.I 4)) j k) := by show ((swT (.var 5) (atT kT) kT (atT (.var 5))).den ρ').getD 0 = _; rw [hw]; rfl
  have hj : ρ.I 5 = (j : Int) := Option.some.inj d.d5
  refine ⟨trivial, ?_, fun a w r => ih _ ?_ ⟨I2, I3, j3, j4, I6, jm2, hle.n _ _ j5, hle.n _ _ j6, k, I5, by omega, by rw [I4, decL_encL, swapL_length, j9], by rw [I4, decL_encL, ← j10, down_go h2 hkid hlt]⟩ _ a w (.inl rfl) r⟩
  · simp only [D0, csD, CRel_cons, CRel_nil, and_true, BT.den, den_lit, den_var, intCmp, I2, I3, I5, I6, Option.some.injEq, decide_eq_true_eq]
    omega
  · rw [I5, hj]; omega
end
theorem loop_d {w0 : World} {n m b1 cap : Nat} {L : List Int} : ∀ ρ, JD n m b1 cap L ρ → ∀ todo a w, todo = .inLoop db0 :: dk0 ∨ todo = .code (.loop db0) :: dk0 → SRel ⟨w0, [1], G0⟩ ρ (D0.st todo) a w → Goes Try.prog 24 (DnR b1 cap L w0) todo a w := by
  refine loop_goesW (n := 4000) (Ts := [D0]) (Rs := [RD]) (pl := true) (L := [0, 1, 2]) (g := gL) (β := ⟨w0, [1], G0⟩) noCount noExt noSp_ok follows (JD n m b1 cap L) (fun ρ => n - (ρ.I 5).toNat) (fun ρ hJ hcs hG ih => ?_)
  obtain ⟨j1, j2, j3, j4, jm, jm2, j5, j6, j, j7, j8, j9, j10⟩ := hJ
  have d : DenD ρ n m j L := ⟨k1_den j7 (by omega), k2_den j7 (by omega), by rw [den_var, j7], by rw [den_var, j1], by rw [den_var, j2], by rw [den_var, jm]⟩
  have hk1 : ∀ ρ', ρ.Le ρ' → k1.den ρ' = some ((2 * j + 1 : Nat) : Int) := fun ρ' hle => k1_den (by rw [hle.i]; exact j7) (by omega)
  have hk2 : ∀ ρ', ρ.Le ρ' → k2.den ρ' = some ((2 * j + 2 : Nat) : Int) := fun ρ' hle => k2_den (by rw [hle.i]; exact j7) (by omega)
  have one : ∀ {s : LM} {Q : LM → Prop}, Q s → ∀ x ∈ [s], Q x := fun h x hx => by rw [List.mem_singleton.1 hx]; exact h
  by_cases c1 : m ≤ 2 * j + 1
  · refine ⟨_, _, CRel_app.2 ⟨?_, hcs⟩, rdA, one (leaf_same j5 j6 (by rw [← j10, down_end c1]) _)⟩
    simp only [wA, CRel_cons, CRel_nil, and_true, BT.den, d.k1, d.d6, intCmp, Option.some.injEq, decide_eq_true_eq]
    omega
  · have hb := fBs_ok d (by omega) jm2 j3
    by_cases c2 : 2 * j + 2 < m
    · have h6 := lt6_ok d (b := true) (by simpa using c2)
      have hf2 := fk_ok d d.k2 (by omega) (by omega)
      have hkk := ltT_ok d.k2 d.k1
      by_cases c3 : at0 (decL (ρ.I 4)) (2 * j + 2) < at0 (decL (ρ.I 4)) (2 * j + 1)
      · rw [decide_eq_true c3] at hkk
        have h5 := ltT_ok d.k2 d.d5
        by_cases c4 : at0 (decL (ρ.I 4)) (2 * j + 2) < at0 (decL (ρ.I 4)) j
        · rw [decide_eq_true c4] at h5
          exact ⟨_, _, CRel_app.2 ⟨CRel_app.2 ⟨CRel_app.2 ⟨CRel_app.2 ⟨CRel_app.2 ⟨hb, h6⟩, hf2⟩, hkk⟩, h5⟩, hcs⟩, rdC1, one (leaf_next d j3 j4 jm2 j5 j6 j9 j10 hk2 (kid_2 c2 c3) (by omega) (by omega) c4 (by omega) _ ih)⟩
        · rw [decide_eq_false c4] at h5
          exact ⟨_, _, CRel_app.2 ⟨CRel_app.2 ⟨CRel_app.2 ⟨CRel_app.2 ⟨CRel_app.2 ⟨hb, h6⟩, hf2⟩, hkk⟩, h5⟩, hcs⟩, rdC0, one (leaf_same j5 j6 (by rw [← j10, down_stay (kid_2 c2 c3) (by omega)]) _)⟩
      · rw [decide_eq_false c3] at hkk
        have h5 := ltT_ok d.k1 d.d5
        by_cases c4 : at0 (decL (ρ.I 4)) (2 * j + 1) < at0 (decL (ρ.I 4)) j
        · rw [decide_eq_true c4] at h5
          exact ⟨_, _, CRel_app.2 ⟨CRel_app.2 ⟨CRel_app.2 ⟨CRel_app.2 ⟨CRel_app.2 ⟨hb, h6⟩, hf2⟩, hkk⟩, h5⟩, hcs⟩, rdD1, one (leaf_next d j3 j4 jm2 j5 j6 j9 j10 hk1 (kid_1 (by omega)) (by omega) (by omega) c4 (by omega) _ ih)⟩
        · rw [decide_eq_false c4] at h5
          exact ⟨_, _, CRel_app.2 ⟨CRel_app.2 ⟨CRel_app.2 ⟨CRel_app.2 ⟨CRel_app.2 ⟨hb, h6⟩, hf2⟩, hkk⟩, h5⟩, hcs⟩, rdD0, one (leaf_same j5 j6 (by rw [← j10, down_stay (kid_1 (by omega)) (by omega)]) _)⟩
    · have h6 := lt6_ok d (b := false) (by simpa using c2)
      have h5 := ltT_ok d.k1 d.d5
      by_cases c4 : at0 (decL (ρ.I 4)) (2 * j + 1) < at0 (decL (ρ.I 4)) j
      · rw [decide_eq_true c4] at h5
        exact ⟨_, _, CRel_app.2 ⟨CRel_app.2 ⟨CRel_app.2 ⟨hb, h6⟩, h5⟩, hcs⟩, rdB1, one (leaf_next d j3 j4 jm2 j5 j6 j9 j10 hk1 (kid_1 (by omega)) (by omega) (by omega) c4 (by omega) _ ih)⟩
      · rw [decide_eq_false c4] at h5
        exact ⟨_, _, CRel_app.2 ⟨CRel_app.2 ⟨CRel_app.2 ⟨hb, h6⟩, h5⟩, hcs⟩, rdB0, one (leaf_same j5 j6 (by rw [← j10, down_stay (kid_1 (by omega)) (by omega)]) _)⟩
end Go.Proofs.Ytlcjgmehccopkaa
