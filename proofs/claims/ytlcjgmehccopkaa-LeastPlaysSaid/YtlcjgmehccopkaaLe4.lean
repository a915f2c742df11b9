/-
  Least (4): a stock's numbers as terms; the ways that a round goes.
-/
import Derived.Test.YtlcjgmehccopkaaLe3
namespace Go.Proofs.Ytlcjgmehccopkaa
open Go.Vm Go.Vm.Le

-- MORE OF LISTS
theorem at0_app {X Y : List Int} {k : Nat} (h : k < X.length) : at0 (X ++ Y) k = at0 X k := by
  unfold at0
  rw [List.getD_eq_getElem?_getD, List.getD_eq_getElem?_getD, List.getElem?_append_left h]
theorem swap_app {X Y : List Int} {i j : Nat} (hi : i < X.length) (hj : j < X.length) : swapL (X ++ Y) i j = swapL X i j ++ Y := by
  unfold swapL
  rw [at0_app hi, at0_app hj, List.set_append_left _ _ hi, List.set_append_left _ _ (by simpa using hj)]
theorem down_app : ∀ (d i n : Nat) (X Y : List Int), n - i ≤ d → n ≤ X.length → downL (X ++ Y) i n = downL X i n ++ Y := by
  intro d
  induction d with
  | zero =>
    intro i n X Y hd hn
    rw [down_end (by omega), down_end (by omega)]
  | succ d ih =>
    intro i n X Y hd hn
    by_cases h0 : n ≤ 2 * i + 1
    · rw [down_end h0, down_end h0]
    · have hk : kid (X ++ Y) i n = kid X i n := by
        unfold kid
        by_cases h2 : 2 * i + 2 < n
        · rw [at0_app (by omega), at0_app (by omega)]
        · rw [if_neg (fun e => h2 e.1), if_neg (fun e => h2 e.1)]
      have hor := kid_or X i n
      have hkl : kid X i n < X.length := by omega
      have e1 : at0 (X ++ Y) (kid X i n) = at0 X (kid X i n) := at0_app hkl
      have e2 : at0 (X ++ Y) i = at0 X i := at0_app (by omega)
      by_cases hlt : at0 X (kid X i n) < at0 X i
      · rw [down_go (by omega) hk (by rw [e1, e2]; exact hlt), down_go (l := X) (by omega) rfl hlt, swap_app (by omega) hkl, ih _ _ _ _ (by omega) (by rw [swapL_length]; exact hn)]
      · rw [down_stay hk (by rw [e1, e2]; omega), down_stay (l := X) rfl (by omega)]

-- TERMS
def tK (k : Nat) : IT := .bin .rem .u64 (.cv .u64 (.sel 0 3 0 (.var 1))) (.lit (.ofNat k))
def tN : IT := .sel 0 3 2 (.var 1)
def h1 : IT := .bin .add .i64 (.var 3) (.lit 1)
def us (c x : IT) : BT := .cmp .gtr (.un 5 c x) (.lit 0)
def put (c x : IT) : IT := .un 7 c (.un 1 x (.lit 1))
def bn (t : BT) (b : Bool) : Cs := [(t, b), (.not t, !b)]
def ze (c x : IT) (b : Bool) : Cs := (.cmp .eql (.un 5 c x) (.lit 0), !b) :: bn (us c x) b ++ [(.not (.not (us c x)), b)]
def fKind (k : Nat) (b : Bool) : Cs := [(.cmp .eql (tK k) (.lit 0), b)]
def fTake (x : IT) : Cs := [(.cmp .eql x (.lit 0), false), (.cmp .lss x (.lit 1), false), (.cmp .gtr x (.var 0), false)] ++ bn (us (put (.var 4) x) x) true
def fIn : Cs := [(.cmp .lss (.var 1) (.var 10), true)]
def fHi (b : Bool) : Cs := [(.cmp .lss (.var 3) (.var 0), b)]
def f6 (b : Bool) : Cs := [(.cmp .gtr (.var 6) (.lit 0), b)]
def n6 : IT := .bin .sub .i64 (.var 6) (.lit 1)
def a5 (c x : IT) : IT := .un 0 c (.elem (.lit 0) 1 0 x)
def sw5 (x y : IT) : IT := .un 2 (.un 2 (.var 5) (.un 1 (.elem (.lit 0) 1 0 x) (a5 (.var 5) y))) (.un 1 (.elem (.lit 0) 1 0 y) (a5 (.var 5) x))
def dn5 : IT := .fn 71 (sw5 (.lit 0) n6) n6
def x5 : IT := a5 dn5 n6
def fP : Cs := [(.cmp .geq n6 (.lit 0), true), (.cmp .lss n6 (.var 6), true), (.cmp .lss n6 (.var 7), true), (.cmp .lss (.lit 0) (.var 6), true), (.cmp .lss (.lit 0) (.var 7), true), (.cmp .leq n6 (.var 6), true), (.cmp .leq n6 (.nv 4), true), (.cmp .geq (.lit 0) (.lit 0), true), (.cmp .leq (.lit 0) n6, true), (.cmp .leq (.var 6) (.lit 1000000), true)]
def h6 : IT := .bin .add .i64 (.var 6) (.lit 1)
def j6 : IT := .bin .sub .i64 h6 (.lit 1)
def fQ : Cs := [(.cmp .geq j6 (.lit 0), true), (.cmp .lss j6 h6, true), (.cmp .leq h6 (.lit 1000000), true), (.cmp .leq (.var 6) (.lit 1000000), true)]
def psh (r : IT) (j : IT) : IT := .fn 70 (.un 3 r tN) j

/-- What an operation's number is. -/
def opN (v : Value) (i : Nat) : Int := selI v (i * 3 + 2)
/-- The stock at the head of a round: the numbers given back, those in use. -/
structure S02 (v : Value) (n : Nat) (most : Int) (i h : Nat) (B K : List Int) (ρ : Env) : Prop where
  i0 : ρ.I 0 = most
  i1 : ρ.I 1 = i
  i3 : ρ.I 3 = h
  i4 : decL (ρ.I 4) = usedL K
  i10 : ρ.I 10 = n
  hv : ρ.V 0 = v
  le : i ≤ n
  n2 : n ≤ 200
  m0 : 0 ≤ most
  m : most ≤ 65535
  s : Stk most h B K
structure R02 (B : List Int) (ρ : Env) : Prop where
  i6 : ρ.I 6 = B.length
  i7 : ρ.I 7 = (decL (ρ.I 5)).length
  le : B.length ≤ (decL (ρ.I 5)).length
  i5 : (decL (ρ.I 5)).take B.length = B
def GL : GP := fun _ _ _ _ F => F 70 = upC ∧ F 71 = downC
section
variable {v : Value} {n : Nat} {most : Int} {i h : Nat} {B K : List Int} {ρ : Env}
theorem un_den {a b : IT} {x y : Int} (k : Nat) (ha : a.den ρ = some x) (hb : b.den ρ = some y) : (IT.un k a b).den ρ = some (univ k x y) := by simp only [IT.den, ha, hb]
theorem S02.of_le (s : S02 v n most i h B K ρ) {ρ' : Env} (hle : ρ.Le ρ') : S02 v n most i h B K ρ' :=
  ⟨by rw [hle.i]; exact s.i0, by rw [hle.i]; exact s.i1, by rw [hle.i]; exact s.i3, by rw [hle.i]; exact s.i4, by rw [hle.i]; exact s.i10, by rw [hle.v]; exact s.hv, s.le, s.n2, s.m0, s.m, s.s⟩
theorem R02.of_le (r : R02 B ρ) {ρ' : Env} (hle : ρ.Le ρ') : R02 B ρ' :=
  ⟨by rw [hle.i]; exact r.i6, by rw [hle.i]; exact r.i7, by rw [hle.i]; exact r.le, by rw [hle.i]; exact r.i5⟩
theorem S02.hn (s : S02 v n most i h B K ρ) : h ≤ 65535 := by have := s.s.le; have := s.m; omega
theorem S02.bl (s : S02 v n most i h B K ρ) : B.length ≤ 65535 := by have := s.s.len; have := s.hn; omega
theorem S02.nodup (s : S02 v n most i h B K ρ) : K.Nodup := by
  have := s.s.nodup
  rw [List.nodup_append] at this
  exact this.2.1
theorem tN_den (s : S02 v n most i h B K ρ) : tN.den ρ = some (opN v i) := by
  simp only [tN, IT.den, s.i1, s.hv, Option.map_some, Int.toNat_natCast, opN]
theorem kind_den (s : S02 v n most i h B K ρ) {k : Nat} (hk : k ≠ 0) : ∃ b, (BT.cmp .eql (tK k) (.lit 0)).den ρ = some b := by
  have hne : ¬ Int.ofNat k = 0 := by
    intro e
    have e9 : Int.ofNat k = (k : Int) := rfl
    omega
  simp only [tK, BT.den, IT.den, s.i1, Option.map_some, intBin, if_neg hne, intCmp]
  exact ⟨_, rfl⟩
theorem us_den (s : S02 v n most i h B K ρ) {x : IT} {z : Int} (hx : x.den ρ = some z) : (us (.var 4) x).den ρ = some (decide (z ∈ K)) := by
  simp only [us, BT.den, IT.den, hx, univ, s.i4, used_get, intCmp]
  by_cases hz : z ∈ K <;> simp [hz]
theorem ze_ok (s : S02 v n most i h B K ρ) {x : IT} {z : Int} (hx : x.den ρ = some z) {b : Bool} (hb : decide (z ∈ K) = b) : CRel ρ (ze (.var 4) x b) := by
  have h1 := us_den s hx
  rw [hb] at h1
  have h2 : (BT.cmp .eql (.un 5 (.var 4) x) (.lit 0)).den ρ = some (!b) := by
    simp only [BT.den, IT.den, hx, univ, s.i4, used_get, intCmp]
    rw [← hb]
    by_cases hz : z ∈ K <;> simp [hz]
  simp only [ze, bn, List.cons_append, List.nil_append, CRel_cons, CRel_nil, and_true, h1, h2, BT.den.eq_4, Option.map_some, Bool.not_not]
theorem put_den (s : S02 v n most i h B K ρ) {x : IT} {z : Int} (hx : x.den ρ = some z) (hz : z ∉ K) : (put (.var 4) x).den ρ = some (encL (usedL (K ++ [z]))) := by
  simp only [put, IT.den, hx, univ, s.i4, decL_encL, List.getD_cons_zero, List.getD_cons_succ, used_put hz]
theorem take_ok (s : S02 v n most i h B K ρ) {x : IT} {z : Int} (hx : x.den ρ = some z) (hz : z ∉ K) (h1 : 1 ≤ z) (h2 : z ≤ most) : CRel ρ (fTake x) := by
  have hp := put_den s hx hz
  have hu : (us (put (.var 4) x) x).den ρ = some true := by
    simp only [us, BT.den, IT.den.eq_13, hp, hx, univ, decL_encL, used_get, den_lit, intCmp]
    simp
  simp only [fTake, bn, List.cons_append, List.nil_append, CRel_cons, CRel_nil, and_true, hu, BT.den, hx, den_lit, den_var, s.i0, intCmp, Option.map_some, Option.some.injEq, decide_eq_true_eq, decide_eq_false_iff_not, beq_eq_false_iff_ne, ne_eq]
  omega
theorem del_den (s : S02 v n most i h B K ρ) {x : IT} {z : Int} (hx : x.den ρ = some z) : (IT.un 8 (.var 4) x).den ρ = some (encL (usedL (K.erase z))) := by
  simp only [IT.den, hx, univ, s.i4, used_del]
theorem usdel_ok (s : S02 v n most i h B K ρ) {x : IT} {z : Int} (hx : x.den ρ = some z) : CRel ρ (bn (us (.un 8 (.var 4) x) x) false) := by
  have hd := del_den s hx
  have hu : (us (.un 8 (.var 4) x) x).den ρ = some false := by
    have hn : z ∉ K.erase z := s.nodup.not_mem_erase
    have e5 := un_den 5 hd hx
    rw [show univ 5 (encL (usedL (K.erase z))) z = 0 by simp only [univ, decL_encL, used_get, if_neg hn]; rfl] at e5
    simp only [us, BT.den, e5, den_lit, intCmp]; rfl
  simp only [bn, CRel_cons, CRel_nil, and_true, hu, BT.den.eq_4, Option.map_some, Bool.not_false]
theorem len_den {c : IT} {x : Int} {L : List Int} (hc : c.den ρ = some x) (hx : decL x = usedL L) : (IT.un 9 c (.lit 0)).den ρ = some (L.length : Int) := by
  simp only [IT.den, hc, univ, hx, used_len]
theorem h1_den (s : S02 v n most i h B K ρ) : h1.den ρ = some ((h : Int) + 1) := by
  have := s.hn
  simp only [h1, IT.den, intBin, s.i3]
  rw [wrap_ok (by omega) (by omega)]
theorem fIn_ok (s : S02 v n most i h B K ρ) (hi : i < n) : CRel ρ fIn := by
  simp only [fIn, CRel_cons, CRel_nil, and_true, BT.den, den_var, s.i1, s.i10, intCmp, Option.some.injEq, decide_eq_true_eq]
  omega
theorem fHi_ok (s : S02 v n most i h B K ρ) {b : Bool} (hb : decide ((h : Int) < most) = b) : CRel ρ (fHi b) := by
  simp only [fHi, CRel_cons, CRel_nil, and_true, BT.den, den_var, s.i3, s.i0, intCmp, Option.some.injEq]
  exact hb
theorem f6_ok (r : R02 B ρ) {b : Bool} (hb : decide (0 < B.length) = b) : CRel ρ (f6 b) := by
  simp only [f6, CRel_cons, CRel_nil, and_true, BT.den, den_var, den_lit, r.i6, intCmp, Option.some.injEq]
  rw [← hb]
  exact decide_eq_decide.2 (by omega)
/-- What room there is. -/
theorem room_ok {β : Base} {H : Heap} {nl : Nat} {w : World} (hh : HRel β ρ H nl w) {l q : Nat} {t : AT} {an c : IT} (hl : H.get l = some ⟨.arr t [.i64] 3 an (.lit 0) (some (.nv q)), true⟩) (ht : t.codeT = some c) :
    ∃ cap x, ρ.N q = some cap ∧ c.den ρ = some x ∧ (decL x).length ≤ cap := by
  obtain ⟨b1, ob1, _, _, hrel⟩ := hh.blk l _ hl
  obtain ⟨x, cap, hx, _, hN, ca, fr, _, hp, hs, _⟩ := row_rel hrel ht
  refine ⟨cap, x, hN, hx, ?_⟩
  have h2 : (rowOf [.i64] (decL x)).length ≤ ca.toList.length := hp.length_le
  have h3 : ca.toList.length = ca.size := Array.length_toList
  rw [rowOf_length] at h2
  omega
theorem n6_den (r : R02 B ρ) (h0 : 0 < B.length) (hb : B.length ≤ 65535) : n6.den ρ = some ((B.length - 1 : Nat) : Int) := by
  simp only [n6, IT.den, intBin, r.i6]
  rw [wrap_ok (by omega) (by omega)]
  congr 1; omega
theorem fP_ok (r : R02 B ρ) (h0 : 0 < B.length) (hb : B.length ≤ 65535) {cap : Nat} (hN : ρ.N 4 = some cap) (hc : (decL (ρ.I 5)).length ≤ cap) : CRel ρ fP := by
  have e := n6_den r h0 hb
  have hl := r.le
  have eN : (IT.nv 4).den ρ = some (cap : Int) := by simp only [IT.den, hN]; rfl
  simp only [fP, CRel_cons, CRel_nil, and_true, BT.den, e, eN, den_var, den_lit, r.i6, r.i7, intCmp, Option.some.injEq, decide_eq_true_eq]
  omega
theorem sw5_den (r : R02 B ρ) (h0 : 0 < B.length) (hb : B.length ≤ 65535) : (sw5 (.lit 0) n6).den ρ = some (encL (swapL (decL (ρ.I 5)) 0 (B.length - 1))) := by
  have e := n6_den r h0 hb
  simp only [sw5, a5, IT.den.eq_13, IT.den.eq_11, IT.den.eq_1, IT.den.eq_2, e, univ, decL_encL, Int.toNat_natCast, List.getD_cons_zero, List.getD_cons_succ, swapL]
  simp [at0]
theorem dn5_den (hG : GL.at ρ) (r : R02 B ρ) (h0 : 0 < B.length) (hb : B.length ≤ 65535) : dn5.den ρ = some (encL (popD B ++ (decL (ρ.I 5)).drop B.length)) := by
  have e := n6_den r h0 hb
  have e2 := sw5_den r h0 hb
  have hg : ρ.F 71 = downC := hG.2
  have hR : decL (ρ.I 5) = B ++ (decL (ρ.I 5)).drop B.length := by
    conv => lhs; rw [← List.take_append_drop B.length (decL (ρ.I 5)), r.i5]
  have hd : downC (encL (swapL (decL (ρ.I 5)) 0 (B.length - 1))) ((B.length - 1 : Nat) : Int) = encL (popD B ++ (decL (ρ.I 5)).drop B.length) := by
    unfold downC
    rw [decL_encL, Int.toNat_natCast]
    conv => lhs; rw [hR]
    rw [swap_app h0 (by omega), down_app _ 0 _ _ _ (Nat.le_refl _) (by rw [swapL_length]; omega)]
    rfl
  simp only [dn5, IT.den.eq_12, e, e2, hg, hd]
theorem x5_den (hG : GL.at ρ) (r : R02 B ρ) (s : S02 v n most i h B K ρ) (h0 : 0 < B.length) (hb : B.length ≤ 65535) : x5.den ρ = some (at0 B 0) := by
  have e := n6_den r h0 hb
  have e2 := dn5_den hG r h0 hb
  obtain ⟨p1, p2, _⟩ := pop_ok s.s.heap h0
  simp only [x5, a5, IT.den.eq_13, IT.den.eq_11, IT.den.eq_1, e, e2, univ, decL_encL, Int.toNat_natCast]
  have e3 : (Int.ofNat ((0 : Int).toNat + ((B.length - 1) * 1 + 0))).toNat = B.length - 1 := by simp
  rw [e3, ← p2]
  congr 1
  have := at0_app (X := popD B) (Y := (decL (ρ.I 5)).drop B.length) (k := B.length - 1) (by omega)
  exact this
theorem j6_den (r : R02 B ρ) (hb : B.length ≤ 65535) : h6.den ρ = some ((B.length + 1 : Nat) : Int) ∧ j6.den ρ = some (B.length : Int) := by
  have e1 : h6.den ρ = some ((B.length + 1 : Nat) : Int) := by
    simp only [h6, IT.den, intBin, r.i6]
    rw [wrap_ok (by omega) (by omega)]
    congr 1
  refine ⟨e1, ?_⟩
  simp only [j6, IT.den.eq_4, e1, den_lit, intBin]
  rw [wrap_ok (by omega) (by omega)]
  congr 1; omega
theorem fQ_ok (r : R02 B ρ) (hb : B.length ≤ 65535) : CRel ρ fQ := by
  obtain ⟨e1, e2⟩ := j6_den r hb
  simp only [fQ, CRel_cons, CRel_nil, and_true, BT.den, e1, e2, den_var, den_lit, r.i6, intCmp, Option.some.injEq, decide_eq_true_eq]
  omega
theorem psh_den (hG : GL.at ρ) (r : R02 B ρ) (s : S02 v n most i h B K ρ) (hb : B.length ≤ 65535) : (psh (.un 10 (.var 5) (.var 6)) j6).den ρ = some (encL (pushL B (opN v i))) := by
  obtain ⟨_, e2⟩ := j6_den r hb
  have hg : ρ.F 70 = upC := hG.1
  have e3 : (IT.un 3 (.un 10 (.var 5) (.var 6)) tN).den ρ = some (encL (B ++ [opN v i])) := by
    simp only [IT.den.eq_13, den_var, tN_den s, univ, decL_encL, r.i6, Int.toNat_natCast, r.i5]
  simp only [psh, IT.den.eq_12, e2, e3, hg]
  unfold upC
  rw [decL_encL, Int.toNat_natCast]; rfl
end
end Go.Proofs.Ytlcjgmehccopkaa
