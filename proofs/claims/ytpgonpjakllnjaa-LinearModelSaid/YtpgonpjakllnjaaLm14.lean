/-
  LinearModel (14): Invocations, and Replay, of such a history.
-/
import Derived.Test.YtpgonpjakllnjaaLm13
namespace Go.Proofs.Ytpgonpjakllnjaa
open Go.Vm Go.Vm.Md
namespace Lm

-- A LOOP WHOSE HEADS ARE TWO
section
variable {P : Program} {β : Base} {f : FuncId} {R : Value → World → Prop} {Rs : List Tpl}
theorem loop_goesJ (hc : NoCount P) {E : Exts} (hE : ExtOk P E) {sp : CallF} (hsp : CallOk P β sp) (hm : P.follows .mixedOrders = true) {g : Gen} {L : List Nat} {b : Code} {k : List Item} {n : Nat} {ι : Type} (T : ι → Tpl) (J : ι → Env → Prop) (μ : ι → Env → Nat)
    (hs : ∀ i ρ, J i ρ → CRel ρ (T i).cs → GP.at β.G ρ → (∀ i' ρ', μ i' ρ' < μ i ρ → J i' ρ' → ∀ todo a w, todo = .inLoop b :: k ∨ todo = .code (.loop b) :: k → SRel β ρ' ((T i').st todo) a w → Goes P f R todo a w) →
      ∃ pl Ts cs' sums, CRel ρ cs' ∧ (run P E sp n pl f ((⟨(T i).tm, (T i).nt, (T i).H, (T i).nl, cs', (T i).dep⟩ : Tpl).st (.code b :: .inLoop b :: k))).map (·.filterMap (sumMD g L Rs Ts)) = some sums ∧ ∀ s ∈ sums, MGoodO P β f R Rs Ts ρ s) :
    ∀ i ρ, J i ρ → ∀ todo a w, todo = .inLoop b :: k ∨ todo = .code (.loop b) :: k → SRel β ρ ((T i).st todo) a w → Goes P f R todo a w := by
  suffices H : ∀ N i ρ, μ i ρ = N → J i ρ → ∀ todo a w, todo = .inLoop b :: k ∨ todo = .code (.loop b) :: k → SRel β ρ ((T i).st todo) a w → Goes P f R todo a w from fun i ρ => H _ i ρ rfl
  intro N
  induction N using Nat.strongRecOn with
  | _ N ih =>
    intro i ρ hN hJ todo a w htd r
    obtain ⟨pl, Ts, cs', sums, hcs', hrun, hss⟩ := hs i ρ hJ r.c r.h.g fun i' ρ' hlt hJ' todo' a' w' ht' r' => ih (μ i' ρ') (by omega) i' ρ' rfl hJ' todo' a' w' ht' r'
    obtain ⟨ls, hls, hsum⟩ := Option.map_eq_some_iff.1 hrun
    have key : Goes P f R (.code b :: .inLoop b :: k) a w := run_sound hc hE hsp hm n pl f _ ls ρ a w _ hls ⟨r.d, r.n, r.t, r.h, hcs'⟩ (m_allO (g := g) (L := L) (sums := ls.filterMap (sumMO g L Rs Ts)) rfl (dcsM hsum hss))
    rcases htd with rfl | rfl
    · exact Goes.one (fun cs => step_inLoop) key
    · exact Goes.one (fun cs => step_loop) key
end
-- INVOCATIONS
def rI (n : IT) : HB := ⟨.arr (.code [.i64] (.var 11)) [.i64] 3 n (.lit 0) (some (.nv 12)), true⟩
def TI : Bool → Tpl
  | false => ⟨[(3, .sliceNil), (6, sH), (7, iV 6), (8, .int .i64 (.lit 0))], 22, roH [hA0], 10, csA, 3⟩
  | true => ⟨[(3, .slice 13 (.lit 0) at0 (.nv 12)), (6, sH), (7, iV 6), (8, iV 9)], 22, roH [hA0] ++ [(13, rI at0)], 20, (.cmp .geq at0 (.lit 1), true) :: csI, 3⟩
noncomputable def b18 : Code := ((loopsOf (Try.f18.body.getD .ret) []).getD 0 (.ret, [])).1
noncomputable def k18 : List Item := ((loopsOf (Try.f18.body.getD .ret) []).getD 0 (.ret, [])).2
def eI : List Tpl := [⟨[(0, .slice 13 (.lit 0) at0 (.nv 12))], 1, [(13, rI at0)], 20, [], 0⟩]
def f0 (b : Bool) : Cs := [(.cmp .lss (.lit 0) (.var 6), b)]
def fK (i : IT) : Cs := [(.cmp .eql (cell i 1) (.lit 2), true)]
def nI (l : List (Nat × Nat)) : List (Nat × Nat) := l ++ [(0, 0), (2, 2)]
def sgI0 : Sub := ⟨[(6, .var 6), (5, .var 5)], [], [], [], nI []⟩
def sgI1 : Sub := ⟨[(9, .lit 1), (6, .var 6), (5, .var 5), (11, .un 3 (.lit 0) (.lit 0))], [], [], [], nI [(13, 13), (12, 12)]⟩
def sgI2 : Sub := ⟨[(9, upI 9), (6, .var 6), (5, .var 5), (11, .un 3 (.var 11) (.var 9))], [], [], [], nI [(13, 23), (12, 22)]⟩
def sgIE : Sub := ⟨[(9, .var 9), (11, .var 11)], [], [], [], [(13, 13), (12, 12)]⟩
theorem i_in : (run Try.prog [] (spL []) 4000 true 18 (entry Try.f18 (Try.f18.body.getD .ret) [sH] (ofP (roH [hA0])) 10 csA)).map (·.filterMap (sumMD gM [] eI [TI false])) = some [.next 0 (.code (.loop b18) :: k18) [] sgI0] := by kernel_rfl
theorem i_0 : (run Try.prog [] (spL []) 4000 true 18 ((⟨(TI false).tm, (TI false).nt, (TI false).H, (TI false).nl, (f0 true ++ fK (.lit 0)) ++ (TI false).cs, (TI false).dep⟩ : Tpl).st (.code b18 :: .inLoop b18 :: k18))).map (·.filterMap (sumMD gM [] eI [TI true])) = some [.next 0 (.inLoop b18 :: k18) [] sgI1] := by kernel_rfl
theorem i_1 : (run Try.prog [] (spL []) 4000 true 18 ((⟨(TI true).tm, (TI true).nt, (TI true).H, (TI true).nl, (fI true ++ fK at0) ++ (TI true).cs, (TI true).dep⟩ : Tpl).st (.code b18 :: .inLoop b18 :: k18))).map (·.filterMap (sumMD gM [] eI [TI true])) = some [.next 0 (.inLoop b18 :: k18) [] sgI2] := by kernel_rfl
theorem i_e : (run Try.prog [] (spL []) 4000 true 18 ((⟨(TI true).tm, (TI true).nt, (TI true).H, (TI true).nl, fI false ++ (TI true).cs, (TI true).dep⟩ : Tpl).st (.code b18 :: .inLoop b18 :: k18))).map (·.filterMap (sumMD gM [] eI [])) = some [.done 0 [] sgIE] := by kernel_rfl
structure JX (x y : Int) (n : Nat) (ρ : Env) : Prop where
  i5 : ρ.I 5 = x
  i6 : ρ.I 6 = (n : Int)
  i7 : ρ.I 7 = y
  g : Good x y n
theorem JX.of_le {x y : Int} {n : Nat} {ρ ρ' : Env} (h : JX x y n ρ) (g : ρ.Le ρ') : JX x y n ρ' := ⟨by rw [g.i]; exact h.i5, by rw [g.i]; exact h.i6, by rw [g.i]; exact h.i7, h.g⟩
/-- The same at the place 0. -/
theorem JX.at0 {x y : Int} {n : Nat} {ρ : Env} (h : JX x y n ρ) : JH x y n 0 ⟨fun j => if j = 9 then 0 else ρ.I j, ρ.B, ρ.S, ρ.V, ρ.N, ρ.F⟩ := ⟨h.i5, h.i6, h.i7, rfl, Nat.zero_le _, h.g⟩
theorem JX.cell {x y : Int} {n : Nat} {ρ : Env} (h : JX x y n ρ) {a : IT} {q : Nat} (ha : a.den ρ = some (q : Int)) (j : Nat) : (Lm.cell a j).den ρ = some (cH x q j) := by
  have e := elemD (ρ := ρ) (sz := 16) (j := j) (litD ((0 : Nat) : Int)) ha
  refine (unD (varD h.i5) e).trans ?_
  show some ((decL x).getD (((0 + (q * 16 + j) : Nat) : Int)).toNat 0) = _
  rw [Int.toNat_natCast, Nat.zero_add]; rfl
theorem JX.iT {x y : Int} {n : Nat} {ρ : Env} (h : JX x y n ρ) {a : IT} {q : Nat} (ha : a.den ρ = some (q : Int)) (hq : q < n) : (Lm.iT a).den ρ = some (q : Int) := by
  have e := elemD (ρ := ρ) (sz := 1) (j := 0) (litD ((0 : Nat) : Int)) ha
  refine (unD (varD h.i7) e).trans ?_
  show some ((decL y).getD (((0 + (q * 1 + 0) : Nat) : Int)).toNat 0) = _
  rw [h.g.y, Int.toNat_natCast, show 0 + (q * 1 + 0) = q by omega, iota_get hq]
theorem JX.inH {x y : Int} {n : Nat} {ρ : Env} (h : JX x y n ρ) {a : IT} {q : Nat} (ha : a.den ρ = some (q : Int)) (hq : q < n) : CRel ρ (Lm.inH a) :=
  c1 (geqT ha (litD 0) (by omega)) (c1 (lssT ha (varD h.i6) (by omega)) c0)
theorem JX.cs {x y : Int} {n : Nat} {ρ : Env} (h : JX x y n ρ) (hG : GW.at ρ) : CRel ρ csA := csA_ok h.i5 h.i6 h.i7 h.g hG
theorem JX.lt0 {x y : Int} {n : Nat} {ρ : Env} (h : JX x y n ρ) : CRel ρ (f0 true) := by
  have := h.g.n1
  exact c1 (lssT (litD 0) (varD h.i6) (by omega)) c0
theorem JH.jx {x y : Int} {n i : Nat} {ρ : Env} (h : JH x y n i ρ) : JX x y n ρ := ⟨h.i5, h.i6, h.i7, h.g⟩
def JI (x y : Int) (n : Nat) : Bool → Env → Prop
  | false => JX x y n
  | true => fun ρ => ∃ i, JH x y n i ρ ∧ 1 ≤ i ∧ ρ.I 11 = encL (iota i)
def μI (n : Nat) : Bool → Env → Nat
  | false => fun _ => n + 1
  | true => fun ρ => ((n : Int) - ρ.I 9).toNat
theorem csI1_ok {x y : Int} {n i : Nat} {ρ : Env} (j : JH x y n i ρ) (h1 : 1 ≤ i) (hG : GW.at ρ) : CRel ρ ((.cmp .geq at0 (.lit 1), true) :: csI) := c1 (geqT (varD j.i9) (litD 1) (by omega)) (j.cs hG)
theorem inv18 {w : World} {x y : Int} {n b0 q0 : Nat} (h0 : RowAtL w b0 ksR (decL x)) (g : Good x y n) : Calls Try.prog 18 #[.slice (some ⟨b0, 0, none⟩) n q0] w fun e w' => ∃ v, e = .returned v ∧ RowOut w w' v 3 [.i64] (iota n) n := by
  have hn1 := g.n1
  have hn60 := g.n60
  have hr : HRel ⟨w, [], GW⟩ (envH x y n b0 0 q0 0 0 0 0 0) (ofP (roH [hA0])) 10 w := by
    refine HRel.ro [hA0] (fun p hp => ?_) (fun j hj => ?_) (GW_env ..)
    · rw [List.mem_singleton.1 hp]
      obtain ⟨o, h1, h2⟩ := rowRel (ρ := envH x y n b0 0 q0 0 0 0 0 0) (q := 5) (n := n) (el := 31) h0 rfl rfl g.lx
      exact ⟨b0, o, rfl, h1, h2⟩
    · show (if j = 0 then some b0 else if j = 1 then some 0 else if j = 2 then some q0 else if j = 3 then some 0 else if j = 4 then some 0 else if j = 5 then some 0 else none) = none
      rw [if_neg (by omega), if_neg (by omega), if_neg (by omega), if_neg (by omega), if_neg (by omega), if_neg (by omega)]
  have loop := loop_goesJ (P := Try.prog) (β := ⟨w, [], GW⟩) (f := 18) (R := fun v w' => RowOut w w' v 3 [.i64] (iota n) n) (Rs := eI) (L := []) (b := b18) (k := k18) (n := 4000) (g := gM) noCount noExt (noSp0 _) follows TI (JI x y n) (μI n) fun z ρ hJ hcs hG ih => by
    cases z with
    | false =>
      have j : JX x y n ρ := hJ
      refine ⟨true, [TI true], (f0 true ++ fK (.lit 0)) ++ (TI false).cs, _, CRel_app.2 ⟨CRel_app.2 ⟨j.lt0, c1 (eqlT (j.cell (a := .lit 0) (q := 0) rfl 1) (litD 2) (j.g.kd 0 (by omega))) c0⟩, hcs⟩, i_0, one (nextR rfl (fun l hl => by cases hl) fun ρ' hle hG' => ?_)⟩
      have j' := j.of_le hle
      have jn : JH x y n 1 (sgI1.app ρ') := ⟨j'.i5, j'.i6, j'.i7, rfl, hn1, j'.g⟩
      have e11 : (sgI1.app ρ').I 11 = encL (iota 1) := sbI rfl (snoc_den (L := []) nil_den (litD 0))
      exact ⟨hG', csI1_ok jn (Nat.le_refl _) hG', fun a w r => ih true _ (by show ((n : Int) - (sgI1.app ρ').I 9).toNat < n + 1; rw [jn.i9]; omega) ⟨1, jn, Nat.le_refl _, e11⟩ _ a w (.inl rfl) r⟩
    | true =>
      obtain ⟨i, j, h1, h11⟩ := hJ
      have hi := j.le
      by_cases hlt : i < n
      · have ei : at0.den ρ = some (i : Int) := varD j.i9
        refine ⟨true, [TI true], (fI true ++ fK at0) ++ (TI true).cs, _, CRel_app.2 ⟨CRel_app.2 ⟨j.lt (decide_eq_true hlt), c1 (eqlT (j.cell ei 1) (litD 2) (j.g.kd i hlt)) c0⟩, hcs⟩, i_1, one (nextR rfl (fun l hl => by cases hl) fun ρ' hle hG' => ?_)⟩
        have j' := j.of_le hle
        have jn : JH x y n (i + 1) (sgI2.app ρ') := ⟨j'.i5, j'.i6, j'.i7, sbI (t := upI 9) rfl (upD (varD j'.i9) (by omega)), hlt, j'.g⟩
        have e11 : (sgI2.app ρ').I 11 = encL (iota (i + 1)) := sbI rfl (snoc_den (L := iota i) (varD (by rw [hle.i]; exact h11)) (varD j'.i9))
        exact ⟨hG', csI1_ok jn (by omega) hG', fun a w r => ih true _ (by show ((n : Int) - (sgI2.app ρ').I 9).toNat < ((n : Int) - ρ.I 9).toNat; rw [jn.i9, j.i9]; omega) ⟨i + 1, jn, by omega, e11⟩ _ a w (.inl rfl) r⟩
      · obtain rfl : i = n := by omega
        refine ⟨true, [], fI false ++ (TI true).cs, _, CRel_app.2 ⟨j.lt (decide_eq_false hlt), hcs⟩, i_e, one (doneR (T := ⟨[(0, .slice 13 (.lit 0) at0 (.nv 12))], 1, [(13, rI at0)], 20, [], 0⟩) rfl (fun l hl => by cases hl) fun ρ' hle hG' => ⟨hG', c0, fun v w' r => ?_⟩)⟩
        obtain ⟨z, hz, he⟩ := r.t 0 _ rfl
        obtain rfl : v = z := Option.some.inj he
        have j' := j.of_le hle
        refine row_out (l := 13) (j := 12) (nT := at0) (c := .var 11) rfl r.h rfl hz (varD (sbI (t := .var 9) rfl (varD j'.i9))) (varD (sbI (t := .var 11) rfl (varD (by rw [hle.i]; exact h11))))
  refine (calls_sumsE (β := ⟨w, [], GW⟩) (R := fun v w' => RowOut w w' v 3 [.i64] (iota n) n) (g := gM) (L := []) (Rs := eI) (Ts := [TI false]) (pl := true) noCount noExt (noSp0 _) follows Try.func18 rfl i_in (denL1 (den_slice_of rfl rfl rfl rfl)) hr (csA_ok rfl rfl rfl g (GW_env ..)) (one (nextR rfl (fun l hl => by cases hl) fun ρ' hle hG' => ?_)))
  have jn : JX x y n (sgI0.app ρ') := ⟨by show ρ'.I 5 = _; rw [hle.i]; rfl, by show ρ'.I 6 = _; rw [hle.i]; rfl, by show ρ'.I 7 = _; rw [hle.i]; rfl, g⟩
  exact ⟨hG', jn.cs hG', fun a w r => loop false _ jn _ a w (.inr rfl) r⟩
def findY (x : IT) : Cs → Option IT
  | [] => none
  | (.cmp .eql (.fn 60 x' y) (.lit (.ofNat 1)), true) :: r => cond (IT.beq x x') (some y) (findY x r)
  | _ :: r => findY x r
theorem findY_ok {x y : IT} : ∀ {cs : Cs}, findY x cs = some y → (gd x y, true) ∈ cs
  | [], h => by cases h
  | p :: r, h => by
    unfold findY at h
    split at h
    · cases h
    · rename_i x' y' r' he
      cases he
      cases hb : IT.beq x x' with
      | true => rw [hb] at h; cases h; rw [IT.beq_eq hb]; exact List.mem_cons_self
      | false => rw [hb] at h; exact List.mem_cons_of_mem _ (findY_ok h)
    · rename_i he
      cases he
      exact List.mem_cons_of_mem _ (findY_ok h)
def spInv : SpG := fun args H nl cs => match args with
  | [.slice l0 (.lit (.ofNat 0)) n _] => match H.get l0 with
    | some ⟨.arr (.code ks x) ks' _ n0 (.lit (.ofNat 0)) _, _⟩ => cond (decide (ks = ksR) && decide (ks' = ksR) && IT.beq n n0) (match findY x cs with
      | some y => some [.ret (.slice (nl + 1) (.lit 0) n (.nv nl)) (H.set (nl + 1) ⟨.arr (.code [.i64] y) [.i64] 3 n (.lit 0) (some (.nv nl)), true⟩) (nl + 2) cs]
      | none => none) none
    | _ => none
  | _ => none
theorem spInv_ok {β : Base} (hG : ∀ I B S V F, β.G I B S V F → GW I B S V F) : SpGOk Try.prog β 18 spInv := by
  intro args H nl cs ls ρ w xs hr hx hh hc
  unfold spInv at hr
  split at hr
  rotate_left
  · cases hr
  rename_i l0 n q
  split at hr
  rotate_left
  · cases hr
  rename_i ks x ks' el n0 cp rw hg
  cases hb : (decide (ks = ksR) && decide (ks' = ksR) && IT.beq n n0) with
  | false => rw [hb] at hr; cases hr
  | true =>
    rw [hb] at hr
    simp only [cond_true] at hr
    simp only [Bool.and_eq_true, decide_eq_true_eq] at hb
    obtain ⟨⟨rfl, rfl⟩, e3⟩ := hb
    obtain rfl := IT.beq_eq e3
    split at hr
    rotate_left
    · cases hr
    rename_i y hy
    cases hr
    obtain ⟨b0, xv, N, k1, k2, k3, k4, k5⟩ := rowAt_of (off := .lit 0) hh hg
    have hgd := hc _ (findY_ok hy)
    obtain ⟨yv, hyv⟩ : ∃ yv, y.den ρ = some yv := by
      cases hyy : y.den ρ with
      | none => simp only [gd, BT.den, IT.den, hyy, k2] at hgd; cases hgd
      | some yv => exact ⟨yv, rfl⟩
    obtain ⟨m, g⟩ := good_of (hG _ _ _ _ _ hh.g) k2 hyv hgd
    obtain rfl : N = m := by
      have := g.lx
      rw [k5, show ksR.length = 16 from rfl] at this
      omega
    have hx : AVal.denL ρ [.slice l0 (.lit 0) n q] = some xs := hx
    cases hsl : (AVal.slice l0 (.lit 0) n q).den ρ with
    | none => simp only [AVal.denL, hsl] at hx; cases hx
    | some sv =>
      obtain ⟨b0', o0, N0, q0, rfl, e1, e2, e3, e4⟩ := den_slice hsl
      rw [k1] at e1; cases e1
      obtain rfl : o0 = 0 := by have := Option.some.inj e2; exact (Int.ofNat.inj this).symm
      obtain rfl : N0 = N := by have := e3.symm.trans k3; exact Int.ofNat.inj (Option.some.inj this)
      obtain rfl : [.slice (some ⟨b0, 0, none⟩) N0 q0] = xs := Option.some.inj ((denL1 hsl).symm.trans hx)
      refine (inv18 k4 g).mono fun e w' ⟨v, he, ro⟩ => ?_
      obtain ⟨ρ', hle, hd, hr'⟩ := row_inY hh ro k3 hyv (by rw [g.y])
      exact ⟨v, he, _, _, _, _, ρ', List.mem_cons_self, hle, hd, hr', hc.mono hle⟩
end Lm
end Go.Proofs.Ytpgonpjakllnjaa
