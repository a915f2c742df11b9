/-
  LinearModel (16): nothing is wrong with such a history's order.
-/
import Derived.Test.YtpgonpjakllnjaaLm15
namespace Go.Proofs.Ytpgonpjakllnjaa
open Go.Vm Go.Vm.Md
namespace Lm

-- WHAT WAS SEEN
def seenL : Nat → List Int
  | 0 => []
  | n + 1 => seenL n ++ [(n : Int), 1]
theorem seen_len : ∀ n, (seenL n).length = 2 * n
  | 0 => rfl
  | n + 1 => by rw [seenL, List.length_append, seen_len n]; show 2 * n + 2 = _; omega
theorem mGet_app : ∀ (L M : List Int) (k : Int), L.length % 2 = 0 → mGet (L ++ M) k = match mGet L k with
    | some v => some v
    | none => mGet M k
  | [], M, k, _ => by simp [mGet]
  | [_], M, k, h => by simp at h
  | a :: b :: r, M, k, h => by
    have hr : r.length % 2 = 0 := by simp only [List.length_cons] at h; omega
    by_cases e : a = k
    · simp [mGet, e]
    · simp only [List.cons_append, mGet, if_neg e]
      exact mGet_app r M k hr
theorem mPut_app : ∀ (L M : List Int) (k x : Int), L.length % 2 = 0 → mGet L k = none → mPut (L ++ M) k x = L ++ mPut M k x
  | [], M, k, x, _, _ => rfl
  | [_], M, k, x, h, _ => by simp at h
  | a :: b :: r, M, k, x, h, hg => by
    have hr : r.length % 2 = 0 := by simp only [List.length_cons] at h; omega
    by_cases e : a = k
    · simp [mGet, e] at hg
    · simp only [mGet, if_neg e] at hg
      simp only [List.cons_append, mPut, if_neg e, mPut_app r M k x hr hg]
theorem seen_get : ∀ (n k : Nat), mGet (seenL n) (k : Int) = if k < n then some 1 else none
  | 0, k => rfl
  | n + 1, k => by
    rw [seenL, mGet_app _ _ _ (by rw [seen_len]; omega), seen_get n k]
    by_cases h : k < n
    · rw [if_pos h, if_pos (by omega)]
    · rw [if_neg h]
      by_cases e : k = n
      · subst e
        rw [if_pos (by omega)]
        simp [mGet]
      · have : ¬ ((n : Int) = (k : Int)) := by omega
        rw [if_neg (by omega)]
        simp [mGet, this]
theorem seen_put (n : Nat) : mPut (seenL n) (n : Int) 1 = seenL (n + 1) := by
  have h := mPut_app (seenL n) [] (n : Int) 1 (by rw [seen_len]; omega) (by rw [seen_get, if_neg (by omega)])
  rw [List.append_nil] at h
  rw [h]; rfl
-- member
def bxR : HB := ⟨.cells [sH] 22 none, true⟩
def snR : HB := ⟨.mapc (.var 11), true⟩
def TM1 : Tpl := ⟨[(1, sO (.var 6)), (2, .ptr 14 (.lit 0)), (5, .map 13), (13, sO (.var 6)), (14, iV 6), (15, .int .i64 at0)], 72, roH [hA0, hA1] ++ [(14, bxR), (13, snR)], 30, csI, 3⟩
def TM2 : Tpl := ⟨[(2, .ptr 14 (.lit 0)), (5, .map 13), (46, .slice 15 (.lit 0) (.var 6) (.nv 16)), (47, iV 6), (48, .int .i64 at0)], 72, roH [hA0] ++ [(14, bxR), (13, snR), (15, ⟨.arr (.code [.i64] (.var 7)) [.i64] 3 (.var 6) (.lit 0) (some (.nv 16)), true⟩)], 30, csI, 3⟩
def spMb : CallF := spL [(54, spAny), (18, spInv)]
theorem spMb_ok {w : World} : CallOk Try.prog ⟨w, [], GW⟩ spMb := spL_ok fun p hp => by
  simp only [List.mem_cons, List.not_mem_nil, or_false] at hp
  rcases hp with rfl | rfl
  · exact spAny_ok fun _ _ _ _ _ h => h
  · exact spInv_ok fun _ _ _ _ _ h => h
noncomputable def m0b : Code := ((loopsOf (Try.f33.body.getD .ret) []).getD 0 (.ret, [])).1
noncomputable def m0k : List Item := ((loopsOf (Try.f33.body.getD .ret) []).getD 0 (.ret, [])).2
noncomputable def m1b : Code := ((loopsOf (Try.f33.body.getD .ret) []).getD 1 (.ret, [])).1
noncomputable def m1k : List Item := ((loopsOf (Try.f33.body.getD .ret) []).getD 1 (.ret, [])).2
def goM1 : Cs := fI true ++ inH (iT at0) ++ [(.cmp .neq (cell (iT at0) 1) (.lit 2), false)]
def enM1 : Cs := fI false ++ [(.cmp .lss (.un 9 (.var 11) (.lit 0)) (.var 6), false)]
def goM2 : Cs := fI true ++ inH (iT at0) ++ fR5 (iT at0) ++ [(.cmp .eql (.un 5 (.var 11) (iT at0)) (.lit 0), false)]
def puT : IT := .un 7 (.var 11) (.un 1 (iT at0) (.bin .add .i64 (.un 5 (.var 11) (iT at0)) (.lit 1)))
def nM1 : List (Nat × Nat) := [(0, 0), (2, 2)]
def sgM0 : Sub := ⟨[(6, .var 6), (9, .lit 0), (7, .var 7), (11, .lit 0)], [], [], [], [(1, 1), (3, 3), (14, 10), (13, 11)] ++ nM1⟩
def sgM1 : Sub := ⟨[(6, .var 6), (9, upI 9), (7, .var 7), (11, puT)], [], [], [], [(1, 1), (3, 3), (14, 14), (13, 13)] ++ nM1⟩
def sgM2 (t : IT) (a b : Nat) : Sub := ⟨[(6, .var 6), (9, t), (11, .var 11), (7, .var 7)], [], [], [], [(14, 14), (13, 13), (15, a), (16, b)] ++ nM1⟩
theorem m_in : (run Try.prog [] spMb 4000 true 33 (entry Try.f33 (Try.f33.body.getD .ret) [sH, sO (.var 6)] (ofP (roH [hA0, hA1])) 10 csA)).map (·.filterMap (sumD gM [TM2, TM1])) = some [.next 1 (.code (.loop m0b) :: m0k) [] sgM0] := by kernel_rfl
theorem m_1 : (run Try.prog [] spMb 4000 true 33 ((⟨TM1.tm, TM1.nt, TM1.H, TM1.nl, goM1 ++ TM1.cs, TM1.dep⟩ : Tpl).st (.code m0b :: .inLoop m0b :: m0k))).map (·.filterMap (sumD gM [TM2, TM1])) = some [.next 1 (.inLoop m0b :: m0k) [] sgM1] := by kernel_rfl
theorem m_1e : (run Try.prog [] spMb 4000 true 33 ((⟨TM1.tm, TM1.nt, TM1.H, TM1.nl, enM1 ++ TM1.cs, TM1.dep⟩ : Tpl).st (.code m0b :: .inLoop m0b :: m0k))).map (·.filterMap (sumD gM [TM2, TM1])) = some [.next 0 (.code (.loop m1b) :: m1k) [] (sgM2 (.lit 0) 31 30)] := by kernel_rfl
theorem m_2 : (run Try.prog [] spMb 4000 true 33 ((⟨TM2.tm, TM2.nt, TM2.H, TM2.nl, goM2 ++ TM2.cs, TM2.dep⟩ : Tpl).st (.code m1b :: .inLoop m1b :: m1k))).map (·.filterMap (sumD gM [TM2])) = some [.next 0 (.inLoop m1b :: m1k) [] (sgM2 (upI 9) 15 16)] := by kernel_rfl
theorem m_2e : (run Try.prog [] spMb 4000 true 33 ((⟨TM2.tm, TM2.nt, TM2.H, TM2.nl, fI false ++ TM2.cs, TM2.dep⟩ : Tpl).st (.code m1b :: .inLoop m1b :: m1k))).map (·.filterMap (sumD gM [TM2])) = some [.ret (.int .i64 (.lit 0)) []] := by kernel_rfl
structure JN (x y : Int) (n c i : Nat) (ρ : Env) : Prop where
  j : JH x y n i ρ
  i11 : ρ.I 11 = encL (seenL c)
theorem JN.of_le {x y : Int} {n c i : Nat} {ρ ρ' : Env} (h : JN x y n c i ρ) (g : ρ.Le ρ') : JN x y n c i ρ' := ⟨h.j.of_le g, by rw [g.i]; exact h.i11⟩
theorem JH.endI {x y : Int} {n : Nat} {ρ : Env} (j : JH x y n n ρ) : CRel ρ (fI false) := j.lt (decide_eq_false (Nat.lt_irrefl _))
theorem member33 {w : World} {x y : Int} {n b0 b1 q0 q1 : Nat} (hs : Hs w b0 b1 x y n) : Calls Try.prog 33 #[.slice (some ⟨b0, 0, none⟩) n q0, .slice (some ⟨b1, 0, none⟩) n q1] w fun e w' => e = .returned (.int .i64 0) ∧ Framed w w' := by
  have hr := startH (q0 := q0) (q1 := q1) (b4 := 0) (b5 := 0) (m := 0) (i := 0) hs [] fun p hp => by cases hp
  have loop2 := scanGo (f := 33) (β := ⟨w, [], GW⟩) (T := TM2) (b := m1b) (k := m1k) (v := .int .i64 0) (n := n) (J := JN x y n n) spMb_ok rfl (fun j => j.j.count) JN.of_le (fun j hG => j.j.cs hG) m_2 m_2e (fun {i ρ} j hi hG => by
      have e := j.j.iT (a := at0) (varD j.j.i9) hi
      refine CRel_app.2 ⟨CRel_app.2 ⟨CRel_app.2 ⟨j.j.lt (decide_eq_true hi), j.j.inH e hi⟩, fR5_ok j.j e hi⟩, c1 (eqlF (un5_den (varD j.i11) e) (litD 0) ?_) c0⟩
      rw [seen_get, if_pos hi]; decide) (fun j => j.j.endI) (fun {i ρ} j hi hG => by
      have := j.j.g.n60
      exact ⟨⟨j.j.i5, j.j.i6, j.j.i7, sbI (t := upI 9) rfl (upD (varD j.j.i9) (by omega)), hi, j.j.g⟩, j.i11⟩) (fun ρ h => h) (fun _ => rfl)
  have loop1 := loop_goesD (P := Try.prog) (β := ⟨w, [], GW⟩) (f := 33) (Q := fun v => v = .int .i64 0) (Ts := [TM2, TM1]) (T := TM1) (b := m0b) (k := m0k) (n := 4000) (g := gM) (pl := true) noCount noExt spMb_ok follows rfl (fun ρ => ∃ i, JN x y n i i ρ) (fun ρ => ((n : Int) - ρ.I 9).toNat) fun ρ ⟨i, j⟩ _ hcs hG ih => by
    have hi := j.j.le
    by_cases hlt : i < n
    · have e := j.j.iT (a := at0) (varD j.j.i9) hlt
      refine ⟨goM1 ++ TM1.cs, _, CRel_app.2 ⟨CRel_app.2 ⟨CRel_app.2 ⟨j.j.lt (decide_eq_true hlt), j.j.inH e hlt⟩, c1 (neqF (j.j.cell e 1) (litD 2) (j.j.g.kd i hlt)) c0⟩, hcs⟩, m_1, one (nextS (T := TM1) rfl fun ρ' hle hG' => ?_)⟩
      have j' := j.of_le hle
      have e' := j'.j.iT (a := at0) (varD j'.j.i9) hlt
      have hn60 := j.j.g.n60
      have e5 : (IT.un 5 (.var 11) (iT at0)).den ρ' = some 0 := by
        rw [un5_den (varD j'.i11) e', seen_get, if_neg (by omega)]; rfl
      have ep : puT.den ρ' = some (encL (seenL (i + 1))) := by
        rw [← seen_put]
        exact put_den (varD j'.i11) e' (by rw [plusD e5 (litD 1) (by omega) (by omega)]; rfl)
      have jn : JN x y n (i + 1) (i + 1) (sgM1.app ρ') := ⟨⟨j'.j.i5, j'.j.i6, j'.j.i7, sbI (t := upI 9) rfl (upD (varD j'.j.i9) (by omega)), hlt, j'.j.g⟩, sbI (t := puT) rfl ep⟩
      exact ⟨hG', jn.j.cs hG', fun a w' r => ih _ (by rw [jn.j.i9, j.j.i9]; omega) ⟨_, jn⟩ _ a w' (.inl rfl) r⟩
    · obtain rfl : i = n := by omega
      refine ⟨enM1 ++ TM1.cs, _, CRel_app.2 ⟨CRel_app.2 ⟨j.j.endI, c1 (lssF (y := (i : Int)) (x := (i : Int)) ?_ (varD j.j.i6) (Int.le_refl _)) c0⟩, hcs⟩, m_1e, one (nextS (T := TM2) rfl fun ρ' hle hG' => ?_)⟩
      · rw [unD (varD j.i11) (litD 0)]
        show some (((decL (encL (seenL i))).length / 2 : Nat) : Int) = _
        rw [decL_encL, seen_len, Nat.mul_div_cancel_left _ (by decide)]
      · have j' := j.of_le hle
        have jn : JN x y i i 0 ((sgM2 (.lit 0) 31 30).app ρ') := ⟨⟨j'.j.i5, j'.j.i6, j'.j.i7, rfl, Nat.zero_le _, j'.j.g⟩, j'.i11⟩
        exact ⟨hG', jn.j.cs hG', fun a w' r => loop2 _ ⟨_, jn⟩ _ a w' (.inr rfl) r⟩
  refine (calls_sumsD (β := ⟨w, [], GW⟩) (Q := fun v => v = .int .i64 0) (g := gM) (Ts := [TM2, TM1]) (pl := true) noCount noExt spMb_ok follows rfl Try.func33 rfl m_in (denL2 (den_slice_of rfl rfl rfl rfl) (den_slice_of rfl rfl rfl rfl)) hr (csA_ok rfl rfl rfl hs.g (GW_env ..)) (one (nextS (T := TM1) rfl fun ρ' hle hG' => ?_))).mono fun e w' ⟨v, he, hv, hf⟩ => ⟨by rw [he, hv], hf⟩
  have jn : JN x y n 0 0 (sgM0.app ρ') := ⟨⟨by show ρ'.I 5 = _; rw [hle.i]; rfl, by show ρ'.I 6 = _; rw [hle.i]; rfl, by show ρ'.I 7 = _; rw [hle.i]; rfl, rfl, Nat.zero_le _, hs.g⟩, rfl⟩
  exact ⟨hG', jn.j.cs hG', fun a w' r => loop1 _ ⟨_, jn⟩ _ a w' (.inr rfl) r⟩
-- late
def TL : Tpl := ⟨[(1, sO (.var 6)), (2, .ptr 14 (.lit 0)), (7, sO (.var 6)), (8, iV 6), (9, .int .i64 at0)], 20, roH [hA0, hA1] ++ [(14, bxR)], 30, csI, 3⟩
noncomputable def b34 : Code := ((loopsOf (Try.f34.body.getD .ret) []).getD 0 (.ret, [])).1
noncomputable def k34 : List Item := ((loopsOf (Try.f34.body.getD .ret) []).getD 0 (.ret, [])).2
def goLt : Cs := fI true ++ [(.cmp .leq at0 (.nv 3), true)]
def sgL (t : IT) (a : Nat) : Sub := ⟨[(6, .var 6), (9, t), (7, .var 7)], [], [], [], [(1, 1), (3, 3), (14, a)] ++ nM1⟩
theorem l_in : (run Try.prog [] spMb 4000 true 34 (entry Try.f34 (Try.f34.body.getD .ret) [sH, sO (.var 6)] (ofP (roH [hA0, hA1])) 10 csA)).map (·.filterMap (sumD gM [TL])) = some [.next 0 (.code (.loop b34) :: k34) [] (sgL (.lit 0) 10)] := by kernel_rfl
theorem l_1 : (run Try.prog [] spMb 4000 true 34 ((⟨TL.tm, TL.nt, TL.H, TL.nl, goLt ++ TL.cs, TL.dep⟩ : Tpl).st (.code b34 :: .inLoop b34 :: k34))).map (·.filterMap (sumD gM [TL])) = some [.next 0 (.inLoop b34 :: k34) [] (sgL (upI 9) 14)] := by kernel_rfl
theorem l_e : (run Try.prog [] spMb 4000 true 34 ((⟨TL.tm, TL.nt, TL.H, TL.nl, fI false ++ TL.cs, TL.dep⟩ : Tpl).st (.code b34 :: .inLoop b34 :: k34))).map (·.filterMap (sumD gM [TL])) = some [.ret (.bool (.lit false)) []] := by kernel_rfl
structure JL (x y : Int) (n q i : Nat) (ρ : Env) : Prop where
  j : JH x y n i ρ
  n3 : ρ.N 3 = some q
  nq : n ≤ q
theorem JL.of_le {x y : Int} {n q i : Nat} {ρ ρ' : Env} (h : JL x y n q i ρ) (g : ρ.Le ρ') : JL x y n q i ρ' := ⟨h.j.of_le g, g.n _ _ h.n3, h.nq⟩
theorem late34 {w : World} {x y : Int} {n b0 b1 q0 q1 : Nat} (hs : Hs w b0 b1 x y n) (hq : n ≤ q1) : Calls Try.prog 34 #[.slice (some ⟨b0, 0, none⟩) n q0, .slice (some ⟨b1, 0, none⟩) n q1] w fun e w' => e = .returned (.bool false) ∧ Framed w w' := by
  have hr := startH (q0 := q0) (q1 := q1) (b4 := 0) (b5 := 0) (m := 0) (i := 0) hs [] fun p hp => by cases hp
  refine scanCall (J := JL x y n q1) (T := TL) (b := b34) (k := k34) (v := .bool false) spMb_ok rfl Try.func34 rfl l_in (denL2 (den_slice_of rfl rfl rfl rfl) (den_slice_of rfl rfl rfl rfl)) hr (csA_ok rfl rfl rfl hs.g (GW_env ..)) (fun ρ' hle hG => ?_) (scanGo (n := n) spMb_ok rfl (fun j => j.j.count) JL.of_le (fun j hG => j.j.cs hG) l_1 l_e (fun {i ρ} j hi hG => ?_) (fun j => j.j.endI) (fun {i ρ} j hi hG => ?_) (fun ρ h => h) (fun _ => rfl))
  · have jn : JL x y n q1 0 ((sgL (.lit 0) 10).app ρ') := ⟨⟨by show ρ'.I 5 = _; rw [hle.i]; rfl, by show ρ'.I 6 = _; rw [hle.i]; rfl, by show ρ'.I 7 = _; rw [hle.i]; rfl, rfl, Nat.zero_le _, hs.g⟩, by show ρ'.N 3 = _; exact hle.n 3 q1 rfl, hq⟩
    exact ⟨hG, ⟨0, jn⟩, jn.j.cs hG⟩
  · have := j.nq
    exact CRel_app.2 ⟨j.j.lt (decide_eq_true hi), c1 (leqT (varD j.j.i9) (nvD j.n3) (by omega)) c0⟩
  · have := j.j.g.n60
    exact ⟨⟨j.j.i5, j.j.i6, j.j.i7, sbI (t := upI 9) rfl (upD (varD j.j.i9) (by omega)), hi, j.j.g⟩, j.n3, j.nq⟩
-- Wrong
def spMem : SpG := fun args H nl cs => match args with
  | [.slice l0 (.lit (.ofNat 0)) n _, .slice l1 (.lit (.ofNat 0)) m _] => match hist2 H cs l0 n l1 m with
    | some _ => some [.ret (.int .i64 (.lit 0)) H nl cs]
    | none => none
  | _ => none
def spLate : SpG := fun args H nl cs => match args with
  | [.slice l0 (.lit (.ofNat 0)) n _, .slice l1 (.lit (.ofNat 0)) m (.nv j)] => match hist2 H cs l0 n l1 m with
    | some _ => match lookB cs (.cmp .leq m (.nv j)) with
      | some true => some [.ret (.bool (.lit false)) H nl cs]
      | _ => none
    | none => none
  | _ => none
theorem spMem_ok {β : Base} (hG : ∀ I B S V F, β.G I B S V F → GW I B S V F) : SpGOk Try.prog β 33 spMem := by
  intro args H nl cs ls ρ w xs hr hx hh hc
  unfold spMem at hr
  split at hr
  rotate_left
  · cases hr
  rename_i l0 n q l1 m q'
  split at hr
  rotate_left
  · cases hr
  rename_i xy hh2
  cases hr
  obtain ⟨b0, b1, xv, yv, N, k0, k1, k2, k3, k4, k5, hs⟩ := hist2_ok hh hc hG hh2
  obtain ⟨q0, q1, rfl⟩ := hist_args (w := w) hx k0 k1 k4 k5
  exact spV_ok (member33 hs) rfl hh hc
/-- The values of such arguments, with the second's room. -/
theorem hist_args' {ρ : Env} {w : World} {l0 l1 b0 b1 N j : Nat} {n m q : IT} {xs : List Value} (hx : AVal.denL ρ [.slice l0 (.lit 0) n q, .slice l1 (.lit 0) m (.nv j)] = some xs) (k0 : ρ.N l0 = some b0) (k1 : ρ.N l1 = some b1) (k4 : n.den ρ = some (N : Int)) (k5 : m.den ρ = some (N : Int)) :
    ∃ q0 q1 : Nat, xs = [.slice (some ⟨b0, 0, none⟩) N q0, .slice (some ⟨b1, 0, none⟩) N q1] ∧ (IT.nv j).den ρ = some (q1 : Int) := by
  obtain ⟨q0, q1, rfl⟩ := hist_args (w := w) hx k0 k1 k4 k5
  refine ⟨q0, q1, rfl, ?_⟩
  cases h1 : (AVal.slice l0 (.lit 0) n q).den ρ with
  | none => simp only [AVal.denL, h1] at hx; cases hx
  | some v1 =>
    cases h2 : (AVal.slice l1 (.lit 0) m (.nv j)).den ρ with
    | none => simp only [AVal.denL, h1, h2] at hx; cases hx
    | some v2 =>
      obtain ⟨b', o, N', q', rfl, e1, e2, e3, e4⟩ := den_slice h2
      have := (denL2 h1 h2).symm.trans hx
      simp only [Option.some.injEq, List.cons.injEq, Value.slice.injEq, and_true] at this
      rw [← this.2.2.2]; exact e4
theorem spLate_ok {β : Base} (hG : ∀ I B S V F, β.G I B S V F → GW I B S V F) : SpGOk Try.prog β 34 spLate := by
  intro args H nl cs ls ρ w xs hr hx hh hc
  unfold spLate at hr
  split at hr
  rotate_left
  · cases hr
  rename_i l0 n q l1 m j
  split at hr
  rotate_left
  · cases hr
  rename_i xy hh2
  split at hr
  rotate_left
  · cases hr
  rename_i hl
  cases hr
  obtain ⟨b0, b1, xv, yv, N, k0, k1, k2, k3, k4, k5, hs⟩ := hist2_ok hh hc hG hh2
  obtain ⟨q0, q1, rfl, hq⟩ := hist_args' (w := w) hx k0 k1 k4 k5
  have := lookB_ok hl hc
  rw [cmpD k5 hq] at this
  simp only [intCmp, Option.some.injEq, decide_eq_true_eq] at this
  exact spV_ok (late34 hs (by omega)) rfl hh hc
def spW : CallF := spL [(33, spMem), (34, spLate), (12, spRepW)]
theorem spW_ok {w : World} : CallOk Try.prog ⟨w, [], GW⟩ spW := spL_ok fun p hp => by
  simp only [List.mem_cons, List.not_mem_nil, or_false] at hp
  rcases hp with rfl | rfl | rfl
  · exact spMem_ok fun _ _ _ _ _ h => h
  · exact spLate_ok fun _ _ _ _ _ h => h
  · exact spRepW_ok fun _ _ _ _ _ h => h
def TW : Tpl := ⟨[(0, sH), (6, .slice 15 (.lit 0) (.var 6) (.nv 16)), (25, sO (.var 6)), (26, iV 6), (27, .int .i64 at0)], 50, roH [hA0, hA1] ++ [(15, ⟨.arr (.code [.i64, .i64] (.fn 61 (.var 5) (.var 7))) [.i64, .i64] 27 (.var 6) (.lit 0) (some (.nv 16)), true⟩)], 30, csI, 3⟩
def tc (i : IT) (j : Nat) : IT := .un 0 (.fn 61 (.var 5) (.var 7)) (.elem (.lit 0) 2 j i)
noncomputable def b13 : Code := ((loopsOf (Try.f13.body.getD .ret) []).getD 0 (.ret, [])).1
noncomputable def k13 : List Item := ((loopsOf (Try.f13.body.getD .ret) []).getD 0 (.ret, [])).2
def csW : Cs := (.cmp .leq (.var 6) (.nv 3), true) :: csA
def goW : Cs := fI true ++ inH (iT at0) ++ [(.cmp .geq (cell (iT at0) 8) (.lit 0), true), (.cmp .eql (cell (iT at0) 9) (tc at0 0), true), (.cmp .eql (cell (iT at0) 10) (tc at0 1), true)]
def sgW (t : IT) (a b : Nat) : Sub := ⟨[(6, .var 6), (9, t), (5, .var 5), (7, .var 7)], [], [], [], [(0, 0), (2, 2), (15, a), (16, b), (1, 1), (3, 3)]⟩
theorem w_in : (run Try.prog [] spW 4000 true 13 (entry Try.f13 (Try.f13.body.getD .ret) [sH, sO (.var 6)] (ofP (roH [hA0, hA1])) 10 csW)).map (·.filterMap (sumD gM [TW])) = some [.next 0 (.code (.loop b13) :: k13) [] (sgW (.lit 0) 12 11)] := by kernel_rfl
theorem w_1 : (run Try.prog [] spW 4000 true 13 ((⟨TW.tm, TW.nt, TW.H, TW.nl, goW ++ TW.cs, TW.dep⟩ : Tpl).st (.code b13 :: .inLoop b13 :: k13))).map (·.filterMap (sumD gM [TW])) = some [.next 0 (.inLoop b13 :: k13) [] (sgW (upI 9) 15 16)] := by kernel_rfl
theorem w_e : (run Try.prog [] spW 4000 true 13 ((⟨TW.tm, TW.nt, TW.H, TW.nl, fI false ++ TW.cs, TW.dep⟩ : Tpl).st (.code b13 :: .inLoop b13 :: k13))).map (·.filterMap (sumD gM [TW])) = some [.ret (.int .i64 (.lit 0)) []] := by kernel_rfl
theorem tc_den {x y : Int} {n i : Nat} {ρ : Env} (j : JH x y n i ρ) (hG : GW.at ρ) {a : IT} {q : Nat} (ha : a.den ρ = some (q : Int)) (k : Nat) : (tc a k).den ρ = some ((outH x n).getD (q * 2 + k) 0) := by
  have e := elemD (ρ := ρ) (sz := 2) (j := k) (litD ((0 : Nat) : Int)) ha
  have e61 : (IT.fn 61 (.var 5) (.var 7)).den ρ = some (encL (outH x n)) := by rw [fnD (varD j.i5) (varD j.i7), hG.2.1, outF, goodLen j.g]
  refine (unD e61 e).trans ?_
  show some ((decL (encL (outH x n))).getD (((0 + (q * 2 + k) : Nat) : Int)).toNat 0) = _
  rw [decL_encL, Int.toNat_natCast, Nat.zero_add]
theorem wrong13 {w : World} {x y : Int} {n b0 b1 q0 q1 : Nat} (hs : Hs w b0 b1 x y n) (hq : n ≤ q1) : Calls Try.prog 13 #[.slice (some ⟨b0, 0, none⟩) n q0, .slice (some ⟨b1, 0, none⟩) n q1] w fun e w' => e = .returned (.int .i64 0) ∧ Framed w w' := by
  have hr := startH (q0 := q0) (q1 := q1) (b4 := 0) (b5 := 0) (m := 0) (i := 0) hs [] fun p hp => by cases hp
  refine scanCall (J := JH x y n) (T := TW) (b := b13) (k := k13) (v := .int .i64 0) spW_ok rfl Try.func13 rfl w_in (denL2 (den_slice_of rfl rfl rfl rfl) (den_slice_of rfl rfl rfl rfl)) hr (c1 (leqT (x := (n : Int)) (y := (q1 : Int)) rfl rfl (by omega)) (csA_ok rfl rfl rfl hs.g (GW_env ..))) (fun ρ' hle hG => ?_) (scanGo (n := n) spW_ok rfl JH.count JH.of_le (fun j hG => j.cs hG) w_1 w_e (fun {i ρ} j hi hG => ?_) JH.endI (fun {i ρ} j hi hG => ?_) (fun ρ h => h) (fun _ => rfl))
  · have jn : JH x y n 0 ((sgW (.lit 0) 12 11).app ρ') := ⟨by show ρ'.I 5 = _; rw [hle.i]; rfl, by show ρ'.I 6 = _; rw [hle.i]; rfl, by show ρ'.I 7 = _; rw [hle.i]; rfl, rfl, Nat.zero_le _, hs.g⟩
    exact ⟨hG, ⟨0, jn⟩, jn.cs hG⟩
  · have ea : at0.den ρ = some (i : Int) := varD j.i9
    have e := j.iT ea hi
    have e8 := j.g.en i hi
    obtain ⟨a9, a10⟩ := j.g.an i hi
    obtain ⟨o1, o2⟩ := outH_get x hi
    exact CRel_app.2 ⟨CRel_app.2 ⟨j.lt (decide_eq_true hi), j.inH e hi⟩, c1 (geqT (j.cell e 8) (litD 0) (by omega)) (c1 (eqlT (j.cell e 9) (tc_den j hG ea 0) (by rw [a9]; exact o1.symm)) (c1 (eqlT (j.cell e 10) (tc_den j hG ea 1) (by rw [a10]; exact o2.symm)) c0))⟩
  · have := j.g.n60
    exact ⟨j.i5, j.i6, j.i7, sbI (t := upI 9) rfl (upD (varD j.i9) (by omega)), hi, j.g⟩
/-- Wrong, as the machine takes it. -/
def spWr : SpG := fun args H nl cs => match args with
  | [.slice l0 (.lit (.ofNat 0)) n _, .slice l1 (.lit (.ofNat 0)) m (.nv j)] => match H.get l1 with
    | some ⟨.arr _ ks _ an _ (some (.nv j')), _⟩ => cond (Nat.beq j j' && IT.beq m an && decide (ks = [.i64])) (match hist2 H cs l0 n l1 m with
      | some _ => some [.ret (.int .i64 (.lit 0)) H nl cs]
      | none => none) none
    | _ => none
  | _ => none
theorem spWr_ok {β : Base} (hG : ∀ I B S V F, β.G I B S V F → GW I B S V F) : SpGOk Try.prog β 13 spWr := by
  intro args H nl cs ls ρ w xs hr hx hh hc
  unfold spWr at hr
  split at hr
  rotate_left
  · cases hr
  rename_i l0 n q l1 m j
  split at hr
  rotate_left
  · cases hr
  rename_i at' ks el an off j' rw hg
  cases hb : (Nat.beq j j' && IT.beq m an && decide (ks = [.i64])) with
  | false => rw [hb] at hr; cases hr
  | true =>
    rw [hb] at hr
    simp only [cond_true] at hr
    simp only [Bool.and_eq_true, decide_eq_true_eq] at hb
    obtain ⟨⟨b1', b2'⟩, rfl⟩ := hb
    obtain rfl := Nat.eq_of_beq_eq_true b1'
    obtain rfl := IT.beq_eq b2'
    split at hr
    rotate_left
    · cases hr
    rename_i xy hh2
    cases hr
    obtain ⟨b0, b1, xv, yv, N, k0, k1, k2, k3, k4, k5, hs⟩ := hist2_ok hh hc hG hh2
    obtain ⟨q0, q1, rfl, hq⟩ := hist_args' (w := w) hx k0 k1 k4 k5
    obtain ⟨m', c', r1, r2, r3⟩ := hh.room hg (by simp)
    have e1 := r1.symm.trans k5
    have e2 := r2.symm.trans hq
    have e1 : m' = N := Int.ofNat.inj (Option.some.inj e1)
    have e2 : c' = q1 := Int.ofNat.inj (Option.some.inj e2)
    exact spV_ok (wrong13 hs (by omega)) rfl hh hc
end Lm
end Go.Proofs.Ytpgonpjakllnjaa
