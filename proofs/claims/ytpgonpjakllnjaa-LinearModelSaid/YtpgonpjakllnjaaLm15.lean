/-
  LinearModel (15): Replay of such a history.
-/
import Derived.Test.YtpgonpjakllnjaaLm14
namespace Go.Proofs.Ytpgonpjakllnjaa
open Go.Vm Go.Vm.Md
namespace Lm

def oR (a : IT) : IT := opT (cell (iT a) 2) (cell (iT a) 3) (cell (iT a) 4) (cell (iT a) 5)
def oB (n : IT) : HB := ⟨.arr (.code [.i64, .i64] (.var 11)) [.i64, .i64] 27 n (.lit 0) (some (.nv 12)), true⟩
def mR : HB := ⟨.big 0 (.var 21), true⟩
def TR : Bool → Tpl
  | false => ⟨[(0, sH), (6, .ptr 14 (.lit 0)), (7, .sliceNil), (13, sO (.var 6)), (14, iV 6), (15, .int .i64 (.lit 0))], 36, roH [hA0, hA1] ++ [(14, mR)], 15, csA, 3⟩
  | true => ⟨[(0, sH), (6, .ptr 14 (.lit 0)), (7, .slice 13 (.lit 0) at0 (.nv 12)), (13, sO (.var 6)), (14, iV 6), (15, .int .i64 at0)], 36, roH [hA0, hA1] ++ [(14, mR), (13, oB at0)], 30, (.cmp .geq at0 (.lit 1), true) :: csI, 3⟩
noncomputable def b12 : Code := ((loopsOf (Try.f12.body.getD .ret) []).getD 0 (.ret, [])).1
noncomputable def k12 : List Item := ((loopsOf (Try.f12.body.getD .ret) []).getD 0 (.ret, [])).2
def eR : List Tpl := [⟨[(0, .tuple [.slice 13 (.lit 0) at0 (.nv 12), .ptr 14 (.lit 0)])], 1, [(14, mR), (13, oB at0)], 20, [], 0⟩]
def spR : CallF := spL [(10, spNew), (11, spApply)]
def iI : List (Nat × IT) := [(5, .var 5), (7, .var 7)]
def sgR0 : Sub := ⟨(6, .var 6) :: (iI ++ [(21, m0T)]), [], [], [], [(0, 0), (2, 2), (14, 10), (1, 1), (3, 3)]⟩
def sgR (t o c : IT) (a b : Nat) : Sub := ⟨[(6, .var 6), (9, t)] ++ iI ++ [(21, .fn 72 (.var 21) o), (11, .un 3 (.un 3 c (.fn 70 (.var 21) o)) (.fn 71 (.var 21) o))], [], [], [], [(0, 0), (2, 2), (14, 14), (13, b), (12, a), (1, 1), (3, 3)]⟩
def sgRE : Sub := ⟨[(9, .var 9), (21, .var 21), (11, .var 11)], [], [], [], [(13, 13), (12, 12), (14, 14)]⟩
theorem p_in : (run Try.prog [] spR 4000 true 12 (entry Try.f12 (Try.f12.body.getD .ret) [sH, sO (.var 6)] (ofP (roH [hA0, hA1])) 10 csA)).map (·.filterMap (sumMD gM [] eR [TR false])) = some [.next 0 (.code (.loop b12) :: k12) [] sgR0] := by kernel_rfl
theorem p_0 : (run Try.prog [] spR 4000 true 12 ((⟨(TR false).tm, (TR false).nt, (TR false).H, (TR false).nl, (f0 true ++ inH (iT (.lit 0))) ++ (TR false).cs, (TR false).dep⟩ : Tpl).st (.code b12 :: .inLoop b12 :: k12))).map (·.filterMap (sumMD gM [] eR [TR true])) = some [.next 0 (.inLoop b12 :: k12) [] (sgR (.lit 1) (oR (.lit 0)) (.lit 0) 18 19)] := by kernel_rfl
theorem p_1 : (run Try.prog [] spR 4000 true 12 ((⟨(TR true).tm, (TR true).nt, (TR true).H, (TR true).nl, (fI true ++ inH (iT at0)) ++ (TR true).cs, (TR true).dep⟩ : Tpl).st (.code b12 :: .inLoop b12 :: k12))).map (·.filterMap (sumMD gM [] eR [TR true])) = some [.next 0 (.inLoop b12 :: k12) [] (sgR (upI 9) (oR at0) (.var 11) 33 34)] := by kernel_rfl
theorem p_e : (run Try.prog [] spR 4000 true 12 ((⟨(TR true).tm, (TR true).nt, (TR true).H, (TR true).nl, fI false ++ (TR true).cs, (TR true).dep⟩ : Tpl).st (.code b12 :: .inLoop b12 :: k12))).map (·.filterMap (sumMD gM [] eR [])) = some [.done 0 [] sgRE] := by kernel_rfl
theorem spR_ok {w : World} : CallOk Try.prog ⟨w, [], GW⟩ spR := spL_ok fun p hp => by
  simp only [List.mem_cons, List.not_mem_nil, or_false] at hp
  rcases hp with rfl | rfl
  · exact spNew_ok
  · exact spApply_ok fun _ _ _ _ _ h => h
structure JR (x : Int) (i : Nat) (ρ : Env) : Prop where
  i21 : ρ.I 21 = (stH x i).code
  i11 : 1 ≤ i → ρ.I 11 = encL (outH x i)
def JRz (x y : Int) (n : Nat) : Bool → Env → Prop
  | false => fun ρ => JX x y n ρ ∧ ρ.I 21 = mod0.code
  | true => fun ρ => ∃ i, JH x y n i ρ ∧ 1 ≤ i ∧ ρ.I 21 = (stH x i).code ∧ ρ.I 11 = encL (outH x i)
/-- What Replay hands out. -/
def RepR (w : World) (x : Int) (n : Nat) : Value → World → Prop := fun v w' => ∃ vr b, ∃ F' : Nat → Prop, v = .tuple #[vr, .pointer (some ⟨b, 0, none⟩)] ∧ RowOut w w' vr 27 [.i64, .i64] (outH x n) n ∧ fam 0 (stH x n).code w' b F' ∧ ∀ z, F' z → w.heap.size ≤ z
section
variable {x y : Int} {n i : Nat} {ρ : Env}
theorem oR_den (j : JX x y n ρ) {a : IT} (ha : a.den ρ = some (i : Int)) (hi : i < n) : (oR a).den ρ = some (encL [cH x i 2, cH x i 3, cH x i 4, cH x i 5]) := by
  have e := j.iT ha hi
  exact opT_den (j.cell e 2) (j.cell e 3) (j.cell e 4) (j.cell e 5)
theorem stepR (j : JX x y n ρ) (hG : GW.at ρ) {a c : IT} (ha : a.den ρ = some (i : Int)) (hi : i < n) (h21 : ρ.I 21 = (stH x i).code) (hc : c.den ρ = some (encL (outH x i))) :
    (IT.fn 72 (.var 21) (oR a)).den ρ = some (stH x (i + 1)).code ∧ (IT.un 3 (.un 3 c (.fn 70 (.var 21) (oR a))) (.fn 71 (.var 21) (oR a))).den ρ = some (encL (outH x (i + 1))) := by
  obtain ⟨_, _, _, _, g70, g71, g72⟩ := hG
  have eo := oR_den j ha hi
  have e70 : (IT.fn 70 (.var 21) (oR a)).den ρ = some (anH x i).1 := by rw [fnD (varD h21) eo, g70]; simp only [apO_enc]; rfl
  have e71 : (IT.fn 71 (.var 21) (oR a)).den ρ = some (anH x i).2 := by rw [fnD (varD h21) eo, g71]; simp only [apO_enc]; rfl
  refine ⟨by rw [fnD (varD h21) eo, g72]; simp only [apO_enc]; rfl, ?_⟩
  have := snoc_den (snoc_den hc e70) e71
  rw [List.append_assoc] at this
  exact this
end
theorem tuple2_den {ρ : Env} {a b : AVal} {x y : Value} (h : a.den ρ = some x) (g : b.den ρ = some y) : (AVal.tuple [a, b]).den ρ = some (.tuple #[x, y]) := by
  have := denL2 h g
  simp only [AVal.den]
  rw [this]; rfl
theorem replay12 {w : World} {x y : Int} {n b0 b1 q0 q1 : Nat} (hs : Hs w b0 b1 x y n) : Calls Try.prog 12 #[.slice (some ⟨b0, 0, none⟩) n q0, .slice (some ⟨b1, 0, none⟩) n q1] w fun e w' => ∃ v, e = .returned v ∧ RepR w x n v w' := by
  have hn1 := hs.g.n1
  have hn60 := hs.g.n60
  have hr := startH (q0 := q0) (q1 := q1) (b4 := 0) (b5 := 0) (m := 0) (i := 0) hs [] fun p hp => by cases hp
  have loop := loop_goesJ (P := Try.prog) (β := ⟨w, [], GW⟩) (f := 12) (R := RepR w x n) (Rs := eR) (L := []) (b := b12) (k := k12) (n := 4000) (g := gM) noCount noExt spR_ok follows TR (JRz x y n) (μI n) fun z ρ hJ hcs hG ih => by
    cases z with
    | false =>
      obtain ⟨j, h21⟩ := hJ
      refine ⟨true, [TR true], (f0 true ++ inH (iT (.lit 0))) ++ (TR false).cs, _, CRel_app.2 ⟨CRel_app.2 ⟨j.lt0, j.inH (j.iT (a := .lit 0) (q := 0) rfl (by omega)) (by omega)⟩, hcs⟩, p_0, one (nextR rfl (fun l hl => by cases hl) fun ρ' hle hG' => ?_)⟩
      have j' := j.of_le hle
      obtain ⟨s1, s2⟩ := stepR (i := 0) (a := .lit 0) (c := .lit 0) j' hG' rfl (by omega) (by rw [hle.i]; exact h21) rfl
      have jn : JH x y n 1 ((sgR (.lit 1) (oR (.lit 0)) (.lit 0) 18 19).app ρ') := ⟨j'.i5, j'.i6, j'.i7, rfl, hn1, j'.g⟩
      exact ⟨hG', csI1_ok jn (Nat.le_refl _) hG', fun a w r => ih true _ (by show ((n : Int) - ((sgR (.lit 1) (oR (.lit 0)) (.lit 0) 18 19).app ρ').I 9).toNat < n + 1; rw [jn.i9]; omega) ⟨1, jn, Nat.le_refl _, sbI rfl s1, sbI rfl s2⟩ _ a w (.inl rfl) r⟩
    | true =>
      obtain ⟨i, j, h1, h21, h11⟩ := hJ
      have hi := j.le
      by_cases hlt : i < n
      · have ei : at0.den ρ = some (i : Int) := varD j.i9
        refine ⟨true, [TR true], (fI true ++ inH (iT at0)) ++ (TR true).cs, _, CRel_app.2 ⟨CRel_app.2 ⟨j.lt (decide_eq_true hlt), j.inH (j.iT ei hlt) hlt⟩, hcs⟩, p_1, one (nextR rfl (fun l hl => by cases hl) fun ρ' hle hG' => ?_)⟩
        have j' := j.of_le hle
        obtain ⟨s1, s2⟩ := stepR (i := i) (a := at0) (c := .var 11) j'.jx hG' (varD j'.i9) hlt (by rw [hle.i]; exact h21) (varD (by rw [hle.i]; exact h11))
        have jn : JH x y n (i + 1) ((sgR (upI 9) (oR at0) (.var 11) 33 34).app ρ') := ⟨j'.i5, j'.i6, j'.i7, sbI (t := upI 9) rfl (upD (varD j'.i9) (by omega)), hlt, j'.g⟩
        exact ⟨hG', csI1_ok jn (by omega) hG', fun a w r => ih true _ (by show ((n : Int) - ((sgR (upI 9) (oR at0) (.var 11) 33 34).app ρ').I 9).toNat < ((n : Int) - ρ.I 9).toNat; rw [jn.i9, j.i9]; omega) ⟨i + 1, jn, by omega, sbI rfl s1, sbI rfl s2⟩ _ a w (.inl rfl) r⟩
      · obtain rfl : i = n := by omega
        refine ⟨true, [], fI false ++ (TR true).cs, _, CRel_app.2 ⟨j.lt (decide_eq_false hlt), hcs⟩, p_e, one (doneR (T := ⟨[(0, .tuple [.slice 13 (.lit 0) at0 (.nv 12), .ptr 14 (.lit 0)])], 1, [(14, mR), (13, oB at0)], 20, [], 0⟩) rfl (fun l hl => by cases hl) fun ρ' hle hG' => ⟨hG', c0, fun v w' r => ?_⟩)⟩
        obtain ⟨z, hz, he⟩ := r.t 0 _ rfl
        obtain rfl : v = z := Option.some.inj he
        have j' := j.of_le hle
        have g14 : (ofP [(14, mR), (13, oB at0)]).get 14 = some mR := rfl
        obtain ⟨Fp, hB⟩ := r.h.big
        obtain ⟨b, xv, hN, hxv, hf, h0⟩ := hB.ok _ _ _ _ (show (ofP [(14, mR), (13, oB at0)]).get 14 = some ⟨.big 0 (.var 21), true⟩ from rfl)
        have e21 : (sgRE.app ρ').I 21 = (stH x i).code := sbI (t := .var 21) rfl (varD (by rw [hle.i]; exact h21))
        obtain rfl : (stH x i).code = xv := by have := varD e21; rw [hxv] at this; exact (Option.some.inj this).symm
        cases hsl : (AVal.slice 13 (.lit 0) at0 (.nv 12)).den (sgRE.app ρ') with
        | none => simp only [AVal.den, AVal.denL] at hz hsl; rw [hsl] at hz; cases hz
        | some vr =>
          have hp : (AVal.ptr 14 (.lit 0)).den (sgRE.app ρ') = some (.pointer (some ⟨b, 0, none⟩)) := by simp only [AVal.den, hN]; rfl
          have hz' := tuple2_den hsl hp
          obtain rfl : Value.tuple #[vr, .pointer (some ⟨b, 0, none⟩)] = v := Option.some.inj (hz'.symm.trans hz)
          exact ⟨vr, b, Fp 14, rfl, row_out (l := 13) (j := 12) (nT := at0) (c := .var 11) rfl r.h rfl hsl (varD (sbI (t := .var 9) rfl (varD j'.i9))) (varD (sbI (t := .var 11) rfl (varD (by rw [hle.i]; exact h11)))), hf, h0 rfl⟩
  refine (calls_sumsE (β := ⟨w, [], GW⟩) (R := RepR w x n) (g := gM) (L := []) (Rs := eR) (Ts := [TR false]) (pl := true) noCount noExt spR_ok follows Try.func12 rfl p_in (denL2 (den_slice_of rfl rfl rfl rfl) (den_slice_of rfl rfl rfl rfl)) hr (csA_ok rfl rfl rfl hs.g (GW_env ..)) (one (nextR rfl (fun l hl => by cases hl) fun ρ' hle hG' => ?_)))
  have jn : JX x y n (sgR0.app ρ') := ⟨by show ρ'.I 5 = _; rw [hle.i]; rfl, by show ρ'.I 6 = _; rw [hle.i]; rfl, by show ρ'.I 7 = _; rw [hle.i]; rfl, hs.g⟩
  exact ⟨hG', jn.cs hG', fun a w r => loop false _ ⟨jn, sbI (t := m0T) rfl m0T_den⟩ _ a w (.inr rfl) r⟩
-- AS THE MACHINE TAKES IT
/-- For who looks at the answers alone. -/
def spRepW : SpG := fun args H nl cs => match args with
  | [.slice l0 (.lit (.ofNat 0)) n _, .slice l1 (.lit (.ofNat 0)) m _] => match hist2 H cs l0 n l1 m with
    | some (x, y) => some [.ret (.tuple [.slice (nl + 2) (.lit 0) n (.nv (nl + 1)), .ptr nl (.lit 0)]) (H.set (nl + 2) ⟨.arr (.code [.i64, .i64] (.fn 61 x y)) [.i64, .i64] 27 n (.lit 0) (some (.nv (nl + 1))), true⟩) (nl + 3) cs]
    | none => none
  | _ => none
/-- For who looks at the model alone. -/
def spRepL : SpG := fun args H nl cs => match args with
  | [.slice l0 (.lit (.ofNat 0)) n _, .slice l1 (.lit (.ofNat 0)) m _] => match hist2 H cs l0 n l1 m with
    | some (x, y) => some [.ret (.tuple [.slice (nl + 1) (.lit 0) n (.nv nl), .ptr (nl + 2) (.lit 0)]) (H.set (nl + 2) ⟨.big 0 (.fn 62 x y), true⟩) (nl + 3) cs]
    | none => none
  | _ => none
/-- The values of such arguments. -/
theorem hist_args {ρ : Env} {w : World} {l0 l1 b0 b1 N : Nat} {n m q q' : IT} {xs : List Value} (hx : AVal.denL ρ [.slice l0 (.lit 0) n q, .slice l1 (.lit 0) m q'] = some xs) (k0 : ρ.N l0 = some b0) (k1 : ρ.N l1 = some b1) (k4 : n.den ρ = some (N : Int)) (k5 : m.den ρ = some (N : Int)) :
    ∃ q0 q1 : Nat, xs = [.slice (some ⟨b0, 0, none⟩) N q0, .slice (some ⟨b1, 0, none⟩) N q1] := by
  have one : ∀ {l b : Nat} {n q : IT} {v : Value}, (AVal.slice l (.lit 0) n q).den ρ = some v → ρ.N l = some b → n.den ρ = some (N : Int) → ∃ q0 : Nat, v = .slice (some ⟨b, 0, none⟩) N q0 := fun {l b n q v} h kb kn => by
    obtain ⟨b', o, N', q0, rfl, e1, e2, e3, e4⟩ := den_slice h
    rw [kb] at e1; cases e1
    obtain rfl : o = 0 := by have := Option.some.inj e2; exact (Int.ofNat.inj this).symm
    obtain rfl : N' = N := by have := e3.symm.trans kn; exact Int.ofNat.inj (Option.some.inj this)
    exact ⟨q0, rfl⟩
  cases h1 : (AVal.slice l0 (.lit 0) n q).den ρ with
  | none => simp only [AVal.denL, h1] at hx; cases hx
  | some v1 =>
    cases h2 : (AVal.slice l1 (.lit 0) m q').den ρ with
    | none => simp only [AVal.denL, h1, h2] at hx; cases hx
    | some v2 =>
      obtain ⟨q0, rfl⟩ := one h1 k0 k4
      obtain ⟨q1, rfl⟩ := one h2 k1 k5
      exact ⟨q0, q1, Option.some.inj (hx.symm.trans (denL2 h1 h2))⟩
theorem spRepW_ok {β : Base} (hG : ∀ I B S V F, β.G I B S V F → GW I B S V F) : SpGOk Try.prog β 12 spRepW := by
  intro args H nl cs ls ρ w xs hr hx hh hc
  unfold spRepW at hr
  split at hr
  rotate_left
  · cases hr
  rename_i l0 n q l1 m q'
  split at hr
  rotate_left
  · cases hr
  rename_i x y hh2
  cases hr
  obtain ⟨b0, b1, xv, yv, N, k0, k1, k2, k3, k4, k5, hs⟩ := hist2_ok hh hc hG hh2
  obtain ⟨q0, q1, rfl⟩ := hist_args (w := w) hx k0 k1 k4 k5
  refine (replay12 (q0 := q0) (q1 := q1) hs).mono fun e w' ⟨v, he, vr, b, F', hv, ro, hf, hF⟩ => ?_
  have h1 := hh.num b
  have hle1 : ρ.Le (ρ.put nl b) := Env.le_put (hh.fresh nl (Nat.le_refl _))
  have e61 : (IT.fn 61 x y).den (ρ.put nl b) = some (encL (outH xv N)) := by
    refine IT.den_mono hle1 ?_
    rw [fnD k2 k3, (hG _ _ _ _ _ hh.g).2.1, outF, goodLen hs.g]
  obtain ⟨ρ', hle, hd, hr'⟩ := row_in h1 ro (IT.den_mono hle1 k4) e61
  have hN : ρ'.N nl = some b := hle.n _ _ (Env.put_same ..)
  exact ⟨v, he, _, _, _, _, ρ', List.mem_cons_self, hle1.trans hle, by rw [hv]; exact tuple2_den hd (by simp only [AVal.den, hN]; rfl), hr', hc.mono (hle1.trans hle)⟩
theorem spRepL_ok {β : Base} (hG : ∀ I B S V F, β.G I B S V F → GW I B S V F) : SpGOk Try.prog β 12 spRepL := by
  intro args H nl cs ls ρ w xs hr hx hh hc
  unfold spRepL at hr
  split at hr
  rotate_left
  · cases hr
  rename_i l0 n q l1 m q'
  split at hr
  rotate_left
  · cases hr
  rename_i x y hh2
  cases hr
  obtain ⟨b0, b1, xv, yv, N, k0, k1, k2, k3, k4, k5, hs⟩ := hist2_ok hh hc hG hh2
  obtain ⟨q0, q1, rfl⟩ := hist_args (w := w) hx k0 k1 k4 k5
  refine (replay12 (q0 := q0) (q1 := q1) hs).mono fun e w' ⟨v, he, vr, b, F', hv, ro, hf, hF⟩ => ?_
  obtain ⟨br, cap, _, _, rfl, _⟩ := ro.row
  have h1 := (hh.num cap).num br
  have hle1 : ρ.Le (ρ.put nl cap) := Env.le_put (hh.fresh nl (Nat.le_refl _))
  have hle2 : (ρ.put nl cap).Le ((ρ.put nl cap).put (nl + 1) br) := Env.le_put ((hh.num cap).fresh _ (Nat.le_refl _))
  have hle := hle1.trans hle2
  have e62 : (IT.fn 62 x y).den ((ρ.put nl cap).put (nl + 1) br) = some (stH xv N).code := by
    refine IT.den_mono hle ?_
    rw [fnD k2 k3, (hG _ _ _ _ _ hh.g).2.2.1, stF, goodLen hs.g]
  have hh' := h1.bigNew ro.fr hf hF e62
  have hle3 : ((ρ.put nl cap).put (nl + 1) br).Le (((ρ.put nl cap).put (nl + 1) br).put (nl + 1 + 1) b) := Env.le_put (h1.fresh _ (Nat.le_refl _))
  have hN1 : (((ρ.put nl cap).put (nl + 1) br).put (nl + 1 + 1) b).N (nl + 1) = some br := hle3.n _ _ (Env.put_same ..)
  have hN0 : (((ρ.put nl cap).put (nl + 1) br).put (nl + 1 + 1) b).N nl = some cap := (hle2.trans hle3).n _ _ (Env.put_same ..)
  exact ⟨v, he, _, _, _, _, _, List.mem_cons_self, hle.trans hle3, by rw [hv]; exact tuple2_den (den_slice_of hN1 rfl (IT.den_mono (hle.trans hle3) k4) (nvD hN0)) (by simp only [AVal.den, Env.put_same]; rfl), hh', hc.mono (hle.trans hle3)⟩
end Lm
end Go.Proofs.Ytpgonpjakllnjaa
