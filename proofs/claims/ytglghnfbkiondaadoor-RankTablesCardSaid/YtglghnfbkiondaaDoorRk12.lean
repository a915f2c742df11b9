/-
  Ranks (11): specs of the reference's Rising and Class.
-/
import Derived.Test.YtglghnfbkiondaaDoorRk8
import Derived.Test.YtglghnfbkiondaaDoorRk10
section
namespace Go.Proofs.YtglghnfbkiondaaDoor
open Go.Vm Go.Vm.Rk
namespace Rk

/-- The class of a number has a name, too. -/
def GT : GP := fun I B S V F => GL I B S V F ∧ F 49 = fun x _ => (clsOf x : Int)
def FT : Nat → Int → Int → Int := fun k => if k = 49 then (fun x _ => (clsOf x : Int)) else FR k
theorem GT_at {L : List Int} (hR : ∀ v ∈ L, Ran v) (b o q : Nat) : GP.at GT (envR L b o q FT) := ⟨⟨⟨rfl, rfl, rfl, rfl, rfl, rfl, rfl, rfl, rfl⟩, by
  show ∀ v ∈ decL (encL L), Ran v
  rw [decL_encL]; exact hR⟩, rfl⟩
def spRis : SpG := fun args H nl cs => match args with
  | [.slice l off n _] => match H.get l with
    | some ⟨.arr (.code ks c) ks' _ n0 off0 _, _⟩ => cond (okRow cs ks ks' n n0 off off0)
      (some [.ret (.slice (nl + 1) (.lit 0) n (.nv nl)) (H.set (nl + 1) ⟨.arr (.code [.i64] (fnT 40 c)) [.i64] 3 n (.lit 0) (some (.nv nl)), true⟩) (nl + 2) cs]) none
    | _ => none
  | _ => none
theorem spRis_ok {β : Base} (hG : ∀ I B S V F, β.G I B S V F → GR I B S V F) : SpGOk Tryd.prog β 21 spRis := by
  intro args H nl cs ls ρ w xs hr hx hh hc
  unfold spRis at hr
  split at hr
  rotate_left
  · cases hr
  rename_i l off n q
  split at hr
  rotate_left
  · cases hr
  rename_i ks c ks' el n0 off0 cp rw hg
  cases hb : okRow cs ks ks' n n0 off off0 with
  | false => rw [hb] at hr; cases hr
  | true =>
    rw [hb] at hr; cases hr
    obtain ⟨rfl, rfl, rfl, rfl⟩ := okRow_eq hb
    cases hs : (AVal.slice l off n q).den ρ with
    | none => simp only [AVal.denL, hs] at hx; cases hx
    | some sv =>
      obtain ⟨b, o, cap, xv, rfl, hcd, hn, hi⟩ := intsAt_of hh hg hs
      obtain rfl := Option.some.inj ((denL1 hs).symm.trans hx)
      obtain ⟨_, _, _, _, h1, h3⟩ := okRow_ok hb hc hn
      obtain ⟨g40, _⟩ := hG _ _ _ _ _ hh.g
      have d6 : (fnT 40 c).den ρ = some (encL (sortL (decL xv))) := by rw [fnT, fnD hcd (litD 0), g40]
      refine (rising21 (q := cap) hi h1 h3).mono fun e w' ⟨v, he, ro⟩ => ?_
      obtain ⟨ρ', hle, hd', hr'⟩ := row_in hh ro hn d6
      exact ⟨v, he, _, _, _, _, ρ', List.mem_cons_self, hle, hd', hr', hc.mono hle⟩
def spCl : SpG := fun args H nl cs => match args with
  | [.int .i64 (.un 0 (.var 5) t)] => some [.ret (.int .i64 (fnT 49 (.un 0 (.var 5) t))) H nl cs]
  | _ => none
theorem spCl_ok {β : Base} (hG : ∀ I B S V F, β.G I B S V F → GT I B S V F) : SpGOk Tryd.prog β 11 spCl := by
  intro args H nl cs ls ρ w xs hr hx hh hc
  unfold spCl at hr
  split at hr
  rotate_left
  · cases hr
  rename_i t
  cases hr
  obtain ⟨⟨_, hR⟩, g49⟩ := hG _ _ _ _ _ hh.g
  cases ht : t.den ρ with
  | none => simp only [AVal.denL, AVal.den, IT.den, ht, Option.map_none] at hx; cases hx
  | some z =>
    have e5 : (IT.var 5).den ρ = some (ρ.I 5) := rfl
    have e : (IT.un 0 (.var 5) t).den ρ = some ((decL (ρ.I 5)).getD z.toNat 0) := (unD e5 ht).trans rfl
    have hx' : AVal.denL ρ [.int .i64 (.un 0 (.var 5) t)] = some [.int .i64 ((decL (ρ.I 5)).getD z.toNat 0)] := denL1 (by simp only [AVal.den, e, Option.map_some])
    obtain rfl : [.int .i64 ((decL (ρ.I 5)).getD z.toNat 0)] = xs := Option.some.inj (hx'.symm.trans hx)
    have hr : Ran ((decL (ρ.I 5)).getD z.toNat 0) := by
      rcases Nat.lt_or_ge z.toNat (decL (ρ.I 5)).length with h | h
      · exact hR _ (getD_mem h)
      · rw [List.getD_eq_getElem?_getD, List.getElem?_eq_none h]; exact ⟨by decide, by decide⟩
    have d : (fnT 49 (.un 0 (.var 5) t)).den ρ = some (clsOf ((decL (ρ.I 5)).getD z.toNat 0) : Int) := by rw [fnT, fnD e (litD 0), g49]
    exact spV_ok (class11 w hr.1 hr.2) (by simp only [AVal.den, d, Option.map_some]) hh hc
end Rk
end Go.Proofs.YtglghnfbkiondaaDoor
end

/-
  Ranks (12): the reference's Of.
-/
section
namespace Go.Proofs.YtglghnfbkiondaaDoor
open Go.Vm Go.Vm.Rk
namespace Rk

def TQ : Tpl := ⟨[(2, .ptr 14 (.lit 0)), (3, .slice 17 (.lit 0) (.var 6) (.nv 16)), (4, iV 6), (5, iV 13), (16, .slice 17 (.lit 0) (.var 6) (.nv 16)), (17, iV 6), (18, iV 9)], 50, [(14, ⟨.cells (List.replicate 6 (.int .i64 (.lit 0))) 29 none, true⟩), (17, ⟨.arr (.code [.i64] sT) [.i64] 3 (.var 6) (.lit 0) (some (.nv 16)), true⟩)], 30, csI, 3⟩
def spQ : CallF := spL [(21, spRis)]
noncomputable def b10 : Code := ((loopsOf (Tryd.f10.body.getD .ret) []).getD 0 (.ret, [])).1
noncomputable def k10 : List Item := ((loopsOf (Tryd.f10.body.getD .ret) []).getD 0 (.ret, [])).2
def csQ : Cs := fI false ++ csO
def sgQ (t s : IT) (a c d : Nat) : Sub := ⟨[(6, .var 6), (13, s), (9, t), (5, .var 5)], [], [], [], [(14, a), (17, c), (16, d)]⟩
theorem q_in : (run Tryd.prog [] spQ 4000 true 10 (entry Tryd.f10 (Tryd.f10.body.getD .ret) [sL] (ofP (roH [hL])) 10 csN)).map (·.filterMap (sumD gM [TQ])) = some [.next 0 (.code (.loop b10) :: k10) [] (sgQ (.lit 0) (.lit 0) 10 12 11)] := by kernel_rfl
theorem q_1 : (run Tryd.prog [] spQ 4000 true 10 ((⟨TQ.tm, TQ.nt, TQ.H, TQ.nl, fI true ++ TQ.cs, TQ.dep⟩ : Tpl).st (.code b10 :: .inLoop b10 :: k10))).map (·.filterMap (sumD gM [TQ])) = some [.next 0 (.inLoop b10 :: k10) [] (sgQ (upI 9) (.bin .add .i64 (.var 13) (elS at0)) 14 17 16)] := by kernel_rfl
theorem q_e : (run Tryd.prog [] spQ 4000 true 10 ((⟨TQ.tm, TQ.nt, TQ.H, TQ.nl, csQ ++ TQ.cs, TQ.dep⟩ : Tpl).st (.code b10 :: .inLoop b10 :: k10))).map (·.filterMap (sumD gM [TQ])) = some [.ret (.agg (rk6 (.var 13))) []] := by kernel_rfl
theorem spQ_ok {w : World} : CallOk Tryd.prog ⟨w, [], GR⟩ spQ := spL_ok fun p hp => by
  rw [List.mem_singleton.1 hp]
  exact spRis_ok fun _ _ _ _ _ h => h
theorem of10 {w : World} {b o q : Nat} {L : List Int} (h : IntsAt w b o L) (h1 : 1 ≤ L.length) (h3 : L.length ≤ 300) : Calls Tryd.prog 10 #[.slice (some ⟨b, o, none⟩) L.length q] w fun e w' => e = .returned (rankV L) ∧ Framed w w' := by
  have hr := startR (q := q) (G := GR) (F := FR) h (GR_at ..)
  have loop := loop_goesD (P := Tryd.prog) (β := ⟨w, [], GR⟩) (f := 10) (Q := fun v => v = rankV L) (Ts := [TQ]) (T := TQ) (b := b10) (k := k10) (n := 4000) (g := gM) (pl := true) noCount noExt spQ_ok follows rfl (fun ρ => ∃ i, JO L i ρ) (fun ρ => ((L.length : Int) - ρ.I 9).toNat) fun ρ ⟨i, j⟩ _ hcs hG ih => by
    have hi := j.j.le
    by_cases hlt : i < L.length
    · refine ⟨fI true ++ TQ.cs, _, CRel_app.2 ⟨j.j.lt (decide_eq_true hlt), hcs⟩, q_1, Go.Vm.one (nextS rfl fun ρ' hle hG' => ?_)⟩
      have j' := j.of_le hle
      have es : (IT.bin .add .i64 (.var 13) (elS at0)).den ρ' = some (sumW L (i + 1)) := by
        refine (binD (varD j'.i13) (el_den (sT_den j'.j.n hG') (varD j'.j.i9))).trans ?_
        rfl
      have jn : JO L (i + 1) ((sgQ (upI 9) (.bin .add .i64 (.var 13) (elS at0)) 14 17 16).app ρ') := ⟨⟨⟨j'.j.n.i5, j'.j.n.i6, h1, h3⟩, sbI (t := upI 9) rfl (upD (varD j'.j.i9) (by omega)), hlt⟩, sbI rfl es⟩
      exact ⟨hG', jn.j.cs, fun a w' r => ih _ (by rw [jn.j.i9, j.j.i9]; omega) ⟨_, jn⟩ _ a w' (.inl rfl) r⟩
    · obtain rfl : i = L.length := by omega
      refine ⟨csQ ++ TQ.cs, _, CRel_app.2 ⟨CRel_app.2 ⟨j.j.lt (decide_eq_false hlt), csO_ok j.j.n⟩, hcs⟩, q_e, Go.Vm.one ?_⟩
      intro ρ' hle _ x hx
      have j' := j.of_le hle
      have hG' : GR.at ρ' := by
        have := hle.f
        unfold GP.at GR at hG ⊢
        rw [this]; exact hG
      have hs := sT_den j'.j.n hG'
      have d0 := el_den (t := .lit 0) (i := 0) hs rfl
      have d1 := el_den hs (last_den j'.j.n)
      have d2 := el_den hs (mid_den j'.j.n)
      have d3 := el_den hs (late_den j'.j.n)
      have d6 : (IT.var 6).den ρ' = some (L.length : Int) := varD j'.j.n.i6
      have d13 : (IT.var 13).den ρ' = some (sumW L L.length) := varD j'.i13
      have : (AVal.agg (rk6 (.var 13))).den ρ' = some (rankV L) := by
        simp only [rk6, iV, elS, AVal.den, AVal.denL, d0, d1, d2, d3, d6, d13, Option.map_some]; rfl
      exact Option.some.inj (hx.symm.trans this)
  refine (calls_sumsD (β := ⟨w, [], GR⟩) (Q := fun v => v = rankV L) (g := gM) (Ts := [TQ]) (pl := true) noCount noExt spQ_ok follows rfl Tryd.func10 rfl q_in (denL1 (den_slice_of rfl rfl rfl rfl)) hr (JN.cs ⟨rfl, rfl, h1, h3⟩) (Go.Vm.one (nextS rfl fun ρ' hle hG' => ?_))).mono fun e w' ⟨v, he, hv, hf⟩ => ⟨by rw [he, hv], hf⟩
  have jn : JO L 0 ((sgQ (.lit 0) (.lit 0) 10 12 11).app ρ') := ⟨⟨⟨by show ρ'.I 5 = _; rw [hle.i]; rfl, by show ρ'.I 6 = _; rw [hle.i]; rfl, h1, h3⟩, rfl, Nat.zero_le _⟩, rfl⟩
  exact ⟨hG', jn.j.cs, fun a w' r => loop _ ⟨_, jn⟩ _ a w' (.inr rfl) r⟩
theorem spRef_ok {β : Base} (hG : ∀ I B S V F, β.G I B S V F → GR I B S V F) : SpGOk Tryd.prog β 10 spOf := by
  intro args H nl cs ls ρ w xs hr hx hh hc
  unfold spOf at hr
  split at hr
  rotate_left
  · cases hr
  rename_i l off n q
  split at hr
  rotate_left
  · cases hr
  rename_i ks c ks' el n0 off0 cp rw hg
  cases hb : okRow cs ks ks' n n0 off off0 with
  | false => rw [hb] at hr; cases hr
  | true =>
    rw [hb] at hr; cases hr
    obtain ⟨rfl, rfl, rfl, rfl⟩ := okRow_eq hb
    cases hs : (AVal.slice l off n q).den ρ with
    | none => simp only [AVal.denL, hs] at hx; cases hx
    | some sv =>
      obtain ⟨b, o, cap, xv, rfl, hcd, hn, hi⟩ := intsAt_of hh hg hs
      obtain rfl := Option.some.inj ((denL1 hs).symm.trans hx)
      obtain ⟨_, _, _, _, h1, h3⟩ := okRow_ok hb hc hn
      obtain ⟨g40, g41, g42, g43, g44, g45, _⟩ := hG _ _ _ _ _ hh.g
      have d1 : (fnT 41 c).den ρ = some (least (decL xv)) := by rw [fnT, fnD hcd (litD 0), g41]
      have d2 : (fnT 42 c).den ρ = some (most (decL xv)) := by rw [fnT, fnD hcd (litD 0), g42]
      have d3 : (fnT 43 c).den ρ = some (sumW (decL xv) (decL xv).length) := by rw [fnT, fnD hcd (litD 0), g43]
      have d4 : (fnT 44 c).den ρ = some (mid (decL xv)) := by rw [fnT, fnD hcd (litD 0), g44]
      have d5 : (fnT 45 c).den ρ = some (late (decL xv)) := by rw [fnT, fnD hcd (litD 0), g45]
      exact spV_ok (of10 (q := cap) hi h1 h3) (by simp only [AVal.den, AVal.denL, hn, d1, d2, d3, d4, d5, Option.map_some]; rfl) hh hc
end Rk
end Go.Proofs.YtglghnfbkiondaaDoor
end
