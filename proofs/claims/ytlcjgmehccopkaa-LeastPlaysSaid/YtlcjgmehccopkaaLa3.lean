/-
  LeastPlays (3): the reference's Take.
-/
import Derived.Test.YtlcjgmehccopkaaLa2
namespace Go.Proofs.Ytlcjgmehccopkaa
open Go.Vm Go.Vm.Le
namespace La
open Lp

def hasF (c n : Int) : Int := if n ∈ decL c then 1 else 0
def GR : GP := fun _ _ _ _ F => F 88 = hasF
theorem leqC {ρ : Env} {cs : Cs} {n : IT} {z x : Int} (h : sureC cs (.cmp .leq n (.lit z)) = true) (hc : CRel ρ cs) (hn : n.den ρ = some x) : x ≤ z := by
  have := Go.Vm.sureC_ok h hc
  rw [cmpD hn (litD z)] at this
  simpa only [intCmp, Option.some.injEq, decide_eq_true_eq] using this
theorem geqC {ρ : Env} {cs : Cs} {n : IT} {z x : Int} (h : sureC cs (.cmp .geq n (.lit z)) = true) (hc : CRel ρ cs) (hn : n.den ρ = some x) : z ≤ x := by
  have := Go.Vm.sureC_ok h hc
  rw [cmpD hn (litD z)] at this
  simpa only [intCmp, Option.some.injEq, decide_eq_true_eq] using this
/-- What a stock's parts are, where its value is known. -/
theorem agg3 {ρ : Env} {a b c : AVal} {x : Value} (h : (AVal.agg [a, b, c]).den ρ = some x) : ∃ p q r, a.den ρ = some p ∧ b.den ρ = some q ∧ c.den ρ = some r ∧ x = .agg #[p, q, r] := by
  simp only [AVal.den, AVal.denL] at h
  cases ha : a.den ρ with
  | none => simp [ha] at h
  | some p => cases hb : b.den ρ with
    | none => simp [ha, hb] at h
    | some q => cases hc : c.den ρ with
      | none => simp [ha, hb, hc] at h
      | some r =>
        refine ⟨p, q, r, rfl, rfl, rfl, ?_⟩
        simp only [ha, hb, hc] at h
        exact (Option.some.inj h).symm
theorem two {ρ : Env} {a b : AVal} {xs : List Value} (h : AVal.denL ρ [a, b] = some xs) : ∃ x y, a.den ρ = some x ∧ b.den ρ = some y ∧ xs = [x, y] := by
  simp only [AVal.denL] at h
  cases ha : a.den ρ with
  | none => simp [ha] at h
  | some p => cases hb : b.den ρ with
    | none => simp [ha, hb] at h
    | some q =>
      simp only [ha, hb] at h
      exact ⟨p, q, rfl, rfl, (Option.some.inj h).symm⟩
theorem aggD {ρ : Env} {a b c : AVal} {p q r : Value} (ha : a.den ρ = some p) (hb : b.den ρ = some q) (hc : c.den ρ = some r) : (AVal.agg [a, b, c]).den ρ = some (.agg #[p, q, r]) := by
  simp only [AVal.den, AVal.denL, ha, hb, hc, Option.map_some]
theorem tupD {ρ : Env} {a b : AVal} {p q : Value} (ha : a.den ρ = some p) (hb : b.den ρ = some q) : (AVal.tuple [a, b]).den ρ = some (.tuple #[p, q]) := by
  simp only [AVal.den, AVal.denL, ha, hb, Option.map_some]
theorem iVD {ρ : Env} {i : Nat} {x : Int} (h : ρ.I i = x) : (iV i).den ρ = some (.int .i64 x) := by
  simp only [iV, AVal.den, IT.den, h, Option.map_some]
/-- A row that the machine knows is one in the world. -/
theorem rowIn_of {β : Base} {ρ : Env} {H : Heap} {nl : Nat} {w : World} {l : Nat} {n cp c : IT} {el : TypeId} {cp' : Option IT} {rw : Bool} {v : Value} (hh : HRel β ρ H nl w) (hg : H.get l = some ⟨.arr (.code [.i64] c) [.i64] el n (.lit 0) cp', rw⟩) (hx : (AVal.slice l (.lit 0) n cp).den ρ = some v) (h1 : ∀ x, n.den ρ = some x → 1 ≤ x) :
    ∃ y : Int, c.den ρ = some y ∧ n.den ρ = some ((decL y).length : Int) ∧ decL y ≠ [] ∧ RowIn w v (decL y) := by
  obtain ⟨b, o, m, cap, y, rfl, hn, hy, hl, ⟨c0, fr, el', hob, h4, hp⟩, _⟩ := whole_row hh hg rfl hx
  obtain ⟨_, o', _, _, he, _, ho, _, _⟩ := den_slice hx
  cases he
  obtain rfl : o = 0 := by have := Option.some.inj ho; exact (Int.ofNat.inj this).symm
  have hm : m = (decL y).length := by rw [hl]; exact (Nat.mul_one m).symm
  subst hm
  have hne : decL y ≠ [] := by
    have := h1 _ hn
    intro e; rw [e] at this; simp at this
  exact ⟨y, hy, hn, hne, .inr ⟨hne, b, cap, c0, el', fr, rfl, hob, by rw [← rowOf1]; simpa using hp⟩⟩
theorem sp16_ok {β : Base} (hG : ∀ I B S V F, β.G I B S V F → F 88 = hasF) : SpGOk Try.prog β 16 spHas := by
  intro args H nl cs ls ρ w xs hr hx hh hc
  unfold spHas at hr
  split at hr
  · cases hr
    obtain ⟨x, y, h1, h2, rfl⟩ := two hx
    obtain ⟨p, q, r, hp, hq, hr3, rfl⟩ := agg3 h1
    obtain ⟨z, rfl, hz⟩ := den_int h2
    obtain ⟨a, rfl, ha⟩ := den_int hp
    obtain ⟨b, rfl, hb⟩ := den_int hq
    cases hr3
    exact spV_ok ((has16 (most := a) (h := b) z (.inl ⟨rfl, rfl⟩) (by simp)).mono fun e w' ⟨x, he, hx, hf⟩ => ⟨by rw [he, hx]; simp, hf⟩) rfl hh hc
  · rename_i l len cp n
    split at hr
    rotate_left
    · cases hr
    rename_i c el len' cp' rw hg
    cases hb : (IT.beq len len' && sureC cs (.cmp .geq len (.lit 1)) && sureC cs (.cmp .leq len (.lit 70000))) with
    | false => rw [hb] at hr; cases hr
    | true =>
      rw [hb] at hr; cases hr
      simp only [Bool.and_eq_true] at hb
      obtain ⟨⟨h3, h4⟩, h5⟩ := hb
      obtain rfl := IT.beq_eq h3
      obtain ⟨x, y, h1, h2, rfl⟩ := two hx
      obtain ⟨p, q, r, hp, hq, hr3, rfl⟩ := agg3 h1
      obtain ⟨z, rfl, hz⟩ := den_int h2
      obtain ⟨a, rfl, ha⟩ := den_int hp
      obtain ⟨b, rfl, hb⟩ := den_int hq
      obtain ⟨k, hk, hlen, hne, hin⟩ := rowIn_of hh hg hr3 fun x hx => geqC h4 hc hx
      have h70 : (decL k).length ≤ 70000 := by have := leqC h5 hc hlen; omega
      have e88 : (IT.fn 88 c n).den ρ = some (if z ∈ decL k then 1 else 0) := by rw [fnD hk hz, hG _ _ _ _ _ hh.g]; rfl
      have eb : (BT.cmp .eql (.fn 88 c n) (.lit 1)).den ρ = some (decide (z ∈ decL k)) := by
        by_cases hz : z ∈ decL k
        · rw [if_pos hz] at e88; rw [eqlT e88 (litD 1) rfl, decide_eq_true hz]
        · rw [if_neg hz] at e88; rw [eqlF e88 (litD 1) (by omega), decide_eq_false hz]
      exact spV_ok ((has16 (most := a) (h := b) z hin h70).mono fun e w' ⟨x, he, hx, hf⟩ => ⟨by rw [he, hx], hf⟩) (by simp only [AVal.den, eb, Option.map_some]) hh hc
  · cases hr
-- TAKE
noncomputable def tb0 : Code := ((loopsOf (Try.f14.body.getD .ret) []).getD 0 (.ret, [])).1
noncomputable def tk0 : List Item := ((loopsOf (Try.f14.body.getD .ret) []).getD 0 (.ret, [])).2
def n0 (z : Bool) : List (Nat × Nat) := cond z [(0, 0)] []
def sT (z : Bool) (t : IT) : Sub := ⟨[(2, t)], [], [], [], [(1, 1), (2, 2)] ++ n0 z⟩
def sTd (z b : Bool) : Sub := ⟨[(7, cond b (.var 2) (.var 35)), (8, cond z (.bin .add .i64 (.var 30) (.lit 1)) (.lit 1)), (9, .var 2), (10, .un 3 (cond z (.var 33) (.lit 0)) (.var 2))], [], [], [], cond z [(11, 8), (10, 7)] [(11, 6), (10, 5)]⟩
noncomputable def RunT (z : Bool) (c : Cs) (l : LM) : Prop := (run Try.prog [] sp14 4000 true 14 ((⟨(K0 z).tm, (K0 z).nt, (K0 z).H, (K0 z).nl, c ++ (K0 z).cs, (K0 z).dep⟩ : Tpl).st (.code tb0 :: .inLoop tb0 :: tk0))).map (·.filterMap (sumMD gA [] (eK z) [K0 z])) = some [l]
theorem t_in (z : Bool) : (run Try.prog [] sp14 4000 true 14 (entry Try.f14 (Try.f14.body.getD .ret) [stA z] (ofP (lH z)) 1 (csT z))).map (·.filterMap (sumMD gA [] (eK z) [K0 z])) = some [.next 0 (.code (.loop tb0) :: tk0) [] (sT z (.lit 1))] := by cases z <;> kernel_rfl
theorem t_none (z : Bool) : RunT z (fm false) (.done 1 [] ⟨[], [], [], [], n0 z⟩) := by cases z <;> (unfold RunT; kernel_rfl)
theorem t_there : RunT true (fm true ++ fh true true) (.next 0 (.inLoop tb0 :: tk0) [] (sT true (.bin .add .i64 (.var 2) (.lit 1)))) := by unfold RunT; kernel_rfl
theorem t_take (z b : Bool) : RunT z (fm true ++ fh z false ++ fg b) (.done 0 [] (sTd z b)) := by cases z <;> cases b <;> (unfold RunT; kernel_rfl)
structure Jt (most h : Int) (K : List Int) (z : Bool) (i : Nat) (ρ : Env) : Prop where
  m34 : ρ.I 34 = most
  h35 : ρ.I 35 = h
  k33 : z = true → ρ.I 33 = encL K ∧ ρ.I 30 = K.length
  i2 : ρ.I 2 = (i : Int)
  i1 : 1 ≤ i
  al : ∀ j : Int, 1 ≤ j → j < i → j ∈ K
theorem Jt.of_le {most h : Int} {K : List Int} {z : Bool} {i : Nat} {ρ ρ' : Env} (j : Jt most h K z i ρ) (g : ρ.Le ρ') : Jt most h K z i ρ' := ⟨by rw [g.i]; exact j.m34, by rw [g.i]; exact j.h35, by rw [g.i]; exact j.k33, by rw [g.i]; exact j.i2, j.i1, j.al⟩
/-- What the reference's Take answers. -/
def TakeO (w : World) (most h : Int) (v : Value) (K : List Int) (x : Value) (w' : World) : Prop :=
  (lf most K = 0 ∧ x = .tuple #[stV most h v, .int .i64 0] ∧ Framed w w') ∨
  (lf most K ≠ 0 ∧ ∃ v', x = .tuple #[stV most (if h < lf most K then lf most K else h) v', .int .i64 (lf most K)] ∧ RowOut w w' v' 3 [.i64] (K ++ [lf most K]) (K.length + 1))
theorem sp14_ok (w : World) : CallOk Try.prog ⟨w, [], GR⟩ sp14 := spL_ok fun p hp => by
  rw [List.mem_singleton.1 hp]; exact sp16_ok fun _ _ _ _ _ h => h
theorem hasF_enc (K : List Int) (n : Int) : hasF (encL K) n = if n ∈ K then 1 else 0 := by simp only [hasF, decL_encL]
section
variable (w0 : World) {most h : Int} {K : List Int} {z : Bool} {v : Value}
theorem csT_ok {ρ : Env} (hz : z = true → K ≠ [] ∧ K.length ≤ 70000) (h3 : z = true → ρ.I 33 = encL K ∧ ρ.I 30 = K.length) : CRel ρ (csT z) := by
  cases z with
  | false => exact c0
  | true => exact csL_ok (h3 rfl).2 (hz rfl).1 (hz rfl).2
theorem takeEnd {ρ : Env} {i : Nat} {b : Bool} (hz : z = true → K ≠ [] ∧ K.length ≤ 70000) (hn : z = false → K = []) (j : Jt most h K z i ρ) (hi : (i : Int) ≤ most) (hK : (i : Int) ∉ K) (hb : b = decide (h < i)) :
    MGoodO Try.prog ⟨w0, [], GR⟩ 14 (TakeO w0 most h v K) (eK z) [K0 z] ρ (.done 0 [] (sTd z b)) := by
  have i1 := j.i1
  have hlf : lf most K = (i : Int) := lf_eq (by omega) hi hK fun q h1 h2 => j.al q h1 h2
  refine doneR rfl (fun l hl => by cases hl) fun ρ' hle hG => ⟨hG, c0, fun x w' r => ?_⟩
  have jl := j.of_le hle
  obtain ⟨y, hy, he⟩ := r.t 0 _ rfl
  obtain rfl : x = y := Option.some.inj he
  have l34 : lk (sTd z b).I 34 = none := by cases z <;> rfl
  have d34 : ((sTd z b).app ρ').I 34 = most := by rw [app_I l34]; exact jl.m34
  have d7 : ((sTd z b).app ρ').I 7 = if h < (i : Int) then (i : Int) else h := by
    subst hb
    by_cases hh : h < (i : Int)
    · rw [if_pos hh]; exact sbI (t := .var 2) (by rw [decide_eq_true hh]; cases z <;> rfl) (varD jl.i2)
    · rw [if_neg hh]; exact sbI (t := .var 35) (by rw [decide_eq_false hh]; cases z <;> rfl) (varD jl.h35)
  have d9 : ((sTd z b).app ρ').I 9 = (i : Int) := sbI (t := .var 2) (by cases z <;> rfl) (varD jl.i2)
  have d8 : ((sTd z b).app ρ').I 8 = ((K.length + 1 : Nat) : Int) := by
    cases z with
    | false => rw [hn rfl]; exact sbI (t := .lit 1) rfl rfl
    | true => exact sbI (t := .bin .add .i64 (.var 30) (.lit 1)) rfl (upD (varD (jl.k33 rfl).2) (by have := (hz rfl).2; omega))
  have d10 : ((sTd z b).app ρ').I 10 = encL (K ++ [(i : Int)]) := by
    cases z with
    | false =>
      rw [hn rfl]
      refine sbI (t := .un 3 (.lit 0) (.var 2)) rfl ((unD (litD 0) (varD jl.i2)).trans ?_)
      show some (encL (decL 0 ++ [(i : Int)])) = _
      rw [decL_zero]
    | true =>
      refine sbI (t := .un 3 (.var 33) (.var 2)) rfl ((unD (varD (jl.k33 rfl).1) (varD jl.i2)).trans ?_)
      show some (encL (decL (encL K) ++ [(i : Int)])) = _
      rw [decL_encL]
  generalize (sTd z b).app ρ' = σ at hy r d34 d7 d9 d8 d10
  obtain ⟨ts, hts⟩ : ∃ ts, (AVal.slice 11 (.lit 0) (.var 8) (.nv 10)).den σ = some ts := by
    cases hs : (AVal.slice 11 (.lit 0) (.var 8) (.nv 10)).den σ with
    | some ts => exact ⟨ts, rfl⟩
    | none => simp only [iV, AVal.den, AVal.denL] at hy hs; rw [hs] at hy; simp [IT.den] at hy
  have ho := row_out rfl r.h (l := 11) (j := 10) (nT := .var 8) (c := .var 10) (m := K.length + 1) (L := K ++ [(i : Int)]) rfl hts (varD d8) (varD d10)
  refine .inr ⟨by rw [hlf]; omega, ts, ?_, by rw [hlf]; exact ho⟩
  rw [hlf]
  exact Option.some.inj (hy.symm.trans (tupD (aggD (iVD d34) (iVD d7) hts) (iVD d9)))
theorem lvA_keep {ρ σ : Env} (h : (lvA z).den ρ = some v) (h30 : σ.I 30 = ρ.I 30) (h32 : σ.I 32 = ρ.I 32) (hN : z = true → σ.N 0 = ρ.N 0) : (lvA z).den σ = some v := by
  cases z with
  | false => exact h
  | true =>
    simp only [lvA, cond_true, AVal.den, IT.den] at h ⊢
    rw [hN rfl, h30, h32]; exact h
theorem noneEnd {ρ : Env} {i : Nat} (hv : (lvA z).den ρ = some v) (j : Jt most h K z i ρ) (h0 : lf most K = 0) :
    MGoodO Try.prog ⟨w0, [], GR⟩ 14 (TakeO w0 most h v K) (eK z) [K0 z] ρ (.done 1 [] ⟨[], [], [], [], n0 z⟩) := by
  refine doneR rfl (fun l hl => by cases hl) fun ρ' hle hG => ⟨hG, c0, fun x w' r => ?_⟩
  have jl := j.of_le hle
  obtain ⟨y, hy, he⟩ := r.t 0 _ rfl
  obtain rfl : x = y := Option.some.inj he
  have d34 : ((⟨[], [], [], [], n0 z⟩ : Sub).app ρ').I 34 = most := by rw [app_I rfl]; exact jl.m34
  have d35 : ((⟨[], [], [], [], n0 z⟩ : Sub).app ρ').I 35 = h := by rw [app_I rfl]; exact jl.h35
  have dv : (lvA z).den ((⟨[], [], [], [], n0 z⟩ : Sub).app ρ') = some v := lvA_keep (AVal.den_mono hle _ hv) (app_I rfl) (app_I rfl) fun e => by subst e; rfl
  exact .inl ⟨h0, Option.some.inj (hy.symm.trans (tupD (aggD (iVD d34) (iVD d35) dv) rfl)), Framed.of r.h⟩
theorem sT_next {ρ' : Env} {i : Nat} {t : IT} (m34 : ρ'.I 34 = most) (h35 : ρ'.I 35 = h) (k33 : z = true → ρ'.I 33 = encL K ∧ ρ'.I 30 = K.length) (ht : t.den ρ' = some (i : Int)) (i1 : 1 ≤ i) (al : ∀ j : Int, 1 ≤ j → j < i → j ∈ K) : Jt most h K z i ((sT z t).app ρ') :=
  ⟨by rw [app_I rfl]; exact m34, by rw [app_I rfl]; exact h35, by rw [app_I rfl, app_I rfl]; exact k33, sbI (t := t) rfl ht, i1, al⟩
theorem loopT (hz : z = true → K ≠ [] ∧ K.length ≤ 70000) (hn : z = false → K = []) (hm1 : most ≤ 65535) : ∀ ρ, ((lvA z).den ρ = some v ∧ ∃ i, Jt most h K z i ρ) → ∀ todo a w, todo = .inLoop tb0 :: tk0 ∨ todo = .code (.loop tb0) :: tk0 → SRel ⟨w0, [], GR⟩ ρ ((K0 z).st todo) a w → Goes Try.prog 14 (fun e w' => TakeO w0 most h v K e w') todo a w := by
  refine loop_goesE (R := TakeO w0 most h v K) (n := 4000) (g := gA) (L := []) (pl := true) (Rs := eK z) (Ts := [K0 z]) (β := ⟨w0, [], GR⟩) noCount noExt (sp14_ok w0) follows (fun ρ => (lvA z).den ρ = some v ∧ ∃ i, Jt most h K z i ρ) (fun ρ => (most + 1 - ρ.I 2).toNat) (fun ρ hJ hH hcs hG ih => ?_)
  obtain ⟨hv, i, j⟩ := hJ
  have i1 := j.i1
  have e2 := varD j.i2
  have e34 := varD j.m34
  by_cases hi : (i : Int) ≤ most
  · have f1 : CRel ρ (fm true) := c1 (leqT e2 e34 hi) c0
    have e88 : z = true → (IT.fn 88 (.var 33) (.var 2)).den ρ = some (if (i : Int) ∈ K then 1 else 0) := fun e => by
      have hG : ρ.F 88 = hasF := hG
      rw [fnD (varD (j.k33 e).1) e2, hG, hasF_enc]
    by_cases hK : (i : Int) ∈ K
    · have hzt : z = true := by
        cases z with
        | true => rfl
        | false => rw [hn rfl] at hK; cases hK
      subst hzt
      refine ⟨_, _, CRel_app.2 ⟨CRel_app.2 ⟨f1, c1 (eqlT (e88 rfl) (litD 1) (if_pos hK)) c0⟩, hcs⟩, t_there, one (nextR (T := K0 true) rfl (fun l hl => by cases hl) fun ρ' hle hG' => ?_)⟩
      have jl := j.of_le hle
      have h' : Jt most h K true (i + 1) ((sT true (.bin .add .i64 (.var 2) (.lit 1))).app ρ') := sT_next jl.m34 jl.h35 jl.k33 (upD (varD jl.i2) (by omega)) (by omega) fun q h1 h2 => by
        rcases Int.lt_or_le q i with h3 | h3
        · exact j.al q h1 h3
        · have : q = i := by omega
          subst this; exact hK
      refine ⟨hG', csT_ok hz h'.k33, fun a w r => ih _ ?_ ⟨lvA_keep (AVal.den_mono hle _ hv) (app_I rfl) (app_I rfl) (fun _ => rfl), i + 1, h'⟩ _ a w (.inl rfl) r⟩
      rw [h'.i2, j.i2]; omega
    · have f2 : CRel ρ (fh z false) := by
        cases z with
        | false => exact c0
        | true => exact c1 (eqlF (e88 rfl) (litD 1) (by rw [if_neg hK]; omega)) c0
      by_cases hg : h < (i : Int)
      · exact ⟨_, _, CRel_app.2 ⟨CRel_app.2 ⟨CRel_app.2 ⟨f1, f2⟩, c1 (gtrT e2 (varD j.h35) hg) c0⟩, hcs⟩, t_take z true, one (takeEnd w0 hz hn j hi hK (decide_eq_true hg).symm)⟩
      · exact ⟨_, _, CRel_app.2 ⟨CRel_app.2 ⟨CRel_app.2 ⟨f1, f2⟩, c1 (gtrF e2 (varD j.h35) (by omega)) c0⟩, hcs⟩, t_take z false, one (takeEnd w0 hz hn j hi hK (decide_eq_false hg).symm)⟩
  · exact ⟨_, _, CRel_app.2 ⟨c1 (leqF e2 e34 (by omega)) c0, hcs⟩, t_none z, one (noneEnd w0 hv j (lf_zero fun q h1 h2 => j.al q h1 (by omega)))⟩
end
theorem take14 {w : World} {most h : Int} {v : Value} {K : List Int} (r : RowIn w v K) (hK : K.length ≤ 70000) (hm1 : most ≤ 65535) : Calls Try.prog 14 #[stV most h v] w (fun e w' => ∃ x, e = .returned x ∧ TakeO w most h v K x w') := by
  obtain ⟨z, ρ, hz, hn, hr, m34, h35, k33, hv⟩ : ∃ (z : Bool) (ρ : Env), (z = true → K ≠ [] ∧ K.length ≤ 70000) ∧ (z = false → K = []) ∧ HRel ⟨w, [], GR⟩ ρ (ofP (lH z)) 1 w ∧ ρ.I 34 = most ∧ ρ.I 35 = h ∧ (z = true → ρ.I 33 = encL K ∧ ρ.I 30 = K.length) ∧ (lvA z).den ρ = some v := by
    rcases r with ⟨rfl, rfl⟩ | ⟨h0, b, cap, c, el, fr, rfl, hob, hp⟩
    · exact ⟨false, ⟨(envR most h 0 [] 0 0).I, fun _ => false, fun _ => default, fun _ => undef, fun _ => none, fun k => if k = 88 then hasF else fun _ _ => 0⟩, (fun e => by cases e), fun _ => rfl, HRel.ro [] (fun p hp' => by cases hp') (fun i hi => rfl) rfl, rfl, rfl, (fun e => by cases e), rfl⟩
    · refine ⟨true, ⟨(envR most h 0 K b cap).I, fun _ => false, fun _ => default, fun _ => undef, (envR most h 0 K b cap).N, fun k => if k = 88 then hasF else fun _ _ => 0⟩, fun _ => ⟨h0, hK⟩, (fun e => by cases e), HRel.ro (lL true) (fun p hp' => ?_) (fun i hi => if_neg (by omega)) rfl, rfl, rfl, fun _ => ⟨rfl, rfl⟩, den_slice_of rfl rfl rfl rfl⟩
      simp only [lL, cond_true, List.mem_singleton] at hp'
      subst hp'
      exact ⟨b, _, rfl, hob, lvB_rel rfl rfl hp⟩
  refine calls_sumsE (R := TakeO w most h v K) (β := ⟨w, [], GR⟩) (g := gA) (L := []) (Rs := eK z) (Ts := [K0 z]) (pl := true) noCount noExt (sp14_ok w) follows Try.func14 rfl (t_in z) (denL1 (a := stA z) (aggD (iVD m34) (iVD h35) hv)) hr (csT_ok hz k33) (one (nextR (T := K0 z) rfl (fun l hl => by cases hl) fun ρ' hle hG' => ?_))
  have h' : Jt most h K z 1 ((sT z (.lit 1)).app ρ') := sT_next (by rw [hle.i]; exact m34) (by rw [hle.i]; exact h35) (by rw [hle.i]; exact k33) (litD 1) (Nat.le_refl _) fun q h1 h2 => by omega
  exact ⟨hG', csT_ok hz h'.k33, fun a w1 r => loopT w hz hn hm1 _ ⟨lvA_keep (AVal.den_mono hle _ hv) (app_I rfl) (app_I rfl) (fun e => by subst e; rfl), 1, h'⟩ _ a w1 (.inr rfl) r⟩
end La
end Go.Proofs.Ytlcjgmehccopkaa
