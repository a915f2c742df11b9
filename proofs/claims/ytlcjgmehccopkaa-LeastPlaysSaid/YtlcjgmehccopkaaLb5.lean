/-
  LeastPlays: each round goes one of the ways, and what holds at its head holds at the next.
-/
import Derived.Test.YtlcjgmehccopkaaLb4
namespace Go.Proofs.Ytlcjgmehccopkaa
open Go.Vm Go.Vm.Le
namespace La
open Lp

section
variable {n : Nat} {most : Int} {p : Pat} {Ks : Nat → List Int} {i : Nat} {ρ : Env}
theorem Jw.fTake (j : Jw n most p Ks i ρ) (hG : GW.at ρ) {a : Nat} (ha : a < p.length) : CRel ρ (La.fTake p a (decide (lf most (Ks a) ≠ 0))) := by
  have s := j.st a ha
  have h0 := lf_nonneg most (Ks a)
  have e89 := j.f89 hG ha
  obtain ⟨⟨g80, _, _, _, _, _, g86, _⟩, _⟩ := hG
  have e80 : (IT.fn 80 (bigT a) (.lit 0)).den ρ = some (lf most (Ks a)) := by
    rw [fnD (show (bigT a).den ρ = some (ρ.I (40 + a)) from rfl) (litD 0), g80]; simp only [s.lfx]
  have e86 : (IT.fn 86 (bigT a) (.lit 0)).den ρ = some (if lf most (Ks a) = 0 then 20 else 0) := by
    rw [fnD (show (bigT a).den ρ = some (ρ.I (40 + a)) from rfl) (litD 0), g86]; simp only [s.lfx]
  by_cases hl : lf most (Ks a) = 0
  · rw [decide_eq_false (by simpa using hl)]
    rw [if_pos hl] at e86
    exact c1 (gtrF e89 (litD 0) (by omega)) (c1 (neqF e80 (litD 0) hl) (c1 (eqlF e86 (litD 0) (by omega)) (c1 (neqT e86 (litD 0) (by omega)) (c1 (neqF e86 (litD 20) rfl) c0))))
  · rw [decide_eq_true hl]
    rw [if_neg hl] at e86
    exact c1 (gtrT e89 (litD 0) (by omega)) (c1 (neqF e80 e89 rfl) (c1 (eqlT e86 (litD 0) rfl) (c1 (neqF e86 (litD 0) rfl) c0)))
theorem Jw.fGive (j : Jw n most p Ks i ρ) (hG : GW.at ρ) {a : Nat} (ha : a < p.length) {z : Int} (hz : numT.den ρ = some z) : CRel ρ (La.fGive p a (decide (z ∈ Ks a)) (decide (rest z (Ks a) ≠ []))) := by
  have s := j.st a ha
  obtain ⟨r, hr, hd⟩ := j.rowT ha
  obtain ⟨⟨_, _, _, _, _, _, _, g87⟩, g88, _, _, g92⟩ := hG
  have ex : sK (ρ.I (40 + a)) = Ks a := by rw [s.x, sK_enc]
  have e87 : (IT.fn 87 (bigT a) numT).den ρ = some (if z ∈ Ks a then 0 else 21) := by
    rw [fnD (show (bigT a).den ρ = some (ρ.I (40 + a)) from rfl) hz, g87]; simp only [ex]
  have e88 : (IT.fn 88 (La.rowT p a) numT).den ρ = some (if z ∈ Ks a then 1 else 0) := by
    rw [fnD hr hz, g88, hasF, hd]
  have e92 : (IT.fn 92 (La.rowT p a) numT).den ρ = some ((rest z (Ks a)).length : Int) := by
    rw [fnD hr hz, g92, restN, hd]
  refine CRel_app.2 ⟨c1 ?_ (c1 ?_ c0), ?_⟩
  · by_cases hs : rest z (Ks a) = []
    · rw [decide_eq_false (by simpa using hs)]
      exact gtrF e92 (litD 0) (by rw [hs]; simp)
    · rw [decide_eq_true hs]
      have := List.length_pos_iff.2 hs
      exact gtrT e92 (litD 0) (by omega)
  · by_cases hm : z ∈ Ks a
    · rw [if_pos hm] at e88; rw [decide_eq_true hm]; exact eqlT e88 (litD 1) rfl
    · rw [if_neg hm] at e88; rw [decide_eq_false hm]; exact eqlF e88 (litD 1) (by omega)
  · by_cases hm : z ∈ Ks a
    · rw [if_pos hm] at e87; rw [decide_eq_true hm]
      exact c1 (eqlT e87 (litD 0) rfl) (c1 (neqF e87 (litD 0) rfl) c0)
    · rw [if_neg hm] at e87; rw [decide_eq_false hm]
      exact c1 (eqlF e87 (litD 0) (by omega)) (c1 (neqT e87 (litD 0) (by omega)) (c1 (neqF e87 (litD 21) rfl) c0))
theorem ways_mem {a : Nat} (ha : a < p.length) {w : Wy} (h : w ∈ [Wy.take a true, .take a false, .give a false (p.getD a false)] ++ cond (p.getD a false) [.give a true true, .give a true false] [] ++ [.clone a]) : w ∈ ways p :=
  List.mem_flatMap.2 ⟨a, List.mem_range.2 ha, h⟩
/-- A round goes one of the ways; what holds at its head, holds at the next. -/
theorem Jw.way (j : Jw n most p Ks i ρ) (hG : GW.at ρ) (hi : i < n) : ∃ w ∈ ways p, CRel ρ (facts p w) ∧ ∀ ρ' σ, ρ.Le ρ' → canS ksW σ = ⟨newI p (after p w) w, [], [], [], []⟩ → ∃ Ks', Jw n most (after p w) Ks' (i + 1) (σ.app ρ') := by
  have m1 := j.p1; have m4 := j.p4
  obtain ⟨kd, hkd, hk6⟩ := remD (m := 6) (selV (j := 0) j.i1) (by decide)
  obtain ⟨a, had, ha⟩ := remD (m := p.length) (selV (j := 1) j.i1) m1
  have hat : (atT p.length).den ρ = some (a : Int) := by
    rw [show atT p.length = .cv .i64 (.bin .rem .u64 (.cv .u64 (.sel 0 3 1 (.var 1))) (.lit (.ofNat p.length))) from rfl, cvD had, wrapI (by omega) (by omega)]
  have hz : ∀ {ρ' : Env}, ρ.Le ρ' → numT.den ρ' = some (selI (ρ.V 0) (i * 3 + 2)) := fun hle => by rw [← hle.v]; exact selV (j := 2) (by rw [hle.i]; exact j.i1)
  have fi : CRel ρ (fI true) := c1 (lssT (varD j.i1) (varD j.r61) (by omega)) c0
  have fa : CRel ρ (fAt p.length a) := c1 (eqlT hat (litD _) rfl) c0
  have hkd : kindT.den ρ = some (kd : Int) := hkd
  by_cases h3 : kd < 3
  · have f3 : CRel ρ (La.f3 true) := c1 (lssT hkd (litD 3) (by omega)) c0
    have ft := j.fTake hG ha
    by_cases hl : lf most (Ks a) = 0
    · rw [decide_eq_false (by simpa using hl)] at ft
      refine ⟨.take a false, ways_mem ha (by simp), CRel_app.2 ⟨CRel_app.2 ⟨CRel_app.2 ⟨fi, f3⟩, fa⟩, ft⟩, fun ρ' σ hle hσ => ?_⟩
      have jl := j.of_le hle
      refine ⟨Ks, jl.next hσ hi m1 m4 _ fun b hb => ?_⟩
      by_cases hba : b = a
      · subst hba; exact jl.fullS (GP.mono hle hG) ha hl
      · have e : nBig p (.take a false) b = .var (40 + b) := by simp only [nBig, bq_ne hba, cond_false]
        rw [e]
        exact jl.stays hb rfl
    · rw [decide_eq_true hl] at ft
      refine ⟨.take a true, ways_mem ha (by simp), CRel_app.2 ⟨CRel_app.2 ⟨CRel_app.2 ⟨fi, f3⟩, fa⟩, ft⟩, fun ρ' σ hle hσ => ?_⟩
      have jl := j.of_le hle
      have hlen : (after p (.take a true)).length = p.length := List.length_set
      refine ⟨fun b => if b = a then Ks a ++ [lf most (Ks a)] else Ks b, jl.next hσ hi (by rw [hlen]; exact m1) (by rw [hlen]; exact m4) _ fun b hb => ?_⟩
      by_cases hba : b = a
      · subst hba
        rw [if_pos rfl, show (after p (.take b true)).getD b false = true from set_self ha]
        exact jl.takeS (GP.mono hle hG) ha hl
      · have e1 : nBig p (.take a true) b = .var (40 + b) := by simp only [nBig, bq_ne hba, cond_false]
        have e2 : nRow p (.take a true) b = .var (44 + b) := by simp only [nRow, bq_ne hba, cond_false]
        have e3 : nHigh p (.take a true) b = .var (48 + b) := by simp only [nHigh, bq_ne hba, cond_false]
        have e4 : nLen p (.take a true) b = .var (52 + b) := by simp only [nLen, bq_ne hba, cond_false]
        rw [e1, e2, e3, e4, if_neg hba]
        exact jl.stays (by rw [hlen] at hb; exact hb) (set_ne hba)
  · have f3 : CRel ρ (La.f3 false) := c1 (lssF hkd (litD 3) (by omega)) c0
    by_cases h5 : kd < 5
    · have f5 : CRel ρ (La.f5 true) := c1 (lssT hkd (litD 5) (by omega)) c0
      have hz0 := hz (Env.Le.refl ρ)
      have fg := j.fGive hG ha hz0
      have s := j.st a ha
      obtain ⟨zz, hzz⟩ : ∃ zz, zz = selI (ρ.V 0) (i * 3 + 2) := ⟨_, rfl⟩
      rw [← hzz] at fg
      have hz : ∀ {ρ' : Env}, ρ.Le ρ' → numT.den ρ' = some zz := fun hle => by rw [hzz]; exact hz hle
      have hw : Wy.give a (decide (zz ∈ Ks a)) (decide (rest zz (Ks a) ≠ [])) ∈ ways p := by
        refine ways_mem ha ?_
        cases hy : p.getD a false with
        | false =>
          have e := s.nil hy
          rw [e]
          simp [rest]
        | true =>
          have e := (s.row hy).2.2
          by_cases hm : zz ∈ Ks a
          · rw [decide_eq_true hm]
            by_cases hr : rest zz (Ks a) = []
            · rw [decide_eq_false (by simpa using hr)]; simp
            · rw [decide_eq_true hr]; simp
          · have hr : rest zz (Ks a) = Ks a := by
              rw [rest_erase s.nd]; exact List.erase_of_not_mem hm
            rw [decide_eq_false hm, hr, decide_eq_true e]; simp
      refine ⟨_, hw, CRel_app.2 ⟨CRel_app.2 ⟨CRel_app.2 ⟨CRel_app.2 ⟨fi, f3⟩, f5⟩, fa⟩, fg⟩, fun ρ' σ hle hσ => ?_⟩
      have jl := j.of_le hle
      generalize hok : decide (zz ∈ Ks a) = ok at hw hσ fg ⊢
      have hsm : decide (rest zz (Ks a) ≠ []) = decide (rest zz (Ks a) ≠ []) := rfl
      generalize hsm' : decide (rest zz (Ks a) ≠ []) = sm at hw hσ fg hsm ⊢
      have hq : after p (.give a ok sm) = p.set a sm := by
        show cond (p.getD a false) (p.set a sm) p = _
        cases hy : p.getD a false with
        | true => rfl
        | false =>
          have e := s.nil hy
          have : sm = false := by rw [← hsm', e]; simp [rest]
          subst this
          rw [cond_false]
          apply List.ext_getElem?
          intro b
          by_cases hb : b = a
          · subst hb
            rw [List.getElem?_set_self ha]
            rw [List.getD_eq_getElem?_getD, List.getElem?_eq_getElem ha] at hy
            rw [List.getElem?_eq_getElem ha]
            exact congrArg some hy
          · rw [List.getElem?_set_ne (Ne.symm hb)]
      rw [hq] at hσ ⊢
      have hlen : (p.set a sm).length = p.length := List.length_set
      refine ⟨fun b => if b = a then rest zz (Ks a) else Ks b, jl.next hσ hi (by rw [hlen]; exact m1) (by rw [hlen]; exact m4) _ fun b hb => ?_⟩
      by_cases hba : b = a
      · subst hba
        rw [if_pos rfl, set_self ha]
        exact jl.giveS (GP.mono hle hG) ha (hz hle) hsm'.symm
      · have e1 : nBig p (.give a ok sm) b = .var (40 + b) := by simp only [nBig, bq_ne hba, cond_false]
        have e2 : nRow p (.give a ok sm) b = .var (44 + b) := by simp only [nRow, bq_ne hba, cond_false]
        have e4 : nLen p (.give a ok sm) b = .var (52 + b) := by simp only [nLen, bq_ne hba, cond_false]
        rw [e1, e2, e4, if_neg hba]
        exact jl.stays (by rw [hlen] at hb; exact hb) (set_ne hba)
    · have f5 : CRel ρ (La.f5 false) := c1 (lssF hkd (litD 5) (by omega)) c0
      refine ⟨.clone a, ways_mem ha (by simp), CRel_app.2 ⟨CRel_app.2 ⟨CRel_app.2 ⟨fi, f3⟩, f5⟩, fa⟩, fun ρ' σ hle hσ => ?_⟩
      have jl := j.of_le hle
      by_cases hm : p.length < 4
      · have hq : after p (.clone a) = p ++ [p.getD a false] := by
          show cond (Nat.blt p.length 4) _ _ = _
          rw [show Nat.blt p.length 4 = true from by rw [Nat.blt_eq]; exact hm]; rfl
        rw [hq] at hσ ⊢
        have hlen : (p ++ [p.getD a false]).length = p.length + 1 := by simp
        refine ⟨fun b => if b = p.length then Ks a else Ks b, jl.next hσ hi (by omega) (by omega) _ fun b hb => ?_⟩
        by_cases hba : b = p.length
        · have e : idx p (.clone a) b = a := by simp only [idx, hba, Nat.beq_refl, cond_true]
          rw [if_pos hba, show nBig p (.clone a) b = .var (40 + idx p (.clone a) b) from rfl, show nRow p (.clone a) b = .var (44 + idx p (.clone a) b) from rfl, show nHigh p (.clone a) b = .var (48 + idx p (.clone a) b) from rfl, show nLen p (.clone a) b = .var (52 + idx p (.clone a) b) from rfl, e]
          refine jl.stays ha ?_
          rw [hba, List.getD_eq_getElem?_getD, List.getElem?_append_right (Nat.le_refl _), Nat.sub_self]; rfl
        · have e : idx p (.clone a) b = b := by simp only [idx, bq_ne hba, cond_false]
          rw [if_neg hba, show nBig p (.clone a) b = .var (40 + idx p (.clone a) b) from rfl, show nRow p (.clone a) b = .var (44 + idx p (.clone a) b) from rfl, show nHigh p (.clone a) b = .var (48 + idx p (.clone a) b) from rfl, show nLen p (.clone a) b = .var (52 + idx p (.clone a) b) from rfl, e]
          refine jl.stays (by omega) ?_
          rw [List.getD_eq_getElem?_getD, List.getElem?_append_left (by omega), ← List.getD_eq_getElem?_getD]
      · have hq : after p (.clone a) = p := by
          show cond (Nat.blt p.length 4) _ _ = _
          have : Nat.blt p.length 4 = false := by
            cases hb : Nat.blt p.length 4 with
            | true => rw [Nat.blt_eq] at hb; exact absurd hb hm
            | false => rfl
          rw [this]; rfl
        rw [hq] at hσ ⊢
        refine ⟨Ks, jl.next hσ hi m1 m4 _ fun b hb => ?_⟩
        have e : idx p (.clone a) b = b := by simp only [idx, bq_ne (by omega : b ≠ p.length), cond_false]
        rw [show nBig p (.clone a) b = .var (40 + idx p (.clone a) b) from rfl, show nRow p (.clone a) b = .var (44 + idx p (.clone a) b) from rfl, show nHigh p (.clone a) b = .var (48 + idx p (.clone a) b) from rfl, show nLen p (.clone a) b = .var (52 + idx p (.clone a) b) from rfl, e]
        exact jl.stays hb rfl
end
end La
end Go.Proofs.Ytlcjgmehccopkaa
