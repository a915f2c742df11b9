/-
  RankTables (4): Steps.
-/
import Derived.Test.YtglghnfbkiondaaDoorRt3
section
namespace Go.Proofs.YtglghnfbkiondaaDoor
open Go.Vm Go.Vm.Rk Go.Vm.Mr
namespace Rt
open Rk

-- THE WAYS OF A RECORD
section
variable {d : Dt} {ρ : Env} {i : Nat} {k a : Int}
theorem good_ways (hG : (Gd d).at ρ) (h9 : ρ.I 9 = (i : Int)) : (d.good i = true ∧ CRel ρ (fE true) ∧ CRel ρ (fS false)) ∨ (d.good i = false ∧ (CRel ρ (fE false) ∨ (CRel ρ (fE true) ∧ CRel ρ fR) ∨ (CRel ρ (fE true) ∧ CRel ρ (fS true)))) := by
  have e9 : at9.den ρ = some (i : Int) := varD h9
  have e8 := rT_den hG e9 8
  have eR := rT_den hG e9 9
  have eE := rT_den hG e9 11
  by_cases h8 : 0 ≤ d.c i 8
  · have he : CRel ρ (fE true) := qD e8 (litD 0) (by simp [intCmp, h8]) (qD e8 (litD (-1)) (by simp [intCmp]; omega) c0)
    by_cases h11 : d.c i 11 = 0
    · by_cases hr : d.c i 9 = 5
      · exact .inr ⟨by simp [Dt.good, Dt.bad, hr], .inr (.inr ⟨he, qD eE (litD 0) (by simp [intCmp, h11]) (qD eR (litD 5) (by simp [intCmp, hr]) c0)⟩)⟩
      · exact .inl ⟨by simp [Dt.good, Dt.bad, Dt.ended, h8, h11, hr], he, qD eE (litD 0) (by simp [intCmp, h11]) (qD eR (litD 5) (by simp [intCmp, hr]) c0)⟩
    · exact .inr ⟨by simp [Dt.good, Dt.bad, h11], .inr (.inl ⟨he, qD eE (litD 0) (by simp [intCmp, h11]) c0⟩)⟩
  · exact .inr ⟨by simp [Dt.good, Dt.ended, h8], .inl (qD e8 (litD 0) (by simp [intCmp, h8]) (qD e8 (litD (-1)) (by simp [intCmp]; omega) c0))⟩
theorem kind_ways (hG : (Gd d).at ρ) (h9 : ρ.I 9 = (i : Int)) {t : IT} (ht : t.den ρ = some k) : (d.c i 1 = k ∧ d.good i = true ∧ CRel ρ (wyG t)) ∨ (¬ (d.c i 1 = k ∧ d.good i = true) ∧ ∃ c ∈ wyN t, CRel ρ c) := by
  have e9 : at9.den ρ = some (i : Int) := varD h9
  have e1 := rT_den hG e9 1
  by_cases hk : d.c i 1 = k
  · have hf : CRel ρ (fK t true) := qD e1 ht (by simp [intCmp, hk]) c0
    rcases good_ways hG h9 with ⟨h1, h2, h3⟩ | ⟨h1, h2 | ⟨h2, h3⟩ | ⟨h2, h3⟩⟩
    · exact .inl ⟨hk, h1, CRel_app.2 ⟨CRel_app.2 ⟨hf, h2⟩, h3⟩⟩
    · exact .inr ⟨fun h => (by rw [h1] at h; cases h.2), _, .tail _ (.head _), CRel_app.2 ⟨hf, h2⟩⟩
    · exact .inr ⟨fun h => (by rw [h1] at h; cases h.2), _, .tail _ (.tail _ (.head _)), CRel_app.2 ⟨CRel_app.2 ⟨hf, h2⟩, h3⟩⟩
    · exact .inr ⟨fun h => (by rw [h1] at h; cases h.2), _, .tail _ (.tail _ (.tail _ (.head _))), CRel_app.2 ⟨CRel_app.2 ⟨hf, h2⟩, h3⟩⟩
  · exact .inr ⟨fun h => hk h.1, _, .head _, qD e1 ht (by simp [intCmp, hk]) c0⟩
def W13N : List Cs := wyN (.var 20)
def W13Y : List Cs := [wyG (.var 20)]
def W14N : List Cs := wyN (.var 20) ++ [wyG (.var 20) ++ fA false ++ fQ false]
def W14Y : List Cs := [wyG (.var 20) ++ fA true, wyG (.var 20) ++ fA false ++ fQ true]
theorem ways13 (hG : (Gd d).at ρ) (h9 : ρ.I 9 = (i : Int)) (h20 : ρ.I 20 = k) (ha : a < 0) : (d.takes k a i = true ∧ ∃ c ∈ W13Y, CRel ρ c) ∨ (d.takes k a i = false ∧ ∃ c ∈ W13N, CRel ρ c) := by
  rcases kind_ways hG h9 (t := .var 20) (varD h20) with ⟨h1, h2, h3⟩ | ⟨h1, h2⟩
  · exact .inl ⟨by simp [Dt.takes, h1, h2, ha], _, .head _, h3⟩
  · refine .inr ⟨?_, h2⟩
    cases ht : d.takes k a i with
    | false => rfl
    | true =>
      simp only [Dt.takes, Bool.and_eq_true, decide_eq_true_eq] at ht
      exact absurd ⟨ht.1, ht.2.1⟩ h1
theorem ways14 (hG : (Gd d).at ρ) (h9 : ρ.I 9 = (i : Int)) (h20 : ρ.I 20 = k) (h21 : ρ.I 21 = a) : (d.takes k a i = true ∧ ∃ c ∈ W14Y, CRel ρ c) ∨ (d.takes k a i = false ∧ ∃ c ∈ W14N, CRel ρ c) := by
  have e9 : at9.den ρ = some (i : Int) := varD h9
  have e2 := rT_den hG e9 2
  have ea : (IT.var 21).den ρ = some a := varD h21
  rcases kind_ways hG h9 (t := .var 20) (varD h20) with ⟨h1, h2, h3⟩ | ⟨h1, c, h2, h3⟩
  · by_cases ha : a < 0
    · exact .inl ⟨by simp [Dt.takes, h1, h2, ha], _, .head _, CRel_app.2 ⟨h3, qD ea (litD 0) (by simp [intCmp, ha]) c0⟩⟩
    · have fa : CRel ρ (fA false) := qD ea (litD 0) (by simp [intCmp, ha]) c0
      by_cases hq : d.c i 2 = a
      · exact .inl ⟨by simp [Dt.takes, h1, h2, hq], _, .tail _ (.head _), CRel_app.2 ⟨CRel_app.2 ⟨h3, fa⟩, qD e2 ea (by simp [intCmp, hq]) c0⟩⟩
      · exact .inr ⟨by simp [Dt.takes, ha, hq], _, List.mem_append.2 (.inr (.head _)), CRel_app.2 ⟨CRel_app.2 ⟨h3, fa⟩, qD e2 ea (by simp [intCmp, hq]) c0⟩⟩
  · refine .inr ⟨?_, c, List.mem_append.2 (.inl h2), h3⟩
    cases ht : d.takes k a i with
    | false => rfl
    | true =>
      simp only [Dt.takes, Bool.and_eq_true, decide_eq_true_eq] at ht
      exact absurd ⟨ht.1, ht.2.1⟩ h1
end
-- WHAT HOLDS
structure JS0 (d : Dt) (k a : Int) (i : Nat) (ρ : Env) : Prop where
  i9 : ρ.I 9 = (i : Int)
  i20 : ρ.I 20 = k
  i21 : ρ.I 21 = a
  le : i ≤ d.n
theorem JS0.of_le {d : Dt} {k a : Int} {i : Nat} {ρ ρ' : Env} (h : JS0 d k a i ρ) (g : ρ.Le ρ') : JS0 d k a i ρ' := ⟨by rw [g.i]; exact h.i9, by rw [g.i]; exact h.i20, by rw [g.i]; exact h.i21, h.le⟩
/-- A list that is told by a name, and its length. -/
structure JV (L : List Int) (ρ : Env) : Prop where
  i22 : ρ.I 22 = (L.length : Int)
  i23 : ρ.I 23 = encL L
  ne : L ≠ []
  le : L.length ≤ 100
theorem JV.of_le {L : List Int} {ρ ρ' : Env} (h : JV L ρ) (g : ρ.Le ρ') : JV L ρ' := ⟨by rw [g.i]; exact h.i22, by rw [g.i]; exact h.i23, h.ne, h.le⟩
theorem JV.cs {L : List Int} {ρ : Env} (h : JV L ρ) : CRel ρ csV := by
  have h1 : 1 ≤ L.length := List.length_pos_iff.2 h.ne
  have h2 := h.le
  exact qD (varD h.i22) (litD 1) (by simp [intCmp]; omega) (qD (varD h.i22) (litD 100) (by simp [intCmp]; omega) (qD (varD h.i22) (litD 300) (by simp [intCmp]; omega) (qD (varD h.i22) (litD _) (by simp [intCmp]; omega) c0)))
def JS (d : Dt) (k a : Int) : Bool → Env → Prop
  | false => fun ρ => ∃ i, JS0 d k a i ρ ∧ d.stp k a i = []
  | true => fun ρ => ∃ i, JS0 d k a i ρ ∧ JV (d.stp k a i) ρ
/-- What Steps hands out. -/
def RS (d : Dt) (k a : Int) (w : World) : Value → World → Prop := fun v w' => (d.steps k a = [] ∧ v = .slice none 0 0 ∧ Framed w w') ∨ (d.steps k a ≠ [] ∧ RowOut w w' v 3 [.i64] (sortL (d.steps k a)) (d.steps k a).length)
theorem sp13_ok {d : Dt} {w : World} : CallOk Tryd.prog ⟨w, [], Gd d⟩ sp13 := spL_ok fun p hp => by
  rw [List.mem_singleton.1 hp]
  exact spSort_ok fun _ _ _ _ _ h => h.2.1
def up22 : IT := .bin .add .i64 (.var 22) (.lit 1)
-- f13
noncomputable def nx13 (q : Nat) (σ : Sub) : List LM := [.next q (.inLoop (lb Tryd.f13 0) :: lq Tryd.f13 0) [] σ]
def s13a : Sub := ⟨[(20, .var 20), (9, .lit 0)], [], [], [], [(0, 0)]⟩
def s13b : Sub := ⟨[(20, .var 20), (22, .lit 1), (9, up9), (23, .un 3 (.lit 0) (rT at9 12))], [], [], [], [(13, 507), (12, 506), (0, 0)]⟩
def s13c : Sub := ⟨[(20, .var 20), (9, up9)], [], [], [], [(0, 0)]⟩
def s13d : Sub := ⟨[(20, .var 20), (22, up22), (9, up9), (23, .un 3 (.var 23) (rT at9 12))], [], [], [], [(13, 507), (12, 506), (0, 0)]⟩
def s13e : Sub := ⟨[(20, .var 20), (22, .var 22), (9, up9), (23, .var 23)], [], [], [], [(13, 13), (12, 12), (0, 0)]⟩
def s13f : Sub := ⟨[(22, .var 22), (23, .var 23)], [], [], [], [(13, 13), (12, 12)]⟩
noncomputable def P13 (z : Bool) (c : Cs) (l : List LM) : Prop := RHM sp13 13 Tryd.f13 0 eS t13 (T13 z) (lt9 (.var 36) true ++ c) l
theorem i13_in : RCM sp13 13 Tryd.f13 eS t13 [SL .row, iV 20] (ofP (roH (EL .row))) (csL .row) [.next 0 (.code (.loop (lb Tryd.f13 0)) :: lq Tryd.f13 0) [] s13a] := by unfold RCM; kernel_rfl
theorem i13_0y : ∀ c ∈ W13Y, P13 false c (nx13 1 s13b) := by
  intro c hc
  simp only [W13Y, List.mem_cons, List.not_mem_nil, or_false] at hc
  obtain rfl := hc
  all_goals (unfold P13 RHM; kernel_rfl)
theorem i13_0n : ∀ c ∈ W13N, P13 false c (nx13 0 s13c) := by
  intro c hc
  simp only [W13N, wyN, List.mem_cons, List.not_mem_nil, or_false] at hc
  rcases hc with rfl | rfl | rfl | rfl
  all_goals (unfold P13 RHM; kernel_rfl)
theorem i13_0e : RHM sp13 13 Tryd.f13 0 eS t13 (T13 false) (lt9 (.var 36) false) [.done 1 [] ⟨[], [], [], [], []⟩] := by unfold RHM; kernel_rfl
theorem i13_1y : ∀ c ∈ W13Y, P13 true c (nx13 1 s13d) := by
  intro c hc
  simp only [W13Y, List.mem_cons, List.not_mem_nil, or_false] at hc
  obtain rfl := hc
  all_goals (unfold P13 RHM; kernel_rfl)
theorem i13_1n : ∀ c ∈ W13N, P13 true c (nx13 1 s13e) := by
  intro c hc
  simp only [W13N, wyN, List.mem_cons, List.not_mem_nil, or_false] at hc
  rcases hc with rfl | rfl | rfl | rfl
  all_goals (unfold P13 RHM; kernel_rfl)
theorem i13_1e : RHM sp13 13 Tryd.f13 0 eS t13 (T13 true) (lt9 (.var 36) false) [.done 0 [] s13f] := by unfold RHM; kernel_rfl
theorem stp13 {d : Dt} (ok : DOk d) (hl : d.kl = .row) {k a : Int} (ha : a < 0) {ρ : Env} {w : World} {xs : List Value} (hr : HRel ⟨w, [], Gd d⟩ ρ (ofP (roH (EL .row))) 500 w) (h20 : ρ.I 20 = k) (h21 : ρ.I 21 = a) (hx : AVal.denL ρ [SL .row, iV 20] = some xs) :
    Calls Tryd.prog 13 xs.toArray w fun e w' => ∃ v, e = .returned v ∧ RS d k a w v w' := by
  have hn := ok.n100
  have csl : ∀ {ρ : Env}, (Gd d).at ρ → CRel ρ (csL .row) := fun hG => by have := dcL ok hG; rw [hl] at this; exact this
  have c0' : ∀ {i ρ}, JS0 d k a i ρ → (Gd d).at ρ → CRel ρ (T13 false).cs := fun j hG => CRel_app.2 ⟨cs9_ok j.i9 (pN hG) j.le, csl hG⟩
  have c1' : ∀ {i ρ}, JS0 d k a i ρ → JV (d.stp k a i) ρ → (Gd d).at ρ → CRel ρ (T13 true).cs := fun j v hG => CRel_app.2 ⟨CRel_app.2 ⟨cs9_ok j.i9 (pN hG) j.le, csl hG⟩, v.cs⟩
  have loop := scanM (β := ⟨w, [], Gd d⟩) (sp := sp13) (f := 13) (fn := Tryd.f13) (j := 0) (Rs := eS) (Ts := t13) (R := RS d k a w) (T := T13) sp13_ok (JS d k a) (fun ρ => ((d.n : Int) - ρ.I 9).toNat) fun z ρ hJ hG hcs ih => by
    cases z with
    | false =>
      obtain ⟨i, j, hv⟩ := hJ
      have hi := j.le
      by_cases hlt : i < d.n
      · have e9 : at9.den ρ = some (i : Int) := varD j.i9
        rcases ways13 hG j.i9 j.i20 ha with ⟨hk, c, hc, hcr⟩ | ⟨hk, c, hc, hcr⟩
        · refine ⟨_, _, CRel_app.2 ⟨lt9_ok j.i9 (pN hG) (decide_eq_true hlt), hcr⟩, i13_0y c hc, Go.Vm.one (nextR rfl (fun l hl => by cases hl) fun ρ' hle hG' => ?_)⟩
          have j' := j.of_le hle
          have jn : JS0 d k a (i + 1) (s13b.app ρ') := ⟨sbI (t := up9) rfl (upD (varD j'.i9) (by omega)), j'.i20, j'.i21, hlt⟩
          have hiv : d.stp k a (i + 1) = [d.c i 12] := by rw [Dt.stp, if_pos hk, hv]; rfl
          have vn : JV (d.stp k a (i + 1)) (s13b.app ρ') := by
            rw [hiv]
            exact ⟨rfl, sbI (t := .un 3 (.lit 0) (rT at9 12)) rfl (snoc_den (L := []) nil_den (rT_den hG' (show at9.den ρ' = _ from varD j'.i9) 12)), by simp, by simp⟩
          have hGn : (Gd d).at (s13b.app ρ') := gKeep rfl hG'
          exact ⟨hGn, c1' jn vn hGn, fun a w' r => ih true _ (by rw [jn.i9, j.i9]; omega) ⟨_, jn, vn⟩ _ a w' (.inl rfl) r⟩
        · refine ⟨_, _, CRel_app.2 ⟨lt9_ok j.i9 (pN hG) (decide_eq_true hlt), hcr⟩, i13_0n c hc, Go.Vm.one (nextR rfl (fun l hl => by cases hl) fun ρ' hle hG' => ?_)⟩
          have j' := j.of_le hle
          have jn : JS0 d k a (i + 1) (s13c.app ρ') := ⟨sbI (t := up9) rfl (upD (varD j'.i9) (by omega)), j'.i20, j'.i21, hlt⟩
          have hGn : (Gd d).at (s13c.app ρ') := gKeep rfl hG'
          exact ⟨hGn, c0' jn hGn, fun a w' r => ih false _ (by rw [jn.i9, j.i9]; omega) ⟨_, jn, by rw [Dt.stp, if_neg (by rw [hk]; decide)]; exact hv⟩ _ a w' (.inl rfl) r⟩
      · obtain rfl : i = d.n := by omega
        refine ⟨_, _, lt9_ok j.i9 (pN hG) (decide_eq_false hlt), i13_0e, Go.Vm.one (doneR rfl (fun l hl => by cases hl) fun ρ' hle hG' => ⟨gKeep rfl hG', c0, fun x w' r => ?_⟩)⟩
        obtain ⟨y, hy, he⟩ := r.t 0 _ rfl
        obtain rfl : x = y := Option.some.inj he
        exact .inl ⟨hv, (Option.some.inj hy).symm, Framed.of r.h⟩
    | true =>
      obtain ⟨i, j, hv⟩ := hJ
      have hi := j.le
      by_cases hlt : i < d.n
      · have e9 : at9.den ρ = some (i : Int) := varD j.i9
        rcases ways13 hG j.i9 j.i20 ha with ⟨hk, c, hc, hcr⟩ | ⟨hk, c, hc, hcr⟩
        · refine ⟨_, _, CRel_app.2 ⟨lt9_ok j.i9 (pN hG) (decide_eq_true hlt), hcr⟩, i13_1y c hc, Go.Vm.one (nextR rfl (fun l hl => by cases hl) fun ρ' hle hG' => ?_)⟩
          have j' := j.of_le hle
          have v' := hv.of_le hle
          have jn : JS0 d k a (i + 1) (s13d.app ρ') := ⟨sbI (t := up9) rfl (upD (varD j'.i9) (by omega)), j'.i20, j'.i21, hlt⟩
          have hiv : d.stp k a (i + 1) = d.stp k a i ++ [d.c i 12] := by rw [Dt.stp, if_pos hk]
          have hlen := d.stp_le k a i
          have vn : JV (d.stp k a (i + 1)) (s13d.app ρ') := by
            rw [hiv]
            refine ⟨?_, sbI (t := .un 3 (.var 23) (rT at9 12)) rfl (snoc_den (varD v'.i23) (rT_den hG' (show at9.den ρ' = _ from varD j'.i9) 12)), by simp, by rw [List.length_append]; show (d.stp k a i).length + 1 ≤ 100; omega⟩
            rw [List.length_append]
            exact sbI (t := up22) rfl (upD (varD v'.i22) (by omega))
          have hGn : (Gd d).at (s13d.app ρ') := gKeep rfl hG'
          exact ⟨hGn, c1' jn vn hGn, fun a w' r => ih true _ (by rw [jn.i9, j.i9]; omega) ⟨_, jn, vn⟩ _ a w' (.inl rfl) r⟩
        · refine ⟨_, _, CRel_app.2 ⟨lt9_ok j.i9 (pN hG) (decide_eq_true hlt), hcr⟩, i13_1n c hc, Go.Vm.one (nextR rfl (fun l hl => by cases hl) fun ρ' hle hG' => ?_)⟩
          have j' := j.of_le hle
          have v' := hv.of_le hle
          have jn : JS0 d k a (i + 1) (s13e.app ρ') := ⟨sbI (t := up9) rfl (upD (varD j'.i9) (by omega)), j'.i20, j'.i21, hlt⟩
          have vn : JV (d.stp k a (i + 1)) (s13e.app ρ') := by
            rw [Dt.stp, if_neg (by rw [hk]; decide)]; exact ⟨v'.i22, v'.i23, v'.ne, v'.le⟩
          have hGn : (Gd d).at (s13e.app ρ') := gKeep rfl hG'
          exact ⟨hGn, c1' jn vn hGn, fun a w' r => ih true _ (by rw [jn.i9, j.i9]; omega) ⟨_, jn, vn⟩ _ a w' (.inl rfl) r⟩
      · obtain rfl : i = d.n := by omega
        refine ⟨_, _, lt9_ok j.i9 (pN hG) (decide_eq_false hlt), i13_1e, Go.Vm.one (doneR rfl (fun l hl => by cases hl) fun ρ' hle hG' => ⟨gKeep rfl hG', c0, fun x w' r => ?_⟩)⟩
        obtain ⟨y, hy, he⟩ := r.t 0 _ rfl
        obtain rfl : x = y := Option.some.inj he
        have v' := hv.of_le hle
        have e23 : (IT.var 23).den (s13f.app ρ') = some (encL (d.stp k a d.n)) := varD v'.i23
        have e40 : (fnT 40 (.var 23)).den (s13f.app ρ') = some (encL (sortL (d.stp k a d.n))) := by
          have hGn : (Gd d).at (s13f.app ρ') := gKeep rfl hG'
          rw [fnT, fnD e23 (litD 0), hGn.2.1.1]
          simp only [decL_encL]
        exact .inr ⟨hv.ne, row_out (l := 13) (j := 12) (nT := .var 22) (c := fnT 40 (.var 23)) rfl r.h rfl hy (varD v'.i22) e40⟩
  refine callM sp13_ok Tryd.func13 rfl i13_in hx hr (csl hr.g) (Go.Vm.one (nextR rfl (fun l hl => by cases hl) fun ρ' hle hG' => ?_))
  have jn : JS0 d k a 0 (s13a.app ρ') := ⟨sbI (t := .lit 0) rfl rfl, by show ρ'.I 20 = _; rw [hle.i]; exact h20, by show ρ'.I 21 = _; rw [hle.i]; exact h21, by omega⟩
  have hGn : (Gd d).at (s13a.app ρ') := gKeep rfl hG'
  exact ⟨hGn, c0' jn hGn, fun a w' r => loop false _ ⟨0, jn, rfl⟩ _ a w' (.inr rfl) r⟩
end Rt
end Go.Proofs.YtglghnfbkiondaaDoor
end

/-
  RankTables (5): the reference's Steps.
-/
section
namespace Go.Proofs.YtglghnfbkiondaaDoor
open Go.Vm Go.Vm.Rk Go.Vm.Mr
namespace Rt
open Rk

-- NOTHING IN ORDER
def retIs (u : AVal) : Leaf → Bool
  | .ret v _ _ _ => AVal.beq v u
  | .stop cs => dead cs
  | .pause _ => false
theorem calls_ret {β : Base} {E : Exts} (hE : ExtOk Tryd.prog E) {sp : CallF} (hsp : CallOk Tryd.prog β sp) (hown : β.own = []) {n : Nat} {f : FuncId} {fn : Func} {c : Code} {args : List AVal} {xs : List Value} {H : Heap} {nl : Nat} {cs : Cs} {ρ : Env} {w : World} {u : AVal} {v : Value}
    (hf : Tryd.prog.funcs[f]? = some fn) (hb : fn.body = some c) (hrun : (run Tryd.prog E sp n false f (entry fn c args H nl cs)).map (·.all (retIs u)) = some true) (hx : AVal.denL ρ args = some xs) (hr : HRel β ρ H nl w) (hcs : CRel ρ cs) (hu : ∀ ρ', ρ.Le ρ' → u.den ρ' = some v) :
    Calls Tryd.prog f xs.toArray w (fun e w' => e = .returned v ∧ Framed β.w0 w') := by
  obtain ⟨ls, hls, hall⟩ := Option.map_eq_some_iff.1 hrun
  refine (run_calls noCount hE hsp follows hf hb hls hx hr hcs (R := fun x w' => x = v ∧ Framed β.w0 w') (fun l hl => ?_)).mono fun e w' ⟨x, he, hv, hfr⟩ => ⟨by rw [he, hv], hfr⟩
  have h1 := List.all_eq_true.1 hall l hl
  cases l with
  | stop cs' => exact dead_ok h1
  | pause S => cases h1
  | ret v' H nl cs' =>
    intro ρ' w' x hle hxd hr' hc'
    have := AVal.beq_eq _ _ h1
    subst this
    rw [hu ρ' hle] at hxd
    exact ⟨(Option.some.inj hxd).symm, ⟨hr'.size, fun b hb => hr'.frame b hb (fun l hl => by rw [hown] at hl; cases hl), hr'.tape, hr'.os, hr'.out⟩⟩
noncomputable def AllN : Prop := (run Tryd.prog [] (spL []) 4000 false 21 (entry Tryd.f21 (Tryd.f21.body.getD .ret) [.sliceNil] .leaf 0 [])).map (·.all (retIs .sliceNil)) = some true
theorem nil_run : AllN := by unfold AllN; kernel_rfl
theorem nil21 (w : World) : Calls Tryd.prog 21 #[.slice none 0 0] w (fun e w' => e = .returned (.slice none 0 0) ∧ Framed w w') :=
  calls_ret (β := ⟨w, [], fun _ _ _ _ _ => True⟩) (ρ := envOf [] [] F0) noExt (noSp0 _) rfl Tryd.func21 rfl nil_run (xs := [.slice none 0 0]) rfl (HRel.startG w _ (fun _ => rfl) trivial) c0 (fun _ _ => rfl)
theorem spRisN_ok {β : Base} (hG : ∀ I B S V F, β.G I B S V F → GR I B S V F) : SpGOk Tryd.prog β 21 (fun args H nl cs => (spNil args H nl cs).orElse fun _ => spRis args H nl cs) := by
  intro args H nl cs ls ρ w xs hr hx hh hc
  dsimp only [spNil] at hr
  split at hr
  · simp only [Option.orElse_some, Option.some.injEq] at hr
    subst hr
    obtain rfl : [.slice none 0 0] = xs := Option.some.inj ((denL1 (ρ := ρ) rfl).symm.trans hx)
    exact spV_ok (nil21 w) rfl hh hc
  · rw [Option.orElse_none] at hr
    exact spRis_ok hG args H nl cs ls ρ w xs hr hx hh hc
theorem sp14_ok {d : Dt} {w : World} : CallOk Tryd.prog ⟨w, [], Gd d⟩ sp14 := spL_ok fun p hp => by
  rw [List.mem_singleton.1 hp]
  exact spRisN_ok fun _ _ _ _ _ h => h.2.1
-- f14
noncomputable def nx14 (q : Nat) (σ : Sub) : List LM := [.next q (.inLoop (lb Tryd.f14 0) :: lq Tryd.f14 0) [] σ]
def s14a : Sub := ⟨[(20, .var 20), (21, .var 21), (9, .lit 0)], [], [], [], [(0, 0)]⟩
def s14b : Sub := ⟨[(20, .var 20), (21, .var 21), (22, .lit 1), (9, up9), (23, .un 3 (.lit 0) (rT at9 12))], [], [], [], [(13, 506), (12, 505), (0, 0)]⟩
def s14c : Sub := ⟨[(20, .var 20), (21, .var 21), (9, up9)], [], [], [], [(0, 0)]⟩
def s14d : Sub := ⟨[(20, .var 20), (21, .var 21), (22, up22), (9, up9), (23, .un 3 (.var 23) (rT at9 12))], [], [], [], [(13, 506), (12, 505), (0, 0)]⟩
def s14e : Sub := ⟨[(20, .var 20), (21, .var 21), (22, .var 22), (9, up9), (23, .var 23)], [], [], [], [(13, 13), (12, 12), (0, 0)]⟩
def s14f : Sub := ⟨[(22, .var 22), (23, .var 23)], [], [], [], [(13, 501), (12, 500)]⟩
noncomputable def P14 (z : Bool) (c : Cs) (l : List LM) : Prop := RHM sp14 14 Tryd.f14 0 eS t14 (T14 z) (lt9 (.var 36) true ++ c) l
theorem i14_in : RCM sp14 14 Tryd.f14 eS t14 [SL .row, iV 20, iV 21] (ofP (roH (EL .row))) (csL .row) [.next 0 (.code (.loop (lb Tryd.f14 0)) :: lq Tryd.f14 0) [] s14a] := by unfold RCM; kernel_rfl
theorem i14_0y : ∀ c ∈ W14Y, P14 false c (nx14 1 s14b) := by
  intro c hc
  simp only [W14Y, List.mem_cons, List.not_mem_nil, or_false] at hc
  rcases hc with rfl | rfl
  all_goals (unfold P14 RHM; kernel_rfl)
theorem i14_0n : ∀ c ∈ W14N, P14 false c (nx14 0 s14c) := by
  intro c hc
  simp only [W14N, wyN, List.cons_append, List.nil_append, List.mem_cons, List.not_mem_nil, or_false] at hc
  rcases hc with rfl | rfl | rfl | rfl | rfl
  all_goals (unfold P14 RHM; kernel_rfl)
theorem i14_0e : RHM sp14 14 Tryd.f14 0 eS t14 (T14 false) (lt9 (.var 36) false) [.done 1 [] ⟨[], [], [], [], []⟩] := by unfold RHM; kernel_rfl
theorem i14_1y : ∀ c ∈ W14Y, P14 true c (nx14 1 s14d) := by
  intro c hc
  simp only [W14Y, List.mem_cons, List.not_mem_nil, or_false] at hc
  rcases hc with rfl | rfl
  all_goals (unfold P14 RHM; kernel_rfl)
theorem i14_1n : ∀ c ∈ W14N, P14 true c (nx14 1 s14e) := by
  intro c hc
  simp only [W14N, wyN, List.cons_append, List.nil_append, List.mem_cons, List.not_mem_nil, or_false] at hc
  rcases hc with rfl | rfl | rfl | rfl | rfl
  all_goals (unfold P14 RHM; kernel_rfl)
theorem i14_1e : RHM sp14 14 Tryd.f14 0 eS t14 (T14 true) (lt9 (.var 36) false) [.done 0 [] s14f] := by unfold RHM; kernel_rfl
theorem stp14 {d : Dt} (ok : DOk d) (hl : d.kl = .row) {k a : Int} {ρ : Env} {w : World} {xs : List Value} (hr : HRel ⟨w, [], Gd d⟩ ρ (ofP (roH (EL .row))) 500 w) (h20 : ρ.I 20 = k) (h21 : ρ.I 21 = a) (hx : AVal.denL ρ [SL .row, iV 20, iV 21] = some xs) :
    Calls Tryd.prog 14 xs.toArray w fun e w' => ∃ v, e = .returned v ∧ RS d k a w v w' := by
  have hn := ok.n100
  have csl : ∀ {ρ : Env}, (Gd d).at ρ → CRel ρ (csL .row) := fun hG => by have := dcL ok hG; rw [hl] at this; exact this
  have c0' : ∀ {i ρ}, JS0 d k a i ρ → (Gd d).at ρ → CRel ρ (T14 false).cs := fun j hG => CRel_app.2 ⟨cs9_ok j.i9 (pN hG) j.le, csl hG⟩
  have c1' : ∀ {i ρ}, JS0 d k a i ρ → JV (d.stp k a i) ρ → (Gd d).at ρ → CRel ρ (T14 true).cs := fun j v hG => CRel_app.2 ⟨CRel_app.2 ⟨cs9_ok j.i9 (pN hG) j.le, csl hG⟩, v.cs⟩
  have loop := scanM (β := ⟨w, [], Gd d⟩) (sp := sp14) (f := 14) (fn := Tryd.f14) (j := 0) (Rs := eS) (Ts := t14) (R := RS d k a w) (T := T14) sp14_ok (JS d k a) (fun ρ => ((d.n : Int) - ρ.I 9).toNat) fun z ρ hJ hG hcs ih => by
    cases z with
    | false =>
      obtain ⟨i, j, hv⟩ := hJ
      have hi := j.le
      by_cases hlt : i < d.n
      · have e9 : at9.den ρ = some (i : Int) := varD j.i9
        rcases ways14 hG j.i9 j.i20 j.i21 with ⟨hk, c, hc, hcr⟩ | ⟨hk, c, hc, hcr⟩
        · refine ⟨_, _, CRel_app.2 ⟨lt9_ok j.i9 (pN hG) (decide_eq_true hlt), hcr⟩, i14_0y c hc, Go.Vm.one (nextR rfl (fun l hl => by cases hl) fun ρ' hle hG' => ?_)⟩
          have j' := j.of_le hle
          have jn : JS0 d k a (i + 1) (s14b.app ρ') := ⟨sbI (t := up9) rfl (upD (varD j'.i9) (by omega)), j'.i20, j'.i21, hlt⟩
          have hiv : d.stp k a (i + 1) = [d.c i 12] := by rw [Dt.stp, if_pos hk, hv]; rfl
          have vn : JV (d.stp k a (i + 1)) (s14b.app ρ') := by
            rw [hiv]
            exact ⟨rfl, sbI (t := .un 3 (.lit 0) (rT at9 12)) rfl (snoc_den (L := []) nil_den (rT_den hG' (show at9.den ρ' = _ from varD j'.i9) 12)), by simp, by simp⟩
          have hGn : (Gd d).at (s14b.app ρ') := gKeep rfl hG'
          exact ⟨hGn, c1' jn vn hGn, fun a w' r => ih true _ (by rw [jn.i9, j.i9]; omega) ⟨_, jn, vn⟩ _ a w' (.inl rfl) r⟩
        · refine ⟨_, _, CRel_app.2 ⟨lt9_ok j.i9 (pN hG) (decide_eq_true hlt), hcr⟩, i14_0n c hc, Go.Vm.one (nextR rfl (fun l hl => by cases hl) fun ρ' hle hG' => ?_)⟩
          have j' := j.of_le hle
          have jn : JS0 d k a (i + 1) (s14c.app ρ') := ⟨sbI (t := up9) rfl (upD (varD j'.i9) (by omega)), j'.i20, j'.i21, hlt⟩
          have hGn : (Gd d).at (s14c.app ρ') := gKeep rfl hG'
          exact ⟨hGn, c0' jn hGn, fun a w' r => ih false _ (by rw [jn.i9, j.i9]; omega) ⟨_, jn, by rw [Dt.stp, if_neg (by rw [hk]; decide)]; exact hv⟩ _ a w' (.inl rfl) r⟩
      · obtain rfl : i = d.n := by omega
        refine ⟨_, _, lt9_ok j.i9 (pN hG) (decide_eq_false hlt), i14_0e, Go.Vm.one (doneR rfl (fun l hl => by cases hl) fun ρ' hle hG' => ⟨gKeep rfl hG', c0, fun x w' r => ?_⟩)⟩
        obtain ⟨y, hy, he⟩ := r.t 0 _ rfl
        obtain rfl : x = y := Option.some.inj he
        exact .inl ⟨hv, (Option.some.inj hy).symm, Framed.of r.h⟩
    | true =>
      obtain ⟨i, j, hv⟩ := hJ
      have hi := j.le
      by_cases hlt : i < d.n
      · have e9 : at9.den ρ = some (i : Int) := varD j.i9
        rcases ways14 hG j.i9 j.i20 j.i21 with ⟨hk, c, hc, hcr⟩ | ⟨hk, c, hc, hcr⟩
        · refine ⟨_, _, CRel_app.2 ⟨lt9_ok j.i9 (pN hG) (decide_eq_true hlt), hcr⟩, i14_1y c hc, Go.Vm.one (nextR rfl (fun l hl => by cases hl) fun ρ' hle hG' => ?_)⟩
          have j' := j.of_le hle
          have v' := hv.of_le hle
          have jn : JS0 d k a (i + 1) (s14d.app ρ') := ⟨sbI (t := up9) rfl (upD (varD j'.i9) (by omega)), j'.i20, j'.i21, hlt⟩
          have hiv : d.stp k a (i + 1) = d.stp k a i ++ [d.c i 12] := by rw [Dt.stp, if_pos hk]
          have hlen := d.stp_le k a i
          have vn : JV (d.stp k a (i + 1)) (s14d.app ρ') := by
            rw [hiv]
            refine ⟨?_, sbI (t := .un 3 (.var 23) (rT at9 12)) rfl (snoc_den (varD v'.i23) (rT_den hG' (show at9.den ρ' = _ from varD j'.i9) 12)), by simp, by rw [List.length_append]; show (d.stp k a i).length + 1 ≤ 100; omega⟩
            rw [List.length_append]
            exact sbI (t := up22) rfl (upD (varD v'.i22) (by omega))
          have hGn : (Gd d).at (s14d.app ρ') := gKeep rfl hG'
          exact ⟨hGn, c1' jn vn hGn, fun a w' r => ih true _ (by rw [jn.i9, j.i9]; omega) ⟨_, jn, vn⟩ _ a w' (.inl rfl) r⟩
        · refine ⟨_, _, CRel_app.2 ⟨lt9_ok j.i9 (pN hG) (decide_eq_true hlt), hcr⟩, i14_1n c hc, Go.Vm.one (nextR rfl (fun l hl => by cases hl) fun ρ' hle hG' => ?_)⟩
          have j' := j.of_le hle
          have v' := hv.of_le hle
          have jn : JS0 d k a (i + 1) (s14e.app ρ') := ⟨sbI (t := up9) rfl (upD (varD j'.i9) (by omega)), j'.i20, j'.i21, hlt⟩
          have vn : JV (d.stp k a (i + 1)) (s14e.app ρ') := by
            rw [Dt.stp, if_neg (by rw [hk]; decide)]; exact ⟨v'.i22, v'.i23, v'.ne, v'.le⟩
          have hGn : (Gd d).at (s14e.app ρ') := gKeep rfl hG'
          exact ⟨hGn, c1' jn vn hGn, fun a w' r => ih true _ (by rw [jn.i9, j.i9]; omega) ⟨_, jn, vn⟩ _ a w' (.inl rfl) r⟩
      · obtain rfl : i = d.n := by omega
        refine ⟨_, _, lt9_ok j.i9 (pN hG) (decide_eq_false hlt), i14_1e, Go.Vm.one (doneR rfl (fun l hl => by cases hl) fun ρ' hle hG' => ⟨gKeep rfl hG', c0, fun x w' r => ?_⟩)⟩
        obtain ⟨y, hy, he⟩ := r.t 0 _ rfl
        obtain rfl : x = y := Option.some.inj he
        have v' := hv.of_le hle
        have e23 : (IT.var 23).den (s14f.app ρ') = some (encL (d.stp k a d.n)) := varD v'.i23
        have e40 : (fnT 40 (.var 23)).den (s14f.app ρ') = some (encL (sortL (d.stp k a d.n))) := by
          have hGn : (Gd d).at (s14f.app ρ') := gKeep rfl hG'
          rw [fnT, fnD e23 (litD 0), hGn.2.1.1]
          simp only [decL_encL]
        exact .inr ⟨hv.ne, row_out (l := 13) (j := 12) (nT := .var 22) (c := fnT 40 (.var 23)) rfl r.h rfl hy (varD v'.i22) e40⟩
  refine callM sp14_ok Tryd.func14 rfl i14_in hx hr (csl hr.g) (Go.Vm.one (nextR rfl (fun l hl => by cases hl) fun ρ' hle hG' => ?_))
  have jn : JS0 d k a 0 (s14a.app ρ') := ⟨sbI (t := .lit 0) rfl rfl, by show ρ'.I 20 = _; rw [hle.i]; exact h20, by show ρ'.I 21 = _; rw [hle.i]; exact h21, by omega⟩
  have hGn : (Gd d).at (s14a.app ρ') := gKeep rfl hG'
  exact ⟨hGn, c0' jn hGn, fun a w' r => loop false _ ⟨0, jn, rfl⟩ _ a w' (.inr rfl) r⟩
end Rt
end Go.Proofs.YtglghnfbkiondaaDoor
end
