/-
  LeastPlays (4): the reference's Give.
-/
import Derived.Test.YtlcjgmehccopkaaLa3
namespace Go.Proofs.Ytlcjgmehccopkaa
open Go.Vm Go.Vm.Le
namespace La
open Lp

noncomputable def gb0 : Code := ((loopsOf (Try.f15.body.getD .ret) []).getD 0 (.ret, [])).1
noncomputable def gk0 : List Item := ((loopsOf (Try.f15.body.getD .ret) []).getD 0 (.ret, [])).2
def up1 : IT := .bin .add .i64 (.var 1) (.lit 1)
def nG : List (Nat × Nat) := [(1, 1), (2, 2)]
def sG0 (t : IT) : Sub := ⟨[(1, t)], [], [], [], nG ++ [(0, 0)]⟩
def sGa (y : Bool) : Sub := ⟨[(8, cond y (.bin .add .i64 (.var 8) (.lit 1)) (.lit 1)), (1, up1), (10, .un 3 (cond y (.var 10) (.lit 0)) atL)], [], [], [], nG ++ [(11, 14), (10, 13), (0, 0)]⟩
def sGk : Sub := ⟨[(8, .var 8), (1, up1), (10, .var 10)], [], [], [], nG ++ [(11, 11), (10, 10), (0, 0)]⟩
def sGe : Sub := ⟨[(8, .var 8), (10, .var 10)], [], [], [], [(11, 11), (10, 10)]⟩
def eV0 : List Tpl := [⟨[(0, .tuple [.agg [iV 34, iV 35, .sliceNil], .bool (.lit false)])], 1, [], 12, [], 0⟩]
noncomputable def RunG (y : Bool) (c : Cs) (l : LM) : Prop := (run Try.prog [] (spL []) 4000 true 15 ((⟨(V0 y).tm, (V0 y).nt, (V0 y).H, (V0 y).nl, c ++ (V0 y).cs, (V0 y).dep⟩ : Tpl).st (.code gb0 :: .inLoop gb0 :: gk0))).map (·.filterMap (sumMD gA [] eV [V0 true, V0 false])) = some [l]
theorem g_in : (run Try.prog [] (spL []) 4000 true 15 (entry Try.f15 (Try.f15.body.getD .ret) [stA true, iV 36] (ofP (lH true)) 1 csL)).map (·.filterMap (sumMD gA [] eV [V0 true, V0 false])) = some [.next 1 (.code (.loop gb0) :: gk0) [] (sG0 (.lit 0))] := by kernel_rfl
theorem g_nil : (run Try.prog [] (spL []) 4000 false 15 (entry Try.f15 (Try.f15.body.getD .ret) [stA false, iV 36] (ofP (lH false)) 1 [])).map (·.filterMap (sumMD gA [] eV0 [])) = some [.done 0 [] ⟨[], [], [], [], []⟩] := by kernel_rfl
theorem g_add (y : Bool) : RunG y (fi true ++ fne true) (.next 0 (.inLoop gb0 :: gk0) [] (sGa y)) := by cases y <;> (unfold RunG; kernel_rfl)
theorem g_keep : RunG true (fi true ++ fne false) (.next 0 (.inLoop gb0 :: gk0) [] sGk) := by unfold RunG; kernel_rfl
theorem g_none : RunG false (fi true ++ fne false) (.next 1 (.inLoop gb0 :: gk0) [] (sG0 up1)) := by unfold RunG; kernel_rfl
theorem g_end : RunG true (fi false) (.done 0 [] sGe) := by unfold RunG; kernel_rfl
theorem g_end0 : RunG false (fi false) (.done 1 [] ⟨[], [], [], [], []⟩) := by unfold RunG; kernel_rfl
/-- What stays. -/
def rest (n : Int) (K : List Int) : List Int := K.filter fun x => decide (x ≠ n)
theorem rest_succ {n : Int} {K : List Int} {i : Nat} (hi : i < K.length) : rest n (K.take (i + 1)) = rest n (K.take i) ++ (if K.getD i 0 = n then [] else [K.getD i 0]) := by
  have e : K.getD i 0 = K[i] := by rw [List.getD_eq_getElem?_getD, List.getElem?_eq_getElem hi]; rfl
  rw [e]
  unfold rest
  rw [List.take_add_one, List.getElem?_eq_getElem hi, List.filter_append]
  congr 1
  by_cases h : K[i] = n <;> simp [h]
theorem rest_le (n : Int) (K : List Int) : (rest n K).length ≤ K.length := List.length_filter_le ..
theorem rest_lt (n : Int) (K : List Int) : (rest n K).length < K.length ↔ n ∈ K := by
  unfold rest
  rw [List.length_filter_lt_length_iff_exists]
  constructor
  · rintro ⟨x, hx, h⟩
    have : x = n := by simpa using h
    rwa [← this]
  · intro h; exact ⟨n, h, by simp⟩
structure Jg (most h n : Int) (K : List Int) (y : Bool) (i : Nat) (ρ : Env) : Prop where
  m34 : ρ.I 34 = most
  h35 : ρ.I 35 = h
  n36 : ρ.I 36 = n
  k33 : ρ.I 33 = encL K
  l30 : ρ.I 30 = K.length
  i1 : ρ.I 1 = (i : Int)
  il : i ≤ K.length
  no : y = false → rest n (K.take i) = []
  ye : y = true → ρ.I 8 = ((rest n (K.take i)).length : Int) ∧ ρ.I 10 = encL (rest n (K.take i)) ∧ rest n (K.take i) ≠ []
theorem Jg.of_le {most h n : Int} {K : List Int} {y : Bool} {i : Nat} {ρ ρ' : Env} (j : Jg most h n K y i ρ) (g : ρ.Le ρ') : Jg most h n K y i ρ' :=
  ⟨by rw [g.i]; exact j.m34, by rw [g.i]; exact j.h35, by rw [g.i]; exact j.n36, by rw [g.i]; exact j.k33, by rw [g.i]; exact j.l30, by rw [g.i]; exact j.i1, j.il, j.no, by rw [g.i]; exact j.ye⟩
/-- What the reference's Give answers. -/
def GiveO (w : World) (most h n : Int) (K : List Int) (x : Value) (w' : World) : Prop :=
  ∃ v', x = .tuple #[stV most h v', .bool (decide (n ∈ K))] ∧ ((rest n K = [] ∧ v' = .slice none 0 0 ∧ Framed w w') ∨ (rest n K ≠ [] ∧ RowOut w w' v' 3 [.i64] (rest n K) (rest n K).length))
section
variable (w0 : World) {most h n : Int} {K : List Int} (h0 : K ≠ []) (h1 : K.length ≤ 70000)
include h0 h1
theorem csV_ok {y : Bool} {i : Nat} {ρ : Env} (j : Jg most h n K y i ρ) : CRel ρ (V0 y).cs := by
  have a := csI_ok j.i1 j.il j.l30 h0 h1
  cases y with
  | false => exact CRel_app.2 ⟨a, c0⟩
  | true =>
    obtain ⟨e8, _, hne⟩ := j.ye rfl
    have := List.length_pos_iff.2 hne
    have h2 := rest_le n (K.take i)
    have h3 := List.length_take_le i K
    have h4 : (K.take i).length ≤ K.length := by rw [List.length_take]; omega
    exact CRel_app.2 ⟨a, c1 (geqT (varD e8) (litD 1) (by omega)) (c1 (leqT (varD e8) (litD 70000) (by omega)) c0)⟩
omit h0 in
theorem toV {y : Bool} {i : Nat} {ρ' : Env} {σ : Sub} {L : List Int} {t8 t10 : IT} (j : Jg most h n K y i ρ') (hi : i < K.length) (l36 : lk σ.I 36 = none) (l34 : lk σ.I 34 = none) (l35 : lk σ.I 35 = none) (l33 : lk σ.I 33 = none) (l30 : lk σ.I 30 = none) (l1 : lk σ.I 1 = some up1) (hL : rest n (K.take (i + 1)) = L) (hne : L ≠ [])
    (l8 : lk σ.I 8 = some t8) (l10 : lk σ.I 10 = some t10) (d8 : t8.den ρ' = some (L.length : Int)) (d10 : t10.den ρ' = some (encL L)) : Jg most h n K true (i + 1) (σ.app ρ') :=
  ⟨by rw [app_I l34]; exact j.m34, by rw [app_I l35]; exact j.h35, by rw [app_I l36]; exact j.n36, by rw [app_I l33]; exact j.k33, by rw [app_I l30]; exact j.l30, sbI l1 (upD (varD j.i1) (by omega)), hi, (fun e => by cases e), fun _ => by rw [hL]; exact ⟨sbI l8 d8, sbI l10 d10, hne⟩⟩
omit h0 in
theorem addV {y : Bool} {i : Nat} {ρ' : Env} (j : Jg most h n K y i ρ') (hi : i < K.length) (hn : K.getD i 0 ≠ n) : Jg most h n K true (i + 1) ((sGa y).app ρ') := by
  have e := rest_succ (n := n) hi
  rw [if_neg hn] at e
  have h2 := rest_le n (K.take i)
  have h4 : (K.take i).length ≤ K.length := by rw [List.length_take]; omega
  refine toV h1 (σ := sGa y) j hi rfl rfl rfl rfl rfl rfl e (by simp) (t8 := cond y (.bin .add .i64 (.var 8) (.lit 1)) (.lit 1)) rfl (t10 := .un 3 (cond y (.var 10) (.lit 0)) atL) rfl ?_ ?_
  · cases y with
    | false => rw [j.no rfl]; rfl
    | true =>
      have := upD (varD (j.ye rfl).1) (by omega)
      rw [List.length_append]; exact this
  · cases y with
    | false =>
      rw [j.no rfl]
      refine (unD (litD 0) (atL_den j.k33 j.i1)).trans ?_
      show some (encL (decL 0 ++ [K.getD i 0])) = _
      rw [decL_zero]
    | true =>
      refine (unD (varD (j.ye rfl).2.1) (atL_den j.k33 j.i1)).trans ?_
      show some (encL (decL (encL _) ++ [K.getD i 0])) = _
      rw [decL_encL]
theorem loopV1 : ∀ ρ, (∃ i, Jg most h n K true i ρ) → ∀ todo a w, todo = .inLoop gb0 :: gk0 ∨ todo = .code (.loop gb0) :: gk0 → SRel (.plain w0) ρ ((V0 true).st todo) a w → Goes Try.prog 15 (fun e w' => GiveO w0 most h n K e w') todo a w := by
  refine loop_goesE (R := GiveO w0 most h n K) (n := 4000) (g := gA) (L := []) (pl := true) (Rs := eV) (Ts := [V0 true, V0 false]) (β := .plain w0) noCount noExt (noSpB _) follows (fun ρ => ∃ i, Jg most h n K true i ρ) (fun ρ => ((K.length : Int) - ρ.I 1).toNat) (fun ρ hJ hH hcs hG ih => ?_)
  obtain ⟨i, j⟩ := hJ
  by_cases hi : i < K.length
  · have f1 : CRel ρ (fi true) := c1 (lssT (varD j.i1) (varD j.l30) (by omega)) c0
    by_cases he : K.getD i 0 = n
    · refine ⟨_, _, CRel_app.2 ⟨CRel_app.2 ⟨f1, c1 (neqF (atL_den j.k33 j.i1) (varD j.n36) he) c0⟩, hcs⟩, g_keep, one (nextR (T := V0 true) rfl (fun l hl => by cases hl) fun ρ' hle hG' => ?_)⟩
      have jl := j.of_le hle
      have e := rest_succ (n := n) hi
      rw [if_pos he, List.append_nil] at e
      have h' : Jg most h n K true (i + 1) (sGk.app ρ') := toV h1 (σ := sGk) jl hi rfl rfl rfl rfl rfl rfl e (jl.ye rfl).2.2 (t8 := .var 8) rfl (t10 := .var 10) rfl (varD (jl.ye rfl).1) (varD (jl.ye rfl).2.1)
      refine ⟨trivial, csV_ok h0 h1 h', fun a w r => ih _ ?_ ⟨i + 1, h'⟩ _ a w (.inl rfl) r⟩
      rw [h'.i1, j.i1]; omega
    · refine ⟨_, _, CRel_app.2 ⟨CRel_app.2 ⟨f1, c1 (neqT (atL_den j.k33 j.i1) (varD j.n36) he) c0⟩, hcs⟩, g_add true, one (nextR (T := V0 true) rfl (fun l hl => by cases hl) fun ρ' hle hG' => ?_)⟩
      have h' := addV h1 (j.of_le hle) hi he
      refine ⟨trivial, csV_ok h0 h1 h', fun a w r => ih _ ?_ ⟨i + 1, h'⟩ _ a w (.inl rfl) r⟩
      rw [h'.i1, j.i1]; omega
  · have hil := j.il
    refine ⟨_, _, CRel_app.2 ⟨c1 (lssF (varD j.i1) (varD j.l30) (by omega)) c0, hcs⟩, g_end, one (doneR rfl (fun l hl => by cases hl) fun ρ' hle hG => ⟨trivial, c0, fun x w' r => ?_⟩)⟩
    have jl := j.of_le hle
    have et : K.take i = K := List.take_of_length_le (by omega)
    obtain ⟨e8, e10, hne⟩ := jl.ye rfl
    rw [et] at e8 e10 hne
    obtain ⟨y, hy, he⟩ := r.t 0 _ rfl
    obtain rfl : x = y := Option.some.inj he
    have d34 : (sGe.app ρ').I 34 = most := by rw [app_I rfl]; exact jl.m34
    have d35 : (sGe.app ρ').I 35 = h := by rw [app_I rfl]; exact jl.h35
    have d30 : (sGe.app ρ').I 30 = K.length := by rw [app_I rfl]; exact jl.l30
    have d8 : (sGe.app ρ').I 8 = ((rest n K).length : Int) := sbI (t := .var 8) rfl (varD e8)
    have d10 : (sGe.app ρ').I 10 = encL (rest n K) := sbI (t := .var 10) rfl (varD e10)
    generalize sGe.app ρ' = σ at hy r d34 d35 d30 d8 d10
    have eb : (AVal.bool (.cmp .lss (.var 8) (.var 30))).den σ = some (.bool (decide (n ∈ K))) := by
      have h2 := rest_lt n K
      by_cases hm : n ∈ K
      · have h3 := h2.2 hm
        simp only [AVal.den, lssT (varD d8) (varD d30) (by omega), hm, decide_true, Option.map_some]
      · have h3 : ¬ (rest n K).length < K.length := fun e => hm (h2.1 e)
        simp only [AVal.den, lssF (varD d8) (varD d30) (by omega), hm, decide_false, Option.map_some]
    obtain ⟨ts, hts⟩ : ∃ ts, (AVal.slice 11 (.lit 0) (.var 8) (.nv 10)).den σ = some ts := by
      cases hs : (AVal.slice 11 (.lit 0) (.var 8) (.nv 10)).den σ with
      | some ts => exact ⟨ts, rfl⟩
      | none =>
        simp only [gvA, cond_true] at hy
        have e : ∀ a b c d : AVal, c.den σ = none → (AVal.tuple [.agg [a, b, c], d]).den σ = none := fun a b c d hc => by
          simp only [AVal.den, AVal.denL, hc]
          cases a.den σ <;> cases b.den σ <;> cases d.den σ <;> rfl
        rw [e _ _ _ _ hs] at hy; cases hy
    have ho := row_out rfl r.h (l := 11) (j := 10) (nT := .var 8) (c := .var 10) (m := (rest n K).length) (L := rest n K) rfl hts (varD d8) (varD d10)
    exact ⟨ts, Option.some.inj (hy.symm.trans (tupD (aggD (iVD d34) (iVD d35) hts) eb)), .inr ⟨hne, ho⟩⟩
theorem loopV0 : ∀ ρ, (∃ i, Jg most h n K false i ρ) → ∀ todo a w, todo = .inLoop gb0 :: gk0 ∨ todo = .code (.loop gb0) :: gk0 → SRel (.plain w0) ρ ((V0 false).st todo) a w → Goes Try.prog 15 (fun e w' => GiveO w0 most h n K e w') todo a w := by
  refine loop_goesE (R := GiveO w0 most h n K) (n := 4000) (g := gA) (L := []) (pl := true) (Rs := eV) (Ts := [V0 true, V0 false]) (β := .plain w0) noCount noExt (noSpB _) follows (fun ρ => ∃ i, Jg most h n K false i ρ) (fun ρ => ((K.length : Int) - ρ.I 1).toNat) (fun ρ hJ hH hcs hG ih => ?_)
  obtain ⟨i, j⟩ := hJ
  by_cases hi : i < K.length
  · have f1 : CRel ρ (fi true) := c1 (lssT (varD j.i1) (varD j.l30) (by omega)) c0
    by_cases he : K.getD i 0 = n
    · refine ⟨_, _, CRel_app.2 ⟨CRel_app.2 ⟨f1, c1 (neqF (atL_den j.k33 j.i1) (varD j.n36) he) c0⟩, hcs⟩, g_none, one (nextR (T := V0 false) rfl (fun l hl => by cases hl) fun ρ' hle hG' => ?_)⟩
      have jl := j.of_le hle
      have e := rest_succ (n := n) hi
      rw [if_pos he, List.append_nil, j.no rfl] at e
      have h' : Jg most h n K false (i + 1) ((sG0 up1).app ρ') := ⟨by rw [app_I rfl]; exact jl.m34, by rw [app_I rfl]; exact jl.h35, by rw [app_I rfl]; exact jl.n36, by rw [app_I rfl]; exact jl.k33, by rw [app_I rfl]; exact jl.l30, sbI (t := up1) rfl (upD (varD jl.i1) (by omega)), hi, fun _ => e, (fun e => by cases e)⟩
      refine ⟨trivial, csV_ok h0 h1 h', fun a w r => ih _ ?_ ⟨i + 1, h'⟩ _ a w (.inl rfl) r⟩
      rw [h'.i1, j.i1]; omega
    · refine ⟨_, _, CRel_app.2 ⟨CRel_app.2 ⟨f1, c1 (neqT (atL_den j.k33 j.i1) (varD j.n36) he) c0⟩, hcs⟩, g_add false, one (nextR (T := V0 true) rfl (fun l hl => by cases hl) fun ρ' hle hG' => ?_)⟩
      have h' := addV h1 (j.of_le hle) hi he
      exact ⟨trivial, csV_ok h0 h1 h', fun a w r => loopV1 w0 h0 h1 _ ⟨i + 1, h'⟩ _ a w (.inl rfl) r⟩
  · have hil := j.il
    refine ⟨_, _, CRel_app.2 ⟨c1 (lssF (varD j.i1) (varD j.l30) (by omega)) c0, hcs⟩, g_end0, one (doneR rfl (fun l hl => by cases hl) fun ρ' hle hG => ⟨trivial, c0, fun x w' r => ?_⟩)⟩
    have jl := j.of_le hle
    have et : K.take i = K := List.take_of_length_le (by omega)
    have hno := j.no rfl
    rw [et] at hno
    obtain ⟨y, hy, he⟩ := r.t 0 _ rfl
    obtain rfl : x = y := Option.some.inj he
    have d34 : ((⟨[], [], [], [], []⟩ : Sub).app ρ').I 34 = most := by rw [app_I rfl]; exact jl.m34
    have d35 : ((⟨[], [], [], [], []⟩ : Sub).app ρ').I 35 = h := by rw [app_I rfl]; exact jl.h35
    have d30 : ((⟨[], [], [], [], []⟩ : Sub).app ρ').I 30 = K.length := by rw [app_I rfl]; exact jl.l30
    have hp := List.length_pos_iff.2 h0
    have hm : n ∈ K := (rest_lt n K).1 (by rw [hno]; exact hp)
    generalize (⟨[], [], [], [], []⟩ : Sub).app ρ' = σ at hy r d34 d35 d30
    have eb : (AVal.bool (.cmp .lss (.lit 0) (.var 30))).den σ = some (.bool (decide (n ∈ K))) := by
      simp only [AVal.den, lssT (litD 0) (varD d30) (by omega), hm, decide_true, Option.map_some]
    exact ⟨_, Option.some.inj (hy.symm.trans (tupD (aggD (iVD d34) (iVD d35) rfl) eb)), .inl ⟨hno, rfl, Framed.of r.h⟩⟩
end
theorem give15 {w : World} {most h n : Int} {v : Value} {K : List Int} (r : RowIn w v K) (hK : K.length ≤ 70000) : Calls Try.prog 15 #[stV most h v, .int .i64 n] w (fun e w' => ∃ x, e = .returned x ∧ GiveO w most h n K x w') := by
  rcases r with ⟨rfl, rfl⟩ | ⟨h0, b, cap, c, el, fr, rfl, hob, hp⟩
  · refine calls_sumsE (R := GiveO w most h n []) (β := .plain w) (g := gA) (L := []) (Rs := eV0) (Ts := []) (pl := false) noCount noExt (noSpB _) follows Try.func15 rfl g_nil (denL2 (a := stA false) (b := iV 36) (aggD (iVD rfl) (iVD rfl) rfl) (iVD rfl)) (start_nil (most := most) (h := h) (n := n)) c0 (one (doneR rfl (fun l hl => by cases hl) fun ρ' hle hG => ⟨trivial, c0, fun x w' r => ?_⟩))
    obtain ⟨y, hy, he⟩ := r.t 0 _ rfl
    obtain rfl : x = y := Option.some.inj he
    have d34 : ((⟨[], [], [], [], []⟩ : Sub).app ρ').I 34 = most := by rw [app_I rfl, hle.i]; rfl
    have d35 : ((⟨[], [], [], [], []⟩ : Sub).app ρ').I 35 = h := by rw [app_I rfl, hle.i]; rfl
    exact ⟨_, Option.some.inj (hy.symm.trans (tupD (aggD (iVD d34) (iVD d35) rfl) rfl)), .inl ⟨rfl, rfl, Framed.of r.h⟩⟩
  · refine calls_sumsE (R := GiveO w most h n K) (β := .plain w) (g := gA) (L := []) (Rs := eV) (Ts := [V0 true, V0 false]) (pl := true) noCount noExt (noSpB _) follows Try.func15 rfl g_in (denL2 (a := stA true) (b := iV 36) (aggD (iVD rfl) (iVD rfl) (den_slice_of rfl rfl rfl rfl)) (iVD rfl)) (start_row (most := most) (h := h) (n := n) (cap := cap) hob hp) (csL_ok rfl h0 hK) (one (nextR (T := V0 false) rfl (fun l hl => by cases hl) fun ρ' hle hG' => ?_))
    have h' : Jg most h n K false 0 ((sG0 (.lit 0)).app ρ') := ⟨by rw [app_I rfl, hle.i]; rfl, by rw [app_I rfl, hle.i]; rfl, by rw [app_I rfl, hle.i]; rfl, by rw [app_I rfl, hle.i]; rfl, by rw [app_I rfl, hle.i]; rfl, sbI (t := .lit 0) rfl rfl, Nat.zero_le _, fun _ => rfl, (fun e => by cases e)⟩
    exact ⟨trivial, csV_ok h0 hK h', fun a w1 r => loopV0 w h0 hK _ ⟨0, h'⟩ _ a w1 (.inr rfl) r⟩
end La
end Go.Proofs.Ytlcjgmehccopkaa
