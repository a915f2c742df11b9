/-
  Stocks (5): Give, Used, Len, High.
-/
import Derived.Test.YtlcjgmehccopkaaLp4
namespace Go.Proofs.Ytlcjgmehccopkaa
open Go.Vm Go.Vm.Le
namespace Lp

/-- What Give answers, and makes. -/
def GiveR (w : World) (b : Nat) (F : Nat → Prop) (most : Int) (h : Nat) (K : List Int) (x : Int) (e : Ending) (w' : World) : Prop :=
  e = .returned (.int .i64 (if x ∈ K then 0 else 21)) ∧ ∃ F', BigStep w w' F F' ∧ StockIn w' b F' most h (K.erase x)
def opV (x : Int) : Value := .agg #[.int .i64 0, .int .i64 0, .int .i64 x]
theorem i9_den {ρ : Env} {y : Int} (h9 : ρ.I 9 = y) : (iV 9).den ρ = some (.int .i64 y) := by simp only [iV, AVal.den, IT.den, h9, Option.map_some]
section
variable {w : World} {b : Nat} {F : Nat → Prop} {most : Int} {h : Nat} {B K : List Int} {ρ : Env} {x : Int}
theorem tN0_den {z : Value} (s : S02 z 0 most 0 h B K ρ) (hz : opN z 0 = x) : tN0.den ρ = some x := by rw [← hz]; exact tN_den s
theorem push_nil (x : Int) : pushL [] x = [x] := by
  unfold pushL
  rw [upL]
  simp
/-- The ends of Give where one is given back. -/
theorem end_give {own : List Nat} {H0 : Bk} {σ : Sub} {r q : Nat} {T : Tpl} {B' K' : List Int} (hr0 : r ≠ 0) (hr2 : r ≠ 2) (_hO : own = oL H0) (hT : (eS (iV 9))[q]? = some T) (_hT0 : T.H.length = 3 → True) (hTt : T.tm = [(0, iV 9)]) (hTn : T.nl = 5) (hg : (ofP T.H).get 0 = some (stB (.slice r (.lit 0) (.var 6) (.nv 4)))) (hg2 : (ofP T.H).get 2 = some mB) (hgr : (ofP T.H).get r = some rB) (hTc : T.cs = [])
    (hown : ∀ l ∈ oL H0, lk σ.N l = some l) (hb : ρ.N 0 = some b) (ho : ∀ l ∈ oL H0, ∃ y, ρ.N l = some y ∧ F y) (h0l : 0 ∈ oL H0) (s' : Stk most h B' K') (m0 : 0 ≤ most) (m1 : most ≤ 65535) (hσN : ∀ ρ' : Env, ∀ l ∈ oL H0, (σ.app ρ').N l = ρ'.N l)
    (hd : ∀ ρ', ρ.Le ρ' → GL.at ρ' → GL.at (σ.app ρ') ∧ (σ.app ρ').I 9 = 0 ∧ (σ.app ρ').I 0 = most ∧ (σ.app ρ').I 3 = (h : Int) ∧ decL ((σ.app ρ').I 4) = usedL K' ∧ (σ.app ρ').I 6 = (B'.length : Int) ∧ (decL ((σ.app ρ').I 5)).take B'.length = B') {cs : Cs} :
    MGoodO Try.prog (βS w H0) 11 (RS w b F most h K' (.int .i64 0)) (eS (iV 9)) [] ρ (.done q cs σ) := by
  refine doneR hT hown fun ρ' hle hG => ?_
  obtain ⟨g, i9, i0, i3, i4, i6, i5⟩ := hd ρ' hle hG
  refine ⟨g, by rw [hTc]; exact c0', fun y w' rr => ?_⟩
  have ht : (ofP T.tm).get 0 = some (iV 9) := by rw [hTt]; rfl
  obtain ⟨y1, hy, he⟩ := rr.t 0 (iV 9) ht
  obtain rfl : y = y1 := Option.some.inj he
  have hy2 := i9_den i9
  rw [hy] at hy2
  refine ⟨Option.some.inj hy2, ?_⟩
  have hN0 : (σ.app ρ').N 0 = some b := by rw [hσN ρ' 0 h0l]; exact hle.n _ _ hb
  have hF : ∀ l ∈ oL H0, ∀ y, (σ.app ρ').N l = some y → F y := fun l hl y hy => by
    obtain ⟨y0, hy0, hF0⟩ := ho l hl
    rw [hσN ρ' l hl, hle.n _ _ hy0] at hy
    cases hy; exact hF0
  have hh : HRel ⟨w, oL H0, GL⟩ (σ.app ρ') (ofP T.H) 5 w' := by
    have := rr.h
    rw [show (T.st []).nl = 5 from hTn] at this
    exact this
  exact end_row hr0 hr2 hh hF hg hg2 hgr hN0 i0 i3 i4 i6 i5 s' m0 m1
end
theorem give11 {w : World} {b : Nat} {F : Nat → Prop} {most : Int} {h : Nat} {K : List Int} (s : StockIn w b F most h K) (x : Int) : Calls Try.prog 11 #[.pointer (some ⟨b, 0, none⟩), .int .i64 x] w (GiveR w b F most h K x) := by
  obtain ⟨z, ρ, B, hr, s2, hrow, hnil, hF, hb, hz⟩ := start (opV x) s
  have ho := own_in hr hF
  have hN : opN (opV x) 0 = x := rfl
  have tN1 : ∀ ρ', ρ.Le ρ' → tN0.den ρ' = some x := fun ρ' hle => tN0_den (s2.of_le hle) hN
  have hxs : AVal.denL ρ [me, .int .i64 tN0] = some [.pointer (some ⟨b, 0, none⟩), .int .i64 x] := denL2 (me_den hb) (by simp only [AVal.den, tN1 ρ (Env.Le.refl ρ), Option.map_some])
  have hcs := csB_ok s2 hrow
  have m0 := s2.m0; have m1 := s2.m
  have hans : ∀ (y : IT) (k : Nat), (k = 0 ∨ k = 3 ∨ k = 4 ∨ k = 5 ∨ k = 6 ∨ k = 7 ∨ k = 11) → lk [(9, y)] k = none := fun y k hk => by rcases hk with rfl | rfl | rfl | rfl | rfl | rfl | rfl <;> rfl
  by_cases hxK : x ∈ K
  · obtain ⟨s', _⟩ := s2.s.give hxK
    have hze : CRel ρ (ze (.var 4) tN0 true) := ze_ok s2 (tN1 ρ (Env.Le.refl ρ)) (decide_eq_true hxK)
    have fin : ∀ {e : Ending} {w' : World}, (∃ v, e = .returned v ∧ RS w b F most h (K.erase x) (.int .i64 0) v w') → GiveR w b F most h K x e w' := fun ⟨v, he, hv, hst⟩ => ⟨by rw [he, hv, if_pos hxK], hst⟩
    have none0 : ∀ (z : Bk), z ≠ .row → oL z = [0, 2] := fun z hz => by cases z <;> first | rfl | exact absurd rfl hz
    have empty : ∀ (z : Bk) (hzr : z ≠ .row), B = [] → ((∀ l ∈ oL z, ∃ y, ρ.N l = some y ∧ F y)) → MGoodO Try.prog (βS w z) 11 (RS w b F most h (K.erase x) (.int .i64 0)) (eS (iV 9)) [] ρ (.done 0 [] sgA) := fun z hzr hB ho => by
      subst hB
      rw [push_nil] at s'
      refine end_give (r := 1) (T := ⟨[(0, iV 9)], 1, hB .row, 5, [], 0⟩) (by decide) (by decide) rfl rfl (fun _ => trivial) rfl rfl rfl rfl rfl rfl (fun l hl => ?_) hb ho (by rw [none0 z hzr]; simp) s' m0 m1 (fun ρ' l hl => ?_) (fun ρ' hle hG => ⟨hG, sbI (t := .lit 0) rfl rfl, sbI (t := .var 0) rfl (congrArg some (s2.of_le hle).i0), sbI (t := .var 3) rfl (congrArg some (s2.of_le hle).i3), ?_, sbI (t := .lit 1) rfl rfl, ?_⟩)
      · rw [none0 z hzr] at hl
        simp only [List.mem_cons, List.not_mem_nil, or_false] at hl
        rcases hl with rfl | rfl <;> rfl
      · rw [none0 z hzr] at hl
        simp only [List.mem_cons, List.not_mem_nil, or_false] at hl
        rcases hl with rfl | rfl <;> rfl
      · rw [sbI (t := .un 8 (.var 4) tN0) rfl (del_den (s2.of_le hle) (tN1 ρ' hle)), decL_encL]
      · have e5 : (IT.un 3 (.lit 0) tN0).den ρ' = some (encL [x]) := by rw [unD (litD 0) (tN1 ρ' hle)]; rfl
        rw [sbI (t := .un 3 (.lit 0) tN0) rfl e5, decL_encL]; rfl
    cases z with
    | nil => exact (calls_sumsE (β := βS w .nil) (R := RS w b F most h (K.erase x) (.int .i64 0)) (g := gS) (L := oL .nil) (Rs := eS (iV 9)) (Ts := []) (pl := true) noCount noExt (sp8_ok w .nil) follows Try.func11 rfl v_nil hxs hr (CRel_app.2 ⟨hze, hcs⟩) (one (empty .nil (by simp) (hnil (by simp)) ho))).mono fun _ _ => fin
    | zero => exact (calls_sumsE (β := βS w .zero) (R := RS w b F most h (K.erase x) (.int .i64 0)) (g := gS) (L := oL .zero) (Rs := eS (iV 9)) (Ts := []) (pl := true) noCount noExt (sp8_ok w .zero) follows Try.func11 rfl v_zero hxs hr (CRel_app.2 ⟨hze, hcs⟩) (one (empty .zero (by simp) (hnil (by simp)) ho))).mono fun _ _ => fin
    | row =>
      have r := hrow rfl
      have hbl := s2.bl
      have hpl : (pushL B x).length = B.length + 1 := by
        have := (push_ok (x := x) s2.s.heap).2.length_eq
        simpa using this
      refine (calls_sumsE (β := βS w .row) (R := RS w b F most h (K.erase x) (.int .i64 0)) (g := gS) (L := oL .row) (Rs := eS (iV 9)) (Ts := []) (pl := true) noCount noExt (sp8_ok w .row) follows Try.func11 rfl v_row hxs hr (CRel_app.2 ⟨CRel_app.2 ⟨fQ_ok r hbl, hze⟩, hcs⟩)
        (one (end_give (r := 3) (T := ⟨[(0, iV 9)], 1, hB3, 5, [], 0⟩) (by decide) (by decide) rfl rfl (fun _ => trivial) rfl rfl rfl rfl rfl rfl (fun l hl => ?_) hb ho (by simp [oL]) s' m0 m1 (fun ρ' l hl => ?_) (fun ρ' hle hG => ⟨hG, sbI (t := .lit 0) rfl rfl, sbI (t := .var 0) rfl (congrArg some (s2.of_le hle).i0), sbI (t := .var 3) rfl (congrArg some (s2.of_le hle).i3), ?_, ?_, ?_⟩)))).mono fun _ _ => fin
      · simp only [oL, List.mem_cons, List.not_mem_nil, or_false] at hl
        rcases hl with rfl | rfl | rfl <;> rfl
      · simp only [oL, List.mem_cons, List.not_mem_nil, or_false] at hl
        rcases hl with rfl | rfl | rfl <;> rfl
      · rw [sbI (t := .un 8 (.var 4) tN0) rfl (del_den (s2.of_le hle) (tN1 ρ' hle)), decL_encL]
      · rw [sbI (t := h6) rfl (j6_den (r.of_le hle) hbl).1, hpl]
      · rw [sbI (t := psh (.un 10 (.var 5) (.var 6)) j6) rfl (psh_den hG (r.of_le hle) (s2.of_le hle) hbl), decL_encL, hN]
        exact List.take_length
  · have he : K.erase x = K := List.erase_of_not_mem hxK
    refine (calls_sumsE (β := βS w z) (R := RS w b F most h K (.int .i64 21)) (g := gS) (L := oL z) (Rs := eS (iV 9)) (Ts := []) (pl := true) noCount noExt (sp8_ok w z) follows Try.func11 rfl (v_no z) hxs hr (CRel_app.2 ⟨ze_ok s2 (tN1 ρ (Env.Le.refl ρ)) (decide_eq_false hxK), hcs⟩)
      (one (endS (x4 := ρ.I 4) (x5' := ρ.I 5) hb ho hz s2 (hans _) s2.s hnil (fun ρ' hle _ => congrArg some (s2.of_le hle).i3) (fun ρ' hle _ => by show some (ρ'.I 4) = _; rw [hle.i]) s2.i4 (fun e ρ' hle _ => congrArg some ((hrow e).of_le hle).i6) (fun e ρ' hle _ => by show some (ρ'.I 5) = _; rw [hle.i]) (fun e => (hrow e).i5) (fun ρ' hle hG' => i9_den (sbI (t := .lit 21) (by cases z <;> rfl) rfl))))).mono fun e w' ⟨y, hee, hy, hst⟩ => ⟨by rw [hee, hy, if_neg hxK], by rw [he]; exact hst⟩
-- WHAT IS ONLY ASKED
theorem start_ro {w : World} {b : Nat} {F : Nat → Prop} {most : Int} {h : Nat} {K : List Int} (v : Value) (s : StockIn w b F most h K) : ∃ ρ B, HRel (.plain w) ρ (ofP (rO.map fun p => (p.1, (⟨p.2, false⟩ : HB)))) 5 w ∧ S02 v 0 most 0 h B K ρ ∧ ρ.N 0 = some b := by
  obtain ⟨⟨B, c, fr, vb, bm, es, cl, hob, hc, hf, hom, he, hs, hne, hbk⟩, m0, m1⟩ := s
  have hsize : c.size = 4 := by
    have : c.toList.length = 4 := by rw [hc]; rfl
    simpa using this
  refine ⟨envL most h B K [] b 0 bm 0 0 v vb, B, HRel.ro rO (fun p hp => ?_) (fun i hi => ?_) trivial, ⟨rfl, rfl, rfl, decL_encL _, rfl, rfl, Nat.le_refl _, by omega, m0, m1, hs⟩, rfl⟩
  · simp only [rO, List.mem_cons, List.not_mem_nil, or_false] at hp
    rcases hp with rfl | rfl
    · exact ⟨b, _, rfl, hob, [.int .i64 most, .int .i64 h, vb, .map (some bm)], c, fr, rfl, rfl, by rw [hc]; exact List.prefix_refl _, hsize, fun e => by cases e⟩
    · exact ⟨bm, _, rfl, hom, encL (usedL K), es, cl, rfl, rfl, by rw [decL_encL, entOf_used]; exact he⟩
  · show (if i = 0 then some b else if i = 1 then some 0 else if i = 2 then some bm else if i = 4 then some 0 else none) = none
    rw [if_neg (by omega), if_neg (by omega), if_neg (by omega), if_neg (by omega)]
theorem r_used : (run Try.prog [] (spL []) 4000 true 9 (entry Try.f9 (Try.f9.body.getD .ret) [me, .int .i64 tN0] (ofP (rO.map fun p => (p.1, (⟨p.2, false⟩ : HB)))) 5 [])).map (·.filterMap (sumD gS [])) = some [.ret (.bool (us (.var 4) tN0)) []] := by kernel_rfl
theorem r_len : (run Try.prog [] (spL []) 4000 true 10 (entry Try.f10 (Try.f10.body.getD .ret) [me] (ofP (rO.map fun p => (p.1, (⟨p.2, false⟩ : HB)))) 5 [])).map (·.filterMap (sumD gS [])) = some [.ret (.int .i64 (.un 9 (.var 4) (.lit 0))) []] := by kernel_rfl
theorem r_high : (run Try.prog [] (spL []) 4000 true 12 (entry Try.f12 (Try.f12.body.getD .ret) [me] (ofP (rO.map fun p => (p.1, (⟨p.2, false⟩ : HB)))) 5 [])).map (·.filterMap (sumD gS [])) = some [.ret (.int .i64 (.var 3)) []] := by kernel_rfl
section
variable {w : World} {b : Nat} {F : Nat → Prop} {most : Int} {h : Nat} {K : List Int}
theorem used9 (s : StockIn w b F most h K) (x : Int) : Calls Try.prog 9 #[.pointer (some ⟨b, 0, none⟩), .int .i64 x] w (fun e w' => e = .returned (.bool (decide (x ∈ K))) ∧ Framed w w') := by
  obtain ⟨ρ, B, hr, s2, hb⟩ := start_ro (opV x) s
  have hN : opN (opV x) 0 = x := rfl
  exact (calls_sumsD (β := .plain w) (Q := fun v => v = .bool (decide (x ∈ K))) (Ts := []) (g := gS) (pl := true) noCount noExt (noSpB _) follows rfl Try.func9 rfl r_used (denL2 (me_den hb) (by simp only [AVal.den, tN0_den s2 hN, Option.map_some])) hr c0'
    (one (retS (fun ρ' hle => by simp only [AVal.den, us_den (s2.of_le hle) (tN0_den (s2.of_le hle) hN), Option.map_some]) rfl))).mono fun e w' ⟨v, he, hv, hf⟩ => ⟨by rw [he, hv], hf⟩
theorem len10 (s : StockIn w b F most h K) : Calls Try.prog 10 #[.pointer (some ⟨b, 0, none⟩)] w (fun e w' => e = .returned (.int .i64 (K.length : Int)) ∧ Framed w w') := by
  obtain ⟨ρ, B, hr, s2, hb⟩ := start_ro (.agg #[]) s
  exact (calls_sumsD (β := .plain w) (Q := fun v => v = .int .i64 (K.length : Int)) (Ts := []) (g := gS) (pl := true) noCount noExt (noSpB _) follows rfl Try.func10 rfl r_len (denL1 (me_den hb)) hr c0'
    (one (retS (fun ρ' hle => by simp only [AVal.den, len_den (den_var 4) (s2.of_le hle).i4, Option.map_some]) rfl))).mono fun e w' ⟨v, he, hv, hf⟩ => ⟨by rw [he, hv], hf⟩
theorem high12 (s : StockIn w b F most h K) : Calls Try.prog 12 #[.pointer (some ⟨b, 0, none⟩)] w (fun e w' => e = .returned (.int .i64 (h : Int)) ∧ Framed w w') := by
  obtain ⟨ρ, B, hr, s2, hb⟩ := start_ro (.agg #[]) s
  exact (calls_sumsD (β := .plain w) (Q := fun v => v = .int .i64 (h : Int)) (Ts := []) (g := gS) (pl := true) noCount noExt (noSpB _) follows rfl Try.func12 rfl r_high (denL1 (me_den hb)) hr c0'
    (one (retS (fun ρ' hle => by simp only [AVal.den, IT.den, (s2.of_le hle).i3, Option.map_some]) rfl))).mono fun e w' ⟨v, he, hv, hf⟩ => ⟨by rw [he, hv], hf⟩
end
end Lp
end Go.Proofs.Ytlcjgmehccopkaa
