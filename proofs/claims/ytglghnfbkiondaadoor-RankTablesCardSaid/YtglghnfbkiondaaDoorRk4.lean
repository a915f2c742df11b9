/-
  Ranks (4): Of.
-/
import Derived.Test.YtglghnfbkiondaaDoorRk3
namespace Go.Proofs.YtglghnfbkiondaaDoor
open Go.Vm Go.Vm.Rk
namespace Rk

def sT : IT := .fn 40 (.var 5) (.lit 0)
def lastT : IT := .bin .sub .i64 (.var 6) (.lit 1)
def midT : IT := .bin .quo .i64 lastT (.lit 2)
def lateT : IT := .bin .quo .i64 (.bin .mul .i64 (.lit 9) lastT) (.lit 10)
def elS (t : IT) : IT := .un 0 sT (.elem (.lit 0) 1 0 t)
def rk6 (s : IT) : List AVal := [iV 6, .int .i64 (elS (.lit 0)), .int .i64 (elS lastT), .int .i64 s, .int .i64 (elS midT), .int .i64 (elS lateT)]
def TO : Tpl := ⟨[(2, .ptr 14 (.lit 0)), (5, .ptr 15 (.lit 0)), (39, .slice 17 (.lit 0) (.var 6) (.nv 16)), (40, iV 6), (41, iV 9)], 52, [(14, ⟨.cells (List.replicate 6 (.int .i64 (.lit 0))) 26 none, true⟩), (15, ⟨.cells (rk6 (.var 13)) 26 none, true⟩), (17, ⟨.arr (.code [.i64] sT) [.i64] 3 (.var 6) (.lit 0) (some (.nv 16)), true⟩)], 30, csI, 3⟩
def spO : CallF := spL [(19, spSrt)]
noncomputable def b8 : Code := ((loopsOf (Tryd.f8.body.getD .ret) []).getD 0 (.ret, [])).1
noncomputable def k8 : List Item := ((loopsOf (Tryd.f8.body.getD .ret) []).getD 0 (.ret, [])).2
def csO : Cs := inI (.lit 0) (.var 6) ++ inI lastT (.var 6) ++ inI midT (.var 6) ++ inI lateT (.var 6) ++ csN
def sgO (t s : IT) (a b c d : Nat) : Sub := ⟨[(6, .var 6), (9, t), (5, .var 5), (13, s)], [], [], [], [(14, a), (15, b), (17, c), (16, d)]⟩
theorem o_in : (run Tryd.prog [] spO 4000 true 8 (entry Tryd.f8 (Tryd.f8.body.getD .ret) [sL] (ofP (roH [hL])) 10 csO)).map (·.filterMap (sumD gM [TO])) = some [.next 0 (.code (.loop b8) :: k8) [] (sgO (.lit 0) (.lit 0) 10 14 13 12)] := by kernel_rfl
theorem o_1 : (run Tryd.prog [] spO 4000 true 8 ((⟨TO.tm, TO.nt, TO.H, TO.nl, fI true ++ TO.cs, TO.dep⟩ : Tpl).st (.code b8 :: .inLoop b8 :: k8))).map (·.filterMap (sumD gM [TO])) = some [.next 0 (.inLoop b8 :: k8) [] (sgO (upI 9) (.bin .add .i64 (.var 13) (elS at0)) 14 15 17 16)] := by kernel_rfl
theorem o_e : (run Tryd.prog [] spO 4000 true 8 ((⟨TO.tm, TO.nt, TO.H, TO.nl, fI false ++ TO.cs, TO.dep⟩ : Tpl).st (.code b8 :: .inLoop b8 :: k8))).map (·.filterMap (sumD gM [TO])) = some [.ret (.agg (rk6 (.var 13))) []] := by kernel_rfl
theorem spO_ok {w : World} : CallOk Tryd.prog ⟨w, [], GR⟩ spO := spL_ok fun p hp => by
  rw [List.mem_singleton.1 hp]
  exact spSrt_ok fun _ _ _ _ _ h => h
section
variable {L : List Int} {ρ : Env}
theorem sT_den (h : JN L ρ) (hG : GR.at ρ) : sT.den ρ = some (encL (sortL L)) := by
  unfold sT
  rw [fnD (varD h.i5) (litD 0), hG.1]
  simp only [decL_encL]
theorem last_den (h : JN L ρ) : lastT.den ρ = some ((L.length - 1 : Nat) : Int) := by
  have := h.n1; have := h.n3
  unfold lastT
  rw [minusD (varD h.i6) (litD 1) (by omega) (by omega)]
  congr 1; omega
theorem mid_den (h : JN L ρ) : midT.den ρ = some (((L.length - 1) / 2 : Nat) : Int) := by
  have := h.n3
  exact quoD (last_den h) (by omega) 2 (by decide)
theorem late_den (h : JN L ρ) : lateT.den ρ = some ((9 * (L.length - 1) / 10 : Nat) : Int) := by
  have := h.n3
  refine quoD (X := 9 * (L.length - 1)) ?_ (by omega) 10 (by decide)
  rw [binD (litD 9) (last_den h)]
  show some (IntKind.i64.wrap (9 * ((L.length - 1 : Nat) : Int))) = _
  rw [wrapI (by omega) (by omega)]
  congr 1
theorem csO_ok (h : JN L ρ) : CRel ρ csO := by
  have := h.n1
  exact CRel_app.2 ⟨CRel_app.2 ⟨CRel_app.2 ⟨CRel_app.2 ⟨inI_ok (i := 0) rfl (varD h.i6) (by omega), inI_ok (last_den h) (varD h.i6) (by omega)⟩, inI_ok (mid_den h) (varD h.i6) (by omega)⟩, inI_ok (late_den h) (varD h.i6) (by omega)⟩, h.cs⟩
end
/-- A rank, as a value. -/
def rankV (L : List Int) : Value := .agg #[.int .i64 (L.length : Int), .int .i64 (least L), .int .i64 (most L), .int .i64 (sumW L L.length), .int .i64 (mid L), .int .i64 (late L)]
structure JO (L : List Int) (i : Nat) (ρ : Env) : Prop where
  j : JI L i ρ
  i13 : ρ.I 13 = sumW L i
theorem JO.of_le {L : List Int} {i : Nat} {ρ ρ' : Env} (h : JO L i ρ) (g : ρ.Le ρ') : JO L i ρ' := ⟨h.j.of_le g, by rw [g.i]; exact h.i13⟩
theorem of8 {w : World} {b o q : Nat} {L : List Int} (h : IntsAt w b o L) (h1 : 1 ≤ L.length) (h3 : L.length ≤ 300) : Calls Tryd.prog 8 #[.slice (some ⟨b, o, none⟩) L.length q] w fun e w' => e = .returned (rankV L) ∧ Framed w w' := by
  have hr := startR (q := q) (G := GR) (F := FR) h (GR_at ..)
  have loop := loop_goesD (P := Tryd.prog) (β := ⟨w, [], GR⟩) (f := 8) (Q := fun v => v = rankV L) (Ts := [TO]) (T := TO) (b := b8) (k := k8) (n := 4000) (g := gM) (pl := true) noCount noExt spO_ok follows rfl (fun ρ => ∃ i, JO L i ρ) (fun ρ => ((L.length : Int) - ρ.I 9).toNat) fun ρ ⟨i, j⟩ _ hcs hG ih => by
    have hi := j.j.le
    by_cases hlt : i < L.length
    · refine ⟨fI true ++ TO.cs, _, CRel_app.2 ⟨j.j.lt (decide_eq_true hlt), hcs⟩, o_1, Go.Vm.one (nextS rfl fun ρ' hle hG' => ?_)⟩
      have j' := j.of_le hle
      have es : (IT.bin .add .i64 (.var 13) (elS at0)).den ρ' = some (sumW L (i + 1)) := by
        refine (binD (varD j'.i13) (el_den (sT_den j'.j.n hG') (varD j'.j.i9))).trans ?_
        rfl
      have jn : JO L (i + 1) ((sgO (upI 9) (.bin .add .i64 (.var 13) (elS at0)) 14 15 17 16).app ρ') := ⟨⟨⟨j'.j.n.i5, j'.j.n.i6, h1, h3⟩, sbI (t := upI 9) rfl (upD (varD j'.j.i9) (by omega)), hlt⟩, sbI rfl es⟩
      exact ⟨hG', jn.j.cs, fun a w' r => ih _ (by rw [jn.j.i9, j.j.i9]; omega) ⟨_, jn⟩ _ a w' (.inl rfl) r⟩
    · obtain rfl : i = L.length := by omega
      refine ⟨fI false ++ TO.cs, _, CRel_app.2 ⟨j.j.lt (decide_eq_false hlt), hcs⟩, o_e, Go.Vm.one ?_⟩
      intro ρ' hle _ x hx
      have j' := j.of_le hle
      have hG' : GR.at ρ' := by
        have := hle.f
        unfold GP.at GR at hG ⊢
        rw [this]; exact hG
      have hs := sT_den j'.j.n hG'
      have d0 := el_den (t := .lit 0) (i := 0) hs rfl
      have d1 := el_den hs (last_den j'.j.n)
      have d2 := el_den hs (mid_den j'.j.n)
      have d3 := el_den hs (late_den j'.j.n)
      have d6 : (IT.var 6).den ρ' = some (L.length : Int) := varD j'.j.n.i6
      have d13 : (IT.var 13).den ρ' = some (sumW L L.length) := varD j'.i13
      have : (AVal.agg (rk6 (.var 13))).den ρ' = some (rankV L) := by
        simp only [rk6, iV, elS, AVal.den, AVal.denL, d0, d1, d2, d3, d6, d13, Option.map_some]; rfl
      exact Option.some.inj (hx.symm.trans this)
  refine (calls_sumsD (β := ⟨w, [], GR⟩) (Q := fun v => v = rankV L) (g := gM) (Ts := [TO]) (pl := true) noCount noExt spO_ok follows rfl Tryd.func8 rfl o_in (denL1 (den_slice_of rfl rfl rfl rfl)) hr (csO_ok ⟨rfl, rfl, h1, h3⟩) (Go.Vm.one (nextS rfl fun ρ' hle hG' => ?_))).mono fun e w' ⟨v, he, hv, hf⟩ => ⟨by rw [he, hv], hf⟩
  have jn : JO L 0 ((sgO (.lit 0) (.lit 0) 10 14 13 12).app ρ') := ⟨⟨⟨by show ρ'.I 5 = _; rw [hle.i]; rfl, by show ρ'.I 6 = _; rw [hle.i]; rfl, h1, h3⟩, rfl, Nat.zero_le _⟩, rfl⟩
  exact ⟨hG', jn.j.cs, fun a w' r => loop _ ⟨_, jn⟩ _ a w' (.inr rfl) r⟩
end Rk
end Go.Proofs.YtglghnfbkiondaaDoor
