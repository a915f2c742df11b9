/-
  Ranks (5): Classes.
-/
import Derived.Test.YtglghnfbkiondaaDoorRk3
import Derived.Test.YtglghnfbkiondaaDoorRk2
import Derived.Test.YtglghnfbkiondaaDoorRk4
section
namespace Go.Proofs.YtglghnfbkiondaaDoor
open Go.Vm Go.Vm.Rk
namespace Rk

-- bits.Len
def spLen : SpG := fun args H nl cs => match args with
  | [.int .u64 (.cv .u64 t)] => some [.ret (.int .i64 (.fn 48 (.cv .u64 t) (.lit 0))) H nl cs]
  | _ => none
theorem len18 (w : World) {x : Int} (h0 : 0 ≤ x) (h1 : x ≤ 18446744073709551615) : Calls Tryd.prog 18 #[.int .u64 x] w fun e w' => e = .returned (.int .i64 (Lib.bitLen x.toNat)) ∧ Framed w w' := by
  have h := Go.Proofs.Any.bits_Len lenA x w h0 h1
  exact Calls.mono h fun e w' ⟨he, hw⟩ => ⟨he, by rw [hw]; exact Framed.refl w⟩
theorem spLen_ok {β : Base} (hG : ∀ I B S V F, β.G I B S V F → GR I B S V F) : SpGOk Tryd.prog β 18 spLen := by
  intro args H nl cs ls ρ w xs hr hx hh hc
  unfold spLen at hr
  split at hr
  rotate_left
  · cases hr
  rename_i t
  cases hr
  cases ht : t.den ρ with
  | none => simp only [AVal.denL, AVal.den, IT.den, ht, Option.map_none] at hx; cases hx
  | some z =>
    have e := cvD (k := .u64) ht
    have hx' : AVal.denL ρ [.int .u64 (.cv .u64 t)] = some [.int .u64 (IntKind.u64.wrap z)] := denL1 (by simp only [AVal.den, e, Option.map_some])
    obtain rfl : [.int .u64 (IntKind.u64.wrap z)] = xs := Option.some.inj (hx'.symm.trans hx)
    have hw := IntKind.wrap_u64 z
    have d := (fnD (k := 48) e (litD (ρ := ρ) 0))
    rw [(hG _ _ _ _ _ hh.g).2.2.2.2.2.2.2.2] at d
    exact spV_ok (len18 w (by rw [hw]; omega) (by rw [hw]; omega)) (by simp only [AVal.den, d, Option.map_some]) hh hc
def spL5 : CallF := spL [(18, spLen)]
theorem spL5_ok {w : World} : CallOk Tryd.prog ⟨w, [], GR⟩ spL5 := spL_ok fun p hp => by
  rw [List.mem_singleton.1 hp]
  exact spLen_ok fun _ _ _ _ _ h => h
def elI (a : IT) : IT := .un 0 (.var 5) (.elem (.lit 0) 1 0 a)
def cT (a : IT) : IT := .bin .sub .i64 (.fn 48 (.cv .u64 (.mx (elI a) (.lit 1))) (.lit 0)) (.lit 1)
def Ran (v : Int) : Prop := -9223372036854775808 ≤ v ∧ v < 9223372036854775808
theorem cT_den {L : List Int} {ρ : Env} (h : JN L ρ) (hG : GR.at ρ) {a : IT} {i : Nat} (ha : a.den ρ = some (i : Int)) (hr : Ran (L.getD i 0)) : (cT a).den ρ = some (clsOf (L.getD i 0) : Int) := by
  have e := el_den (varD h.i5) ha
  have em : (IT.mx (elI a) (.lit 1)).den ρ = some (max (L.getD i 0) 1) := by
    rw [show elI a = .un 0 (.var 5) (.elem (.lit 0) 1 0 a) from rfl, mxD e (litD 1)]
    congr 1; split <;> omega
  have ec := cvD (k := .u64) em
  rw [IntKind.wrap_u64, Int.emod_eq_of_lt (by omega) (by have := hr.2; omega)] at ec
  have ef := fnD (k := 48) ec (litD (ρ := ρ) 0)
  rw [hG.2.2.2.2.2.2.2.2] at ef
  have ef : (IT.fn 48 (.cv .u64 (.mx (elI a) (.lit 1))) (.lit 0)).den ρ = some (Lib.bitLen (max (L.getD i 0) 1).toNat : Int) := ef
  have hp := bitLen_pos (x := (max (L.getD i 0) 1).toNat) (by omega)
  have hle : Lib.bitLen (max (L.getD i 0) 1).toNat ≤ 64 := bitLen_le 64 _
  refine (minusD ef (litD 1) (by omega) (by omega)).trans ?_
  unfold clsOf
  congr 1; omega
-- THE HEADS
def rC : HB := ⟨.arr (.code [.i64] (.var 11)) [.i64] 3 (.var 14) (.lit 0) (some (.nv 12)), true⟩
def csR : Cs := [(.cmp .geq (.var 14) (.lit 1), true), (.cmp .leq (.var 14) (.lit 70), true), (.cmp .leq (.var 14) (.lit 1000000), true)]
def csK : Cs := [(.cmp .geq (.var 15) (.lit 0), true), (.cmp .leq (.var 15) (.lit 64), true)]
def vR : AVal := .slice 13 (.lit 0) (.var 14) (.nv 12)
def TC : Bool → Tpl
  | false => ⟨[(3, .sliceNil), (7, sL), (8, iV 6), (9, .int .i64 (.lit 0))], 33, roH [hL], 10, csN, 3⟩
  | true => ⟨[(3, vR), (7, sL), (8, iV 6), (9, iV 9)], 33, roH [hL] ++ [(13, rC)], 20, csR ++ csI, 3⟩
def TK : Bool → Tpl
  | false => ⟨[(3, .sliceNil), (6, iV 15), (7, sL), (8, iV 6), (9, .int .i64 (.lit 0))], 33, roH [hL], 10, csK ++ csN, 8⟩
  | true => ⟨[(3, vR), (6, iV 15), (7, sL), (8, iV 6), (9, iV 9)], 33, roH [hL] ++ [(13, rC)], 20, csK ++ csR ++ csI, 8⟩
def eC : List Tpl := [⟨[(0, vR)], 1, [(13, rC)], 20, [], 0⟩]
noncomputable def c0b : Code := ((loopsOf (Tryd.f7.body.getD .ret) []).getD 0 (.ret, [])).1
noncomputable def c0k : List Item := ((loopsOf (Tryd.f7.body.getD .ret) []).getD 0 (.ret, [])).2
noncomputable def c1b : Code := ((loopsOf (Tryd.f7.body.getD .ret) []).getD 1 (.ret, [])).1
noncomputable def c1k : List Item := ((loopsOf (Tryd.f7.body.getD .ret) []).getD 1 (.ret, [])).2
noncomputable def RunC (T : Tpl) (b : Code) (k : List Item) (Ts : List Tpl) (c : Cs) (l : LM) : Prop := (run Tryd.prog [] spL5 4000 true 7 ((⟨T.tm, T.nt, T.H, T.nl, c ++ T.cs, T.dep⟩ : Tpl).st (.code b :: .inLoop b :: k))).map (·.filterMap (sumMD gM [] eC Ts)) = some [l]
def n0 : List (Nat × Nat) := [(0, 0)]
def f0 : Cs := [(.cmp .lss (.lit 0) (.var 6), true)]
def g0 : Cs := [(.cmp .leq (.lit 0) (.var 15), true)]
def g1 (b : Bool) : Cs := [(.cmp .leq (.var 14) (.var 15), b)]
def g2 : Cs := g1 false ++ [(.cmp .lss (.var 15) (.var 14), true)]
def e15 : IT := .elem (.lit 0) 1 0 (.var 15)
def setT : IT := .un 2 (.var 11) (.un 1 e15 (.bin .add .i64 (.un 0 (.var 11) e15) (.lit 1)))
def s0 : Sub := ⟨[(6, .var 6), (5, .var 5)], [], [], [], n0⟩
def s1 : Sub := ⟨[(15, cT (.lit 0)), (6, .var 6), (5, .var 5)], [], [], [], n0⟩
def s2 : Sub := ⟨[(14, .var 14), (15, cT at0), (6, .var 6), (9, .var 9), (5, .var 5), (11, .var 11)], [], [], [], [(13, 13), (12, 12)] ++ n0⟩
def s3 : Sub := ⟨[(14, .lit 1), (15, .var 15), (6, .var 6), (9, .lit 0), (5, .var 5), (11, .un 3 (.lit 0) (.lit 0))], [], [], [], [(13, 12), (12, 11)] ++ n0⟩
def s4 : Sub := ⟨[(14, upI 14), (15, .var 15), (6, .var 6), (9, .var 9), (5, .var 5), (11, .un 3 (.var 11) (.lit 0))], [], [], [], [(13, 22), (12, 21)] ++ n0⟩
def s5 : Sub := ⟨[(14, .var 14), (6, .var 6), (9, upI 9), (5, .var 5), (11, setT)], [], [], [], [(13, 13), (12, 12)] ++ n0⟩
def s6 : Sub := ⟨[(14, .var 14), (11, .var 11)], [], [], [], [(13, 13), (12, 12)]⟩
theorem k_in : (run Tryd.prog [] spL5 4000 true 7 (entry Tryd.f7 (Tryd.f7.body.getD .ret) [sL] (ofP (roH [hL])) 10 csN)).map (·.filterMap (sumMD gM [] eC [TC false])) = some [.next 0 (.code (.loop c0b) :: c0k) [] s0] := by kernel_rfl
theorem k_1 : RunC (TC false) c0b c0k [TK false] f0 (.next 0 (.code (.loop c1b) :: c1k) [] s1) := by unfold RunC; kernel_rfl
theorem k_2 : RunC (TC true) c0b c0k [TK true] (fI true) (.next 0 (.code (.loop c1b) :: c1k) [] s2) := by unfold RunC; kernel_rfl
theorem k_3 : RunC (TK false) c1b c1k [TK true] g0 (.next 0 (.inLoop c1b :: c1k) [] s3) := by unfold RunC; kernel_rfl
theorem k_4 : RunC (TK true) c1b c1k [TK true] (g1 true) (.next 0 (.inLoop c1b :: c1k) [] s4) := by unfold RunC; kernel_rfl
theorem k_5 : RunC (TK true) c1b c1k [TC true] g2 (.next 0 (.inLoop c0b :: c0k) [] s5) := by unfold RunC; kernel_rfl
theorem k_6 : RunC (TC true) c0b c0k [] (fI false) (.done 0 [] s6) := by unfold RunC; kernel_rfl
-- WHAT HOLDS
structure JRow (K : List Int) (ρ : Env) : Prop where
  i11 : ρ.I 11 = encL K
  i14 : ρ.I 14 = (K.length : Int)
  k1 : 1 ≤ K.length
  k64 : K.length ≤ 64
theorem JRow.of_le {K : List Int} {ρ ρ' : Env} (h : JRow K ρ) (g : ρ.Le ρ') : JRow K ρ' := ⟨by rw [g.i]; exact h.i11, by rw [g.i]; exact h.i14, h.k1, h.k64⟩
theorem JRow.cs {K : List Int} {ρ : Env} (h : JRow K ρ) : CRel ρ csR := by
  have := h.k1; have := h.k64
  exact c1 (geqT (varD h.i14) (litD 1) (by omega)) (c1 (leqT (varD h.i14) (litD 70) (by omega)) (c1 (leqT (varD h.i14) (litD _) (by omega)) c0))
structure JCl (c : Nat) (ρ : Env) : Prop where
  i15 : ρ.I 15 = (c : Int)
  c63 : c ≤ 63
theorem JCl.of_le {c : Nat} {ρ ρ' : Env} (h : JCl c ρ) (g : ρ.Le ρ') : JCl c ρ' := ⟨by rw [g.i]; exact h.i15, h.c63⟩
theorem JCl.cs {c : Nat} {ρ : Env} (h : JCl c ρ) : CRel ρ csK := by
  have := h.c63
  exact c1 (geqT (varD h.i15) (litD 0) (by omega)) (c1 (leqT (varD h.i15) (litD 64) (by omega)) c0)
def JO5 (L : List Int) : Bool → Env → Prop
  | false => JN L
  | true => fun ρ => ∃ i, JI L i ρ ∧ 1 ≤ i ∧ JRow (clsL L i) ρ
def μ5 (L : List Int) : Bool → Env → Nat
  | false => fun _ => L.length + 1
  | true => fun ρ => ((L.length : Int) - ρ.I 9).toNat
/-- In the inner loop: so many noughts more. -/
def JK5 (L : List Int) (i c : Nat) : Bool → Env → Prop
  | false => fun ρ => JN L ρ ∧ JCl c ρ ∧ i = 0
  | true => fun ρ => JI L i ρ ∧ JCl c ρ ∧ ∃ k, JRow (clsL L i ++ List.replicate k 0) ρ ∧ (k = 0 ∨ (clsL L i).length + k ≤ c + 1)
def ν5 : Bool → Env → Nat
  | false => fun _ => 1000
  | true => fun ρ => (200 - ρ.I 14).toNat
theorem classes7 {w : World} {b o q : Nat} {L : List Int} (h : IntsAt w b o L) (h1 : 1 ≤ L.length) (h3 : L.length ≤ 300) (hR : ∀ x ∈ L, Ran x) : Calls Tryd.prog 7 #[.slice (some ⟨b, o, none⟩) L.length q] w fun e w' => ∃ v, e = .returned v ∧ RowOut w w' v 3 [.i64] (clsL L L.length) (clsL L L.length).length := by
  have hr := startR (q := q) (G := GR) (F := FR) h (GR_at ..)
  have ran : ∀ {i}, i < L.length → Ran (L.getD i 0) := fun {i} hi => by
    rw [List.getD_eq_getElem?_getD, List.getElem?_eq_getElem hi]
    exact hR _ (List.getElem_mem hi)
  have outer := loop_goesJ (P := Tryd.prog) (β := ⟨w, [], GR⟩) (f := 7) (R := fun v w' => RowOut w w' v 3 [.i64] (clsL L L.length) (clsL L L.length).length) (Rs := eC) (L := []) (b := c0b) (k := c0k) (n := 4000) (g := gM) noCount noExt spL5_ok follows TC (JO5 L) (μ5 L) fun z ρ hJ hcs hG ih => by
    -- the inner loop, of this round
    have inner : ∀ i, i < L.length → (∀ ρ', JI L (i + 1) ρ' → JRow (clsL L (i + 1)) ρ' → ∀ a w, SRel ⟨_, [], GR⟩ ρ' ((TC true).st (.inLoop c0b :: c0k)) a w → Goes Tryd.prog 7 (fun v w' => RowOut _ w' v 3 [.i64] (clsL L L.length) (clsL L L.length).length) (.inLoop c0b :: c0k) a w) →
        ∀ y ρ', JK5 L i (clsOf (L.getD i 0)) y ρ' → ∀ todo a w, todo = .inLoop c1b :: c1k ∨ todo = .code (.loop c1b) :: c1k → SRel ⟨_, [], GR⟩ ρ' ((TK y).st todo) a w → Goes Tryd.prog 7 (fun v w' => RowOut _ w' v 3 [.i64] (clsL L L.length) (clsL L L.length).length) todo a w := fun i hi hout => by
      refine loop_goesJ (P := Tryd.prog) (β := ⟨w, [], GR⟩) (f := 7) (R := fun v w' => RowOut w w' v 3 [.i64] (clsL L L.length) (clsL L L.length).length) (Rs := eC) (L := []) (b := c1b) (k := c1k) (n := 4000) (g := gM) noCount noExt spL5_ok follows TK (JK5 L i (clsOf (L.getD i 0))) ν5 fun y ρ hJ hcs hG ihk => ?_
      have hc63 := clsOf_le (L.getD i 0)
      have hl64 := clsL_len L i
      cases y with
      | false =>
        obtain ⟨jn, jc, rfl⟩ := hJ
        refine ⟨true, [TK true], g0 ++ (TK false).cs, _, CRel_app.2 ⟨c1 (leqT (litD 0) (varD jc.i15) (by omega)) c0, hcs⟩, k_3, Go.Vm.one (nextR rfl (fun l hl => by cases hl) fun ρ' hle hG' => ?_)⟩
        have jn' := jn.of_le hle
        have jc' := jc.of_le hle
        have ji : JI L 0 (s3.app ρ') := ⟨⟨jn'.i5, jn'.i6, h1, h3⟩, rfl, Nat.zero_le _⟩
        have jr : JRow (clsL L 0 ++ List.replicate 1 0) (s3.app ρ') := ⟨rfl, rfl, Nat.le_refl _, by simp [clsL]⟩
        have jk : JCl (clsOf (L.getD 0 0)) (s3.app ρ') := ⟨jc'.i15, hc63⟩
        exact ⟨hG', CRel_app.2 ⟨CRel_app.2 ⟨jk.cs, jr.cs⟩, ji.cs⟩, fun a w r => ihk true _ (by show (200 - (s3.app ρ').I 14).toNat < 1000; rw [jr.i14]; simp; omega) ⟨ji, jk, 1, jr, .inr (by simp [clsL])⟩ _ a w (.inl rfl) r⟩
      | true =>
        obtain ⟨ji, jc, k, jr, hk⟩ := hJ
        have hkl : (clsL L i ++ List.replicate k 0).length = (clsL L i).length + k := by rw [List.length_append, List.length_replicate]
        by_cases hlt : (clsL L i).length + k ≤ clsOf (L.getD i 0)
        · refine ⟨true, [TK true], g1 true ++ (TK true).cs, _, CRel_app.2 ⟨c1 (leqT (varD jr.i14) (varD jc.i15) (by omega)) c0, hcs⟩, k_4, Go.Vm.one (nextR rfl (fun l hl => by cases hl) fun ρ' hle hG' => ?_)⟩
          have ji' := ji.of_le hle
          have jc' := jc.of_le hle
          have jr' := jr.of_le hle
          have e14 := upD (varD jr'.i14) (by omega)
          have jr2 : JRow (clsL L i ++ List.replicate (k + 1) 0) (s4.app ρ') := by
            have e : clsL L i ++ List.replicate (k + 1) 0 = (clsL L i ++ List.replicate k 0) ++ [0] := by rw [List.replicate_succ', List.append_assoc]
            refine ⟨?_, ?_, by rw [List.length_append, List.length_replicate]; omega, by rw [List.length_append, List.length_replicate]; omega⟩
            · rw [e]
              refine sbI rfl ((unD (varD jr'.i11) (litD 0)).trans ?_)
              show some (encL (decL (encL (clsL L i ++ List.replicate k 0)) ++ [0])) = _
              rw [decL_encL]
            · refine (sbI (t := upI 14) rfl e14).trans ?_
              rw [hkl, List.length_append, List.length_replicate]; rfl
          have ji2 : JI L i (s4.app ρ') := ⟨⟨ji'.n.i5, ji'.n.i6, h1, h3⟩, ji'.i9, ji'.le⟩
          have jc2 : JCl (clsOf (L.getD i 0)) (s4.app ρ') := ⟨jc'.i15, hc63⟩
          exact ⟨hG', CRel_app.2 ⟨CRel_app.2 ⟨jc2.cs, jr2.cs⟩, ji2.cs⟩, fun a w r => ihk true _ (by show (200 - (s4.app ρ').I 14).toNat < (200 - ρ.I 14).toNat; rw [jr2.i14, jr.i14, hkl, List.length_append, List.length_replicate]; omega) ⟨ji2, jc2, k + 1, jr2, .inr (by omega)⟩ _ a w (.inl rfl) r⟩
        · refine ⟨true, [TC true], g2 ++ (TK true).cs, _, CRel_app.2 ⟨CRel_app.2 ⟨c1 (leqF (varD jr.i14) (varD jc.i15) (by omega)) c0, c1 (lssT (varD jc.i15) (varD jr.i14) (by omega)) c0⟩, hcs⟩, k_5, Go.Vm.one (nextR rfl (fun l hl => by cases hl) fun ρ' hle hG' => ?_)⟩
          have ji' := ji.of_le hle
          have jc' := jc.of_le hle
          have jr' := jr.of_le hle
          have hpad : clsL L i ++ List.replicate k 0 = padL (clsL L i) (clsOf (L.getD i 0)) := by
            unfold padL
            congr 2; omega
          rw [hpad] at jr'
          have hpl := padL_len (clsL L i) (clsOf (L.getD i 0))
          have e11 : (IT.var 11).den ρ' = some (encL (padL (clsL L i) (clsOf (L.getD i 0)))) := varD jr'.i11
          have e15d : e15.den ρ' = some ((clsOf (L.getD i 0) : Nat) : Int) := by
            have := elemD (ρ := ρ') (sz := 1) (j := 0) (litD ((0 : Nat) : Int)) (varD jc'.i15)
            refine this.trans ?_
            congr 2; omega
          have ge := unD (k := 0) e11 e15d
          have ge : (IT.un 0 (.var 11) e15).den ρ' = some ((padL (clsL L i) (clsOf (L.getD i 0))).getD (clsOf (L.getD i 0)) 0) := by
            refine ge.trans ?_
            show some ((decL (encL _)).getD ((clsOf (L.getD i 0) : Nat) : Int).toNat 0) = _
            rw [decL_encL, Int.toNat_natCast]
          have hb : (padL (clsL L i) (clsOf (L.getD i 0))).getD (clsOf (L.getD i 0)) 0 ≤ 300 ∧ 0 ≤ (padL (clsL L i) (clsOf (L.getD i 0))).getD (clsOf (L.getD i 0)) 0 := by
            have := padL_in L i (clsOf (L.getD i 0))
            omega
          have pe := plusD ge (litD 1) (by omega) (by omega)
          have es : setT.den ρ' = some (encL (clsL L (i + 1))) := by
            refine (unD e11 (unD e15d pe)).trans ?_
            show some (encL ((decL (encL (padL (clsL L i) (clsOf (L.getD i 0))))).set ((decL (encL [((clsOf (L.getD i 0) : Nat) : Int), (padL (clsL L i) (clsOf (L.getD i 0))).getD (clsOf (L.getD i 0)) 0 + 1])).getD 0 0).toNat ((decL (encL [((clsOf (L.getD i 0) : Nat) : Int), (padL (clsL L i) (clsOf (L.getD i 0))).getD (clsOf (L.getD i 0)) 0 + 1])).getD 1 0))) = _
            rw [decL_encL, decL_encL]
            simp only [List.getD_cons_zero, List.getD_cons_succ, Int.toNat_natCast]
            rfl
          have jr2 : JRow (clsL L (i + 1)) (s5.app ρ') := ⟨sbI (t := setT) rfl es, by
            refine (sbI (t := .var 14) rfl (varD jr'.i14)).trans ?_
            rw [clsL, bump_len, hpl], clsL_pos L i, clsL_len L (i + 1)⟩
          have ji2 : JI L (i + 1) (s5.app ρ') := ⟨⟨ji'.n.i5, ji'.n.i6, h1, h3⟩, sbI (t := upI 9) rfl (upD (varD ji'.i9) (by omega)), hi⟩
          exact ⟨hG', CRel_app.2 ⟨jr2.cs, ji2.cs⟩, fun a w r => hout _ ji2 jr2 a w r⟩
    cases z with
    | false =>
      have jn : JN L ρ := hJ
      refine ⟨true, [TK false], f0 ++ (TC false).cs, _, CRel_app.2 ⟨c1 (lssT (litD 0) (varD jn.i6) (by omega)) c0, hcs⟩, k_1, Go.Vm.one (nextR rfl (fun l hl => by cases hl) fun ρ' hle hG' => ?_)⟩
      have jn' := jn.of_le hle
      have jc : JCl (clsOf (L.getD 0 0)) (s1.app ρ') := ⟨sbI rfl (cT_den jn' hG' (i := 0) (a := .lit 0) rfl (ran (by omega))), clsOf_le _⟩
      have jn2 : JN L (s1.app ρ') := ⟨jn'.i5, jn'.i6, h1, h3⟩
      exact ⟨hG', CRel_app.2 ⟨jc.cs, jn2.cs⟩, fun a w r => inner 0 (by omega) (fun ρ'' ji jr a w r => ih true ρ'' (by show ((L.length : Int) - ρ''.I 9).toNat < L.length + 1; rw [ji.i9]; omega) ⟨1, ji, Nat.le_refl _, jr⟩ _ a w (.inl rfl) r) false _ ⟨jn2, jc, rfl⟩ _ a w (.inr rfl) r⟩
    | true =>
      obtain ⟨i, ji, hi1, jr⟩ := hJ
      have hi := ji.le
      by_cases hlt : i < L.length
      · refine ⟨true, [TK true], fI true ++ (TC true).cs, _, CRel_app.2 ⟨ji.lt (decide_eq_true hlt), hcs⟩, k_2, Go.Vm.one (nextR rfl (fun l hl => by cases hl) fun ρ' hle hG' => ?_)⟩
        have ji' := ji.of_le hle
        have jr' := jr.of_le hle
        have jc : JCl (clsOf (L.getD i 0)) (s2.app ρ') := ⟨sbI rfl (cT_den ji'.n hG' (a := at0) (varD ji'.i9) (ran hlt)), clsOf_le _⟩
        have ji2 : JI L i (s2.app ρ') := ⟨⟨ji'.n.i5, ji'.n.i6, h1, h3⟩, ji'.i9, hi⟩
        have jr2 : JRow (clsL L i ++ List.replicate 0 0) (s2.app ρ') := by
          rw [List.replicate_zero, List.append_nil]
          exact ⟨jr'.i11, jr'.i14, jr.k1, jr.k64⟩
        exact ⟨hG', CRel_app.2 ⟨CRel_app.2 ⟨jc.cs, jr2.cs⟩, ji2.cs⟩, fun a w r => inner i hlt (fun ρ'' ji3 jr3 a w r => ih true ρ'' (by show ((L.length : Int) - ρ''.I 9).toNat < ((L.length : Int) - ρ.I 9).toNat; rw [ji3.i9, ji.i9]; omega) ⟨i + 1, ji3, by omega, jr3⟩ _ a w (.inl rfl) r) true _ ⟨ji2, jc, 0, jr2, .inl rfl⟩ _ a w (.inr rfl) r⟩
      · obtain rfl : i = L.length := by omega
        refine ⟨true, [], fI false ++ (TC true).cs, _, CRel_app.2 ⟨ji.lt (decide_eq_false hlt), hcs⟩, k_6, Go.Vm.one (doneR (T := ⟨[(0, vR)], 1, [(13, rC)], 20, [], 0⟩) rfl (fun l hl => by cases hl) fun ρ' hle hG' => ⟨hG', c0, fun v w' r => ?_⟩)⟩
        obtain ⟨z, hz, he⟩ := r.t 0 _ rfl
        obtain rfl : v = z := Option.some.inj he
        have jr' := jr.of_le hle
        exact row_out (l := 13) (j := 12) (nT := .var 14) (c := .var 11) rfl r.h rfl hz (varD (sbI (t := .var 14) rfl (varD jr'.i14))) (varD (sbI (t := .var 11) rfl (varD jr'.i11)))
  refine (calls_sumsE (β := ⟨w, [], GR⟩) (R := fun v w' => RowOut w w' v 3 [.i64] (clsL L L.length) (clsL L L.length).length) (g := gM) (L := []) (Rs := eC) (Ts := [TC false]) (pl := true) noCount noExt spL5_ok follows Tryd.func7 rfl k_in (denL1 (den_slice_of rfl rfl rfl rfl)) hr (JN.cs ⟨rfl, rfl, h1, h3⟩) (Go.Vm.one (nextR rfl (fun l hl => by cases hl) fun ρ' hle hG' => ?_)))
  have jn : JN L (s0.app ρ') := ⟨by show ρ'.I 5 = _; rw [hle.i]; rfl, by show ρ'.I 6 = _; rw [hle.i]; rfl, h1, h3⟩
  exact ⟨hG', jn.cs, fun a w r => outer false _ jn _ a w (.inr rfl) r⟩
end Rk
end Go.Proofs.YtglghnfbkiondaaDoor
end

/-
  Ranks (6): RankOrders answers true.
-/
section
namespace Go.Proofs.YtglghnfbkiondaaDoor
open Go.Vm Go.Vm.Rk
namespace Rk

/-- The law's row is made of numbers that there are. -/
def GL : GP := fun I B S V F => GR I B S V F ∧ ∀ v ∈ decL (I 5), Ran v
theorem intsAt_of {β : Base} {ρ : Env} {H : Heap} {nl : Nat} {w : World} (hh : HRel β ρ H nl w) {l : Nat} {c n off q : IT} {el : TypeId} {cp : Option IT} {rw : Bool} (h : H.get l = some ⟨.arr (.code [.i64] c) [.i64] el n off cp, rw⟩) {sv : Value} (hs : (AVal.slice l off n q).den ρ = some sv) :
    ∃ b o cap xv, sv = .slice (some ⟨b, o, none⟩) (decL xv).length cap ∧ c.den ρ = some xv ∧ n.den ρ = some ((decL xv).length : Int) ∧ IntsAt w b o (decL xv) := by
  obtain ⟨b, o, N, cap, rfl, hN, ho, hn, _⟩ := den_slice hs
  obtain ⟨b', ob, hb', hob, ys, c0, fr, el', m, st, rfl, _, hd, hst, ⟨hsz, hp⟩, hn', hty, _⟩ := hh.blk l _ h
  rw [hN] at hb'; cases hb'
  have e1 : m = N := by have := hn'.symm.trans hn; exact Int.ofNat.inj (Option.some.inj this)
  have e2 : st = o := by have := hst.symm.trans ho; exact Int.ofNat.inj (Option.some.inj this)
  subst e1; subst e2
  simp only [AT.den] at hd
  cases hcd : c.den ρ with
  | none => rw [hcd] at hd; cases hd
  | some xv =>
    rw [hcd, Option.map_some, Option.some.injEq] at hd
    subst hd
    have hlen : (decL xv).length = m := by have := hty.1; rw [rowOf_length] at this; simpa using this
    subst hlen
    exact ⟨b, st, cap, xv, rfl, rfl, hn, c0, fr, el', hob, hsz, by rw [← rowOf1]; exact hp⟩
def fnT (k : Nat) (c : IT) : IT := .fn k c (.lit 0)
def okRow (cs : Cs) (ks ks' : List IntKind) (n n0 off off0 : IT) : Bool := decide (ks = [.i64]) && decide (ks' = [.i64]) && IT.beq n n0 && IT.beq off off0 && sureC cs (.cmp .geq n (.lit 1)) && sureC cs (.cmp .leq n (.lit 300))
def spOf : SpG := fun args H nl cs => match args with
  | [.slice l off n _] => match H.get l with
    | some ⟨.arr (.code ks c) ks' _ n0 off0 _, _⟩ => cond (okRow cs ks ks' n n0 off off0)
      (some [.ret (.agg [.int .i64 n, .int .i64 (fnT 41 c), .int .i64 (fnT 42 c), .int .i64 (fnT 43 c), .int .i64 (fnT 44 c), .int .i64 (fnT 45 c)]) H nl cs]) none
    | _ => none
  | _ => none
def spCls : SpG := fun args H nl cs => match args with
  | [.slice l off n _] => match H.get l with
    | some ⟨.arr (.code ks c) ks' _ n0 off0 _, _⟩ => cond (okRow cs ks ks' n n0 off off0 && IT.beq c (.var 5))
      (some [.ret (.slice (nl + 1) (.lit 0) (fnT 47 c) (.nv nl)) (H.set (nl + 1) ⟨.arr (.code [.i64] (fnT 46 c)) [.i64] 3 (fnT 47 c) (.lit 0) (some (.nv nl)), true⟩) (nl + 2) cs]) none
    | _ => none
  | _ => none
theorem okRow_ok {ρ : Env} {cs : Cs} {ks ks' : List IntKind} {n n0 off off0 : IT} {m : Nat} (h : okRow cs ks ks' n n0 off off0 = true) (hc : CRel ρ cs) (hn : n.den ρ = some (m : Int)) : ks = [.i64] ∧ ks' = [.i64] ∧ n = n0 ∧ off = off0 ∧ 1 ≤ m ∧ m ≤ 300 := by
  simp only [okRow, Bool.and_eq_true, decide_eq_true_eq] at h
  obtain ⟨⟨⟨⟨⟨q1, q2⟩, q3⟩, q4⟩, q5⟩, q6⟩ := h
  have h1 := sureC_ok q5 hc
  have h2 := sureC_ok q6 hc
  rw [cmpD hn (litD 1)] at h1
  rw [cmpD hn (litD 300)] at h2
  simp only [intCmp, Option.some.injEq, decide_eq_true_eq] at h1 h2
  exact ⟨q1, q2, IT.beq_eq q3, IT.beq_eq q4, by omega, by omega⟩
theorem okRow_eq {cs : Cs} {ks ks' : List IntKind} {n n0 off off0 : IT} (h : okRow cs ks ks' n n0 off off0 = true) : ks = [.i64] ∧ ks' = [.i64] ∧ n = n0 ∧ off = off0 := by
  simp only [okRow, Bool.and_eq_true, decide_eq_true_eq] at h
  obtain ⟨⟨⟨⟨⟨q1, q2⟩, q3⟩, q4⟩, _⟩, _⟩ := h
  exact ⟨q1, q2, IT.beq_eq q3, IT.beq_eq q4⟩
theorem spOf_ok {β : Base} (hG : ∀ I B S V F, β.G I B S V F → GR I B S V F) : SpGOk Tryd.prog β 8 spOf := by
  intro args H nl cs ls ρ w xs hr hx hh hc
  unfold spOf at hr
  split at hr
  rotate_left
  · cases hr
  rename_i l off n q
  split at hr
  rotate_left
  · cases hr
  rename_i ks c ks' el n0 off0 cp rw hg
  cases hb : okRow cs ks ks' n n0 off off0 with
  | false => rw [hb] at hr; cases hr
  | true =>
    rw [hb] at hr; cases hr
    obtain ⟨rfl, rfl, rfl, rfl⟩ := okRow_eq hb
    cases hs : (AVal.slice l off n q).den ρ with
    | none => simp only [AVal.denL, hs] at hx; cases hx
    | some sv =>
      obtain ⟨b, o, cap, xv, rfl, hcd, hn, hi⟩ := intsAt_of hh hg hs
      obtain rfl := Option.some.inj ((denL1 hs).symm.trans hx)
      obtain ⟨_, _, _, _, h1, h3⟩ := okRow_ok hb hc hn
      obtain ⟨g40, g41, g42, g43, g44, g45, _⟩ := hG _ _ _ _ _ hh.g
      have d1 : (fnT 41 c).den ρ = some (least (decL xv)) := by rw [fnT, fnD hcd (litD 0), g41]
      have d2 : (fnT 42 c).den ρ = some (most (decL xv)) := by rw [fnT, fnD hcd (litD 0), g42]
      have d3 : (fnT 43 c).den ρ = some (sumW (decL xv) (decL xv).length) := by rw [fnT, fnD hcd (litD 0), g43]
      have d4 : (fnT 44 c).den ρ = some (mid (decL xv)) := by rw [fnT, fnD hcd (litD 0), g44]
      have d5 : (fnT 45 c).den ρ = some (late (decL xv)) := by rw [fnT, fnD hcd (litD 0), g45]
      exact spV_ok (of8 (q := cap) hi h1 h3) (by simp only [AVal.den, AVal.denL, hn, d1, d2, d3, d4, d5, Option.map_some]; rfl) hh hc
theorem spCls_ok {β : Base} (hG : ∀ I B S V F, β.G I B S V F → GL I B S V F) : SpGOk Tryd.prog β 7 spCls := by
  intro args H nl cs ls ρ w xs hr hx hh hc
  unfold spCls at hr
  split at hr
  rotate_left
  · cases hr
  rename_i l off n q
  split at hr
  rotate_left
  · cases hr
  rename_i ks c ks' el n0 off0 cp rw hg
  cases hb : (okRow cs ks ks' n n0 off off0 && IT.beq c (.var 5)) with
  | false => rw [hb] at hr; cases hr
  | true =>
    rw [hb] at hr; cases hr
    rw [Bool.and_eq_true] at hb
    obtain ⟨hb, hb2⟩ := hb
    obtain ⟨rfl, rfl, rfl, rfl⟩ := okRow_eq hb
    obtain rfl := IT.beq_eq hb2
    cases hs : (AVal.slice l off n q).den ρ with
    | none => simp only [AVal.denL, hs] at hx; cases hx
    | some sv =>
      obtain ⟨b, o, cap, xv, rfl, hcd, hn, hi⟩ := intsAt_of hh hg hs
      obtain rfl := Option.some.inj ((denL1 hs).symm.trans hx)
      obtain ⟨_, _, _, _, h1, h3⟩ := okRow_ok hb hc hn
      obtain ⟨⟨_, _, _, _, _, _, g46, g47, _⟩, hR⟩ := hG _ _ _ _ _ hh.g
      obtain rfl : ρ.I 5 = xv := Option.some.inj hcd
      have d6 : (fnT 46 (.var 5)).den ρ = some (encL (clsL (decL (ρ.I 5)) (decL (ρ.I 5)).length)) := by rw [fnT, fnD hcd (litD 0), g46]
      have d7 : (fnT 47 (.var 5)).den ρ = some ((clsL (decL (ρ.I 5)) (decL (ρ.I 5)).length).length : Int) := by rw [fnT, fnD hcd (litD 0), g47]
      refine (classes7 (q := cap) hi h1 h3 hR).mono fun e w' ⟨v, he, ro⟩ => ?_
      obtain ⟨ρ', hle, hd', hr'⟩ := row_in hh ro d7 d6
      exact ⟨v, he, _, _, _, _, ρ', List.mem_cons_self, hle, hd', hr', hc.mono hle⟩
-- THE LAW
def x5 : IT := .var 5
def rB : HB := ⟨.cells [iV 6, .int .i64 (fnT 41 x5), .int .i64 (fnT 42 x5), .int .i64 (fnT 43 x5), .int .i64 (fnT 44 x5), .int .i64 (fnT 45 x5)] 26 none, true⟩
def cB : HB := ⟨.arr (.code [.i64] (fnT 46 x5)) [.i64] 3 (fnT 47 x5) (.lit 0) (some (.nv 16)), true⟩
def csC : Cs := [(.cmp .geq (fnT 47 x5) (.lit 0), true), (.cmp .leq (fnT 47 x5) (.lit 70), true), (.cmp .geq at0 (.lit 0), true), (.cmp .leq at0 (fnT 47 x5), true)] ++ csN
def T1 : Tpl := ⟨[(0, sL), (3, .ptr 14 (.lit 0)), (4, iV 13), (18, .slice 17 (.lit 0) (fnT 47 x5) (.nv 16)), (19, .int .i64 (fnT 47 x5)), (20, iV 9)], 98, roH [hL] ++ [(14, rB), (17, cB)], 30, csC, 3⟩
def T2 : Tpl := ⟨[(0, sL), (3, .ptr 14 (.lit 0)), (4, iV 13), (7, iV 15), (28, sL), (29, iV 6), (30, iV 9)], 98, roH [hL] ++ [(14, rB)], 40, csI, 3⟩
def spA : CallF := spL [(6, spTrue), (7, spCls), (8, spOf)]
theorem spA_ok {w : World} : CallOk Tryd.prog ⟨w, [], GL⟩ spA := spL_ok fun p hp => by
  simp only [List.mem_cons, List.not_mem_nil, or_false] at hp
  rcases hp with rfl | rfl | rfl
  · exact spTrue_ok first6
  · exact spCls_ok fun _ _ _ _ _ h => h
  · exact spOf_ok fun _ _ _ _ _ h => h.1
noncomputable def b50 : Code := ((loopsOf (Tryd.f5.body.getD .ret) []).getD 0 (.ret, [])).1
noncomputable def k50 : List Item := ((loopsOf (Tryd.f5.body.getD .ret) []).getD 0 (.ret, [])).2
noncomputable def b51 : Code := ((loopsOf (Tryd.f5.body.getD .ret) []).getD 1 (.ret, [])).1
noncomputable def k51 : List Item := ((loopsOf (Tryd.f5.body.getD .ret) []).getD 1 (.ret, [])).2
noncomputable def RunA (T : Tpl) (b : Code) (k : List Item) (Ts : List Tpl) (c : Cs) (l : LS) : Prop := (run Tryd.prog [] spA 4000 true 5 ((⟨T.tm, T.nt, T.H, T.nl, c ++ T.cs, T.dep⟩ : Tpl).st (.code b :: .inLoop b :: k))).map (·.filterMap (sumD gM Ts)) = some [l]
def fC (b : Bool) : Cs := [(.cmp .lss at0 (fnT 47 x5), b)]
def eT : IT := .un 0 x5 (.elem (.lit 0) 1 0 at0)
def ok2 : Cs := fI true ++ [(.cmp .lss eT (fnT 41 x5), false), (.cmp .gtr eT (fnT 42 x5), false)]
def fE (a : Bool) : Cs := ok2 ++ [(.cmp .eql eT (fnT 44 x5), a)]
def fE2 (b : Bool) : Cs := fE false ++ [(.cmp .eql eT (fnT 45 x5), b)]
def fEnd : Cs := fI false ++ [(.cmp .leq (fnT 41 x5) (fnT 44 x5), true), (.cmp .leq (fnT 44 x5) (fnT 45 x5), true), (.cmp .leq (fnT 45 x5) (fnT 42 x5), true), (.cmp .eql (.var 13) (.var 6), true), (.cmp .gtr (.var 15) (.lit 0), true)]
def addC : IT := .bin .add .i64 (.var 13) (.un 0 (fnT 46 x5) (.elem (.lit 0) 1 0 at0))
def sgA0 : Sub := ⟨[(6, .var 6), (13, .lit 0), (5, .var 5), (9, .lit 0)], [], [], [], [(0, 0), (14, 10), (17, 12), (16, 11)]⟩
def sgA1 : Sub := ⟨[(6, .var 6), (13, addC), (5, .var 5), (9, upI 9)], [], [], [], [(0, 0), (14, 14), (17, 17), (16, 16)]⟩
def sgA2 : Sub := ⟨[(6, .var 6), (13, .var 13), (15, .lit 0), (9, .lit 0), (5, .var 5)], [], [], [], [(0, 0), (14, 14)]⟩
def sgA3 (t : IT) : Sub := ⟨[(6, .var 6), (13, .var 13), (15, t), (9, upI 9), (5, .var 5)], [], [], [], [(0, 0), (14, 14)]⟩
theorem a_in : (run Tryd.prog [] spA 4000 true 5 (entry Tryd.f5 (Tryd.f5.body.getD .ret) [sL] (ofP (roH [hL])) 10 csN)).map (·.filterMap (sumD gM [T1])) = some [.next 0 (.code (.loop b50) :: k50) [] sgA0] := by kernel_rfl
theorem a_1 : RunA T1 b50 k50 [T1] (fC true) (.next 0 (.inLoop b50 :: k50) [] sgA1) := by unfold RunA; kernel_rfl
theorem a_1e : RunA T1 b50 k50 [T2] (fC false) (.next 0 (.code (.loop b51) :: k51) [] sgA2) := by unfold RunA; kernel_rfl
theorem a_2a : RunA T2 b51 k51 [T2] (fE true) (.next 0 (.inLoop b51 :: k51) [] (sgA3 (upI 15))) := by unfold RunA; kernel_rfl
theorem a_2b : RunA T2 b51 k51 [T2] (fE2 true) (.next 0 (.inLoop b51 :: k51) [] (sgA3 (upI 15))) := by unfold RunA; kernel_rfl
theorem a_2c : RunA T2 b51 k51 [T2] (fE2 false) (.next 0 (.inLoop b51 :: k51) [] (sgA3 (.var 15))) := by unfold RunA; kernel_rfl
theorem a_2e : RunA T2 b51 k51 [T2] fEnd (.ret (.bool (.lit true)) []) := by unfold RunA; kernel_rfl
noncomputable def AllT (args : List AVal) (H : Heap) (cs : Cs) : Prop := (run Tryd.prog [] spA 4000 false 5 (entry Tryd.f5 (Tryd.f5.body.getD .ret) args H 10 cs)).map (·.all (leafB (.lit true))) = some true
def sZ : AVal := .slice 0 (.var 62) (.lit 0) (.var 63)
theorem a_300 : AllT [sL] (ofP (roH [hL])) [(.cmp .gtr (.var 6) (.lit 300), true)] := by unfold AllT; kernel_rfl
theorem a_nil : AllT [.sliceNil] .leaf [] := by unfold AllT; kernel_rfl
theorem a_zero : AllT [sZ] .leaf [] := by unfold AllT; kernel_rfl
end Rk
end Go.Proofs.YtglghnfbkiondaaDoor
end
