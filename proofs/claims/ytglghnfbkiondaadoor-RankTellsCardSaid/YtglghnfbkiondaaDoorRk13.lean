/-
  Ranks (13): RankTells answers true, for every row.
-/
import Derived.Test.YtglghnfbkiondaaDoorRk12
namespace Go.Proofs.YtglghnfbkiondaaDoor
open Go.Vm Go.Vm.Rk
namespace Rk

-- PLAIN
theorem padL_get (out : List Int) (c j : Nat) : (padL out c).getD j 0 = out.getD j 0 := by
  unfold padL
  rw [List.getD_eq_getElem?_getD, List.getD_eq_getElem?_getD]
  rcases Nat.lt_or_ge j out.length with h | h
  · rw [List.getElem?_append_left h]
  · rw [List.getElem?_append_right h, List.getElem?_eq_none h, List.getElem?_replicate]
    split <;> rfl
theorem bump_get (out : List Int) (c j : Nat) : (bump out c).getD j 0 = if j = c then out.getD c 0 + 1 else out.getD j 0 := by
  unfold bump
  rw [List.getD_eq_getElem?_getD, List.getElem?_set]
  have hl : c < (padL out c).length := by rw [padL_len]; omega
  by_cases h : c = j
  · subst h
    rw [if_pos rfl, if_pos hl, if_pos rfl, padL_get]; rfl
  · rw [if_neg h, if_neg (fun e => h e.symm), ← List.getD_eq_getElem?_getD, padL_get]
/-- The counts, in a row of seventy. -/
structure Cnt (W K : List Int) : Prop where
  len : W.length = 70
  get : ∀ j, W.getD j 0 = K.getD j 0
theorem Cnt.bump {W K : List Int} (h : Cnt W K) {c : Nat} (hc : c ≤ 63) : Cnt (W.set c (W.getD c 0 + 1)) (bump K c) := by
  refine ⟨by rw [List.length_set, h.len], fun j => ?_⟩
  rw [bump_get, List.getD_eq_getElem?_getD, List.getElem?_set]
  have := h.len
  by_cases hj : c = j
  · subst hj
    rw [if_pos rfl, if_pos (by omega), if_pos rfl, h.get]; rfl
  · rw [if_neg hj, if_neg (fun e => hj e.symm), ← List.getD_eq_getElem?_getD, h.get]
def zeroT : Nat → IT
  | 0 => .lit 0
  | n + 1 => .un 3 (zeroT n) (.lit 0)
theorem zeroT_den {ρ : Env} : ∀ n, (zeroT n).den ρ = some (encL (List.replicate n 0))
  | 0 => rfl
  | n + 1 => by
    refine (unD (zeroT_den n) (litD 0)).trans ?_
    show some (encL (decL (encL (List.replicate n 0)) ++ [0])) = _
    rw [decL_encL, List.replicate_succ']
-- THE HEADS
namespace Te
def cB : HB := ⟨.arr (.code [.i64] (fnT 46 x5)) [.i64] 3 (fnT 47 x5) (.lit 0) (some (.nv 16)), true⟩
def wB : HB := ⟨.arr (.code [.i64] x5) [.i64] 3 (.var 6) (.lit 0) (some (.nv 19)), true⟩
def aB : HB := ⟨.arr (.code [.i64] (.var 12)) [.i64] 3 (.var 14) (.lit 0) (some (.var 18)), true⟩
def cS : AVal := .slice 17 (.lit 0) (fnT 47 x5) (.nv 16)
def wS : AVal := .slice 20 (.lit 0) (.var 6) (.nv 19)
def aS : AVal := .slice 22 (.lit 0) (.var 14) (.var 18)
def U1 : Tpl := ⟨[(3, wS), (4, cS), (5, aS), (6, iV 13), (28, sL), (29, iV 6), (30, iV 9)], 73, roH [hL] ++ [(17, cB), (20, wB), (22, aB)], 40, csI, 3⟩
def csV : Cs := [(.cmp .geq at0 (.lit 0), true), (.cmp .leq at0 (.lit 64), true), (.cmp .leq at0 (fnT 47 x5), true)]
def U2 : Tpl := ⟨[(4, cS), (5, aS), (58, cS), (59, .int .i64 (fnT 47 x5)), (60, iV 9)], 73, [(17, cB), (22, aB)], 40, csV, 3⟩
def csM : Cs := [(.cmp .gtr (.var 6) (.lit 200), false), (.cmp .leq (.var 6) (.lit 1000000), true)] ++ csN
def okT : IT := fnT 49 eT
def e49 : IT := .elem (.lit 0) 1 0 okT
def fc : Cs := [(.cmp .geq okT (.lit 0), true), (.cmp .lss okT (.var 14), true)]
def fN : Cs := [(.cmp .neq (fnT 47 x5) (.var 13), false)]
def fV (b : Bool) : Cs := [(.cmp .lss at0 (fnT 47 x5), b)]
def fW : Cs := [(.cmp .lss at0 (.var 14), true), (.cmp .neq (.un 0 (fnT 46 x5) (.elem (.lit 0) 1 0 at0)) (.un 0 (.var 12) (.elem (.lit 0) 1 0 at0)), false)]
def setT : IT := .un 2 (.var 12) (.un 1 e49 (.bin .add .i64 (.un 0 (.var 12) e49) (.lit 1)))
def mxT : IT := .mx (.var 13) (.bin .add .i64 okT (.lit 1))
def nU : List (Nat × Nat) := [(20, 20), (19, 19), (17, 17), (16, 16), (22, 22), (0, 0)]
def nV : List (Nat × Nat) := [(17, 17), (16, 16), (22, 22)]
def s0 : Sub := ⟨[(6, .var 6), (5, .var 5), (14, .lit 70), (18, .lit 70), (13, .lit 0), (9, .lit 0), (12, zeroT 70)], [], [], [], [(20, 12), (19, 11), (17, 14), (16, 13), (22, 17), (0, 0)]⟩
def s1 : Sub := ⟨[(6, .var 6), (5, .var 5), (14, .var 14), (18, .var 18), (13, mxT), (9, upI 9), (12, setT)], [], [], [], nU⟩
def s2 (t : IT) : Sub := ⟨[(5, .var 5), (14, .var 14), (18, .var 18), (9, t), (12, .var 12)], [], [], [], nV⟩
def spE : CallF := spL [(6, spTrue), (7, spCls), (8, spOf), (10, spOf), (11, spCl)]
theorem spE_ok {w : World} : CallOk Tryd.prog ⟨w, [], GT⟩ spE := spL_ok fun p hp => by
  simp only [List.mem_cons, List.not_mem_nil, or_false] at hp
  rcases hp with rfl | rfl | rfl | rfl | rfl
  · exact spTrue_ok first6
  · exact spCls_ok fun _ _ _ _ _ h => h.1
  · exact spOf_ok fun _ _ _ _ _ h => h.1.1
  · exact spRef_ok fun _ _ _ _ _ h => h.1.1
  · exact spCl_ok fun _ _ _ _ _ h => h
noncomputable def b30 : Code := ((loopsOf (Tryd.f3.body.getD .ret) []).getD 0 (.ret, [])).1
noncomputable def k30 : List Item := ((loopsOf (Tryd.f3.body.getD .ret) []).getD 0 (.ret, [])).2
noncomputable def b31 : Code := ((loopsOf (Tryd.f3.body.getD .ret) []).getD 1 (.ret, [])).1
noncomputable def k31 : List Item := ((loopsOf (Tryd.f3.body.getD .ret) []).getD 1 (.ret, [])).2
noncomputable def RunE (T : Tpl) (b : Code) (k : List Item) (Ts : List Tpl) (c : Cs) (l : LS) : Prop := (run Tryd.prog [] spE 4000 true 3 ((⟨T.tm, T.nt, T.H, T.nl, c ++ T.cs, T.dep⟩ : Tpl).st (.code b :: .inLoop b :: k))).map (·.filterMap (sumD gM Ts)) = some [l]
theorem e_in : (run Tryd.prog [] spE 4000 true 3 (entry Tryd.f3 (Tryd.f3.body.getD .ret) [sL] (ofP (roH [hL])) 10 csM)).map (·.filterMap (sumD gM [U1])) = some [.next 0 (.code (.loop b30) :: k30) [] s0] := by kernel_rfl
theorem e_1 : RunE U1 b30 k30 [U1] (fI true ++ fc) (.next 0 (.inLoop b30 :: k30) [] s1) := by unfold RunE; kernel_rfl
theorem e_1e : RunE U1 b30 k30 [U2] (fI false ++ fN) (.next 0 (.code (.loop b31) :: k31) [] (s2 (.lit 0))) := by unfold RunE; kernel_rfl
theorem e_2 : RunE U2 b31 k31 [U2] (fV true ++ fW) (.next 0 (.inLoop b31 :: k31) [] (s2 (upI 9))) := by unfold RunE; kernel_rfl
theorem e_2e : RunE U2 b31 k31 [U2] (fV false) (.ret (.bool (.lit true)) []) := by unfold RunE; kernel_rfl
noncomputable def AllE (args : List AVal) (H : Heap) (cs : Cs) : Prop := (run Tryd.prog [] spE 4000 false 3 (entry Tryd.f3 (Tryd.f3.body.getD .ret) args H 10 cs)).map (·.all (leafB (.lit true))) = some true
theorem e_200 : AllE [sL] (ofP (roH [hL])) [(.cmp .gtr (.var 6) (.lit 200), true)] := by unfold AllE; kernel_rfl
theorem e_nil : AllE [.sliceNil] .leaf [] := by unfold AllE; kernel_rfl
theorem e_zero : AllE [sZ] .leaf [] := by unfold AllE; kernel_rfl
-- WHAT HOLDS
structure JT (L : List Int) (i : Nat) (ρ : Env) : Prop where
  j : JI L i ρ
  w : ∃ W, ρ.I 12 = encL W ∧ Cnt W (clsL L i)
  i13 : ρ.I 13 = ((clsL L i).length : Int)
  i14 : ρ.I 14 = 70
theorem JT.of_le {L : List Int} {i : Nat} {ρ ρ' : Env} (h : JT L i ρ) (g : ρ.Le ρ') : JT L i ρ' := ⟨h.j.of_le g, by rw [g.i]; exact h.w, by rw [g.i]; exact h.i13, by rw [g.i]; exact h.i14⟩
structure JV (L : List Int) (i : Nat) (ρ : Env) : Prop where
  i5 : ρ.I 5 = encL L
  i9 : ρ.I 9 = (i : Int)
  le : i ≤ (clM L).length
  w : ∃ W, ρ.I 12 = encL W ∧ Cnt W (clM L)
  i14 : ρ.I 14 = 70
theorem JV.of_le {L : List Int} {i : Nat} {ρ ρ' : Env} (h : JV L i ρ) (g : ρ.Le ρ') : JV L i ρ' := ⟨by rw [g.i]; exact h.i5, by rw [g.i]; exact h.i9, h.le, by rw [g.i]; exact h.w, by rw [g.i]; exact h.i14⟩
section
variable {L : List Int} {i : Nat} {ρ : Env}
theorem e46 (h : ρ.I 5 = encL L) (hG : GP.at GT ρ) : (fnT 46 x5).den ρ = some (encL (clM L)) := by rw [fnT, x5, fnD (varD h) (litD 0), hG.1.1.2.2.2.2.2.2.1]; simp only [decL_encL]; rfl
theorem e47 (h : ρ.I 5 = encL L) (hG : GP.at GT ρ) : (fnT 47 x5).den ρ = some ((clM L).length : Int) := by rw [fnT, x5, fnD (varD h) (litD 0), hG.1.1.2.2.2.2.2.2.2.1]; simp only [decL_encL]; rfl
theorem okT_den (h : JI L i ρ) (hG : GP.at GT ρ) : okT.den ρ = some ((clsOf (L.getD i 0) : Nat) : Int) := by rw [okT, fnT, fnD (e_den h) (litD 0), hG.2]
theorem JV.cs (h : JV L i ρ) (hG : GP.at GT ρ) : CRel ρ csV := by
  have := h.le
  have := clsL_len L L.length
  have : (clM L).length ≤ 64 := this
  exact c1 (geqT (varD h.i9) (litD 0) (by omega)) (c1 (leqT (varD h.i9) (litD 64) (by omega)) (c1 (leqT (varD h.i9) (e47 h.i5 hG) (by omega)) c0))
theorem JV.lt (h : JV L i ρ) (hG : GP.at GT ρ) {b : Bool} (hb : decide (i < (clM L).length) = b) : CRel ρ (fV b) := by
  have e : (BT.cmp .lss at0 (fnT 47 x5)).den ρ = some b := by
    rw [show at0 = IT.var 9 from rfl, cmpD (varD h.i9) (e47 h.i5 hG)]
    simp only [intCmp, Option.some.injEq]
    rw [← hb, decide_eq_decide]; omega
  exact c1 e c0
end
theorem loop2 (W : World) (L : List Int) : ∀ ρ, (∃ i, JV L i ρ) → ∀ todo a w, todo = .inLoop b31 :: k31 ∨ todo = .code (.loop b31) :: k31 → SRel ⟨W, [], GT⟩ ρ (U2.st todo) a w → Goes Tryd.prog 3 (fun v w' => QT v ∧ Framed W w') todo a w :=
  loop_goesD (P := Tryd.prog) (β := ⟨W, [], GT⟩) (f := 3) (Q := QT) (Ts := [U2]) (T := U2) (b := b31) (k := k31) (n := 4000) (g := gM) (pl := true) noCount noExt spE_ok follows rfl (fun ρ => ∃ i, JV L i ρ) (fun ρ => (((clM L).length : Int) - ρ.I 9).toNat) fun ρ ⟨i, j⟩ _ hcs hG ih => by
    have hi := j.le
    have h64 : (clM L).length ≤ 64 := clsL_len L L.length
    by_cases hlt : i < (clM L).length
    · obtain ⟨V, hV, hc⟩ := j.w
      refine ⟨(fV true ++ fW) ++ U2.cs, _, CRel_app.2 ⟨CRel_app.2 ⟨j.lt hG (decide_eq_true hlt), c1 (lssT (varD j.i9) (varD j.i14) (by omega)) (c1 (neqF (el_den (e46 j.i5 hG) (varD j.i9)) (el_den (varD hV) (varD j.i9)) (hc.get i).symm) c0)⟩, hcs⟩, e_2, Go.Vm.one (nextS rfl fun ρ' hle hG' => ?_)⟩
      have j' := j.of_le hle
      have jn : JV L (i + 1) ((s2 (upI 9)).app ρ') := ⟨j'.i5, sbI (t := upI 9) rfl (upD (varD j'.i9) (by omega)), hlt, j'.w, j'.i14⟩
      have hg : GP.at GT ((s2 (upI 9)).app ρ') := ⟨⟨hG'.1.1, hG'.1.2⟩, hG'.2⟩
      exact ⟨hg, jn.cs hg, fun a w' r => ih _ (by rw [jn.i9, j.i9]; omega) ⟨_, jn⟩ _ a w' (.inl rfl) r⟩
    · exact ⟨fV false ++ U2.cs, _, CRel_app.2 ⟨j.lt hG (decide_eq_false hlt), hcs⟩, e_2e, Go.Vm.one (retS (z := .bool true) (fun ρ' _ => rfl) rfl)⟩
theorem loop1 (W : World) (L : List Int) : ∀ ρ, (∃ i, JT L i ρ) → ∀ todo a w, todo = .inLoop b30 :: k30 ∨ todo = .code (.loop b30) :: k30 → SRel ⟨W, [], GT⟩ ρ (U1.st todo) a w → Goes Tryd.prog 3 (fun v w' => QT v ∧ Framed W w') todo a w := fun ρ hJ => by
  refine loop_goesK (P := Tryd.prog) (β := ⟨W, [], GT⟩) (f := 3) (Q := QT) (b := b30) (k := k30) (n := 4000) (g := gM) noCount noExt spE_ok follows rfl (ι := Unit) (fun _ => U1) (fun _ ρ => ∃ i, JT L i ρ) (fun _ ρ => ((L.length : Int) - ρ.I 9).toNat) (fun _ ρ ⟨i, j⟩ hcs hG ih => ?_) () ρ hJ
  have hi := j.j.le
  have n3 := j.j.n.n3
  have h63 := clsOf_le (L.getD i 0)
  have h64 := clsL_len L i
  by_cases hlt : i < L.length
  · refine ⟨true, [U1], (fI true ++ fc) ++ U1.cs, _, CRel_app.2 ⟨CRel_app.2 ⟨j.j.lt (decide_eq_true hlt), c1 (geqT (okT_den j.j hG) (litD 0) (by omega)) (c1 (lssT (okT_den j.j hG) (varD j.i14) (by omega)) c0)⟩, hcs⟩, e_1, Go.Vm.one (nextS rfl fun ρ' hle hG' => ?_)⟩
    have j' := j.of_le hle
    have ek := okT_den j'.j hG'
    obtain ⟨V, hV, hc⟩ := j'.w
    have e49d : e49.den ρ' = some ((clsOf (L.getD i 0) : Nat) : Int) := by
      have := elemD (ρ := ρ') (sz := 1) (j := 0) (litD ((0 : Nat) : Int)) ek
      refine this.trans ?_
      congr 2; omega
    have ge : (IT.un 0 (.var 12) e49).den ρ' = some (V.getD (clsOf (L.getD i 0)) 0) := by
      refine (unD (varD hV) e49d).trans ?_
      show some ((decL (encL V)).getD ((clsOf (L.getD i 0) : Nat) : Int).toNat 0) = _
      rw [decL_encL, Int.toNat_natCast]
    have hb := padL_in L i (clsOf (L.getD i 0))
    rw [padL_get, ← hc.get] at hb
    have pe := plusD ge (litD 1) (by omega) (by omega)
    have es : setT.den ρ' = some (encL (V.set (clsOf (L.getD i 0)) (V.getD (clsOf (L.getD i 0)) 0 + 1))) := by
      refine (unD (varD hV) (unD e49d pe)).trans ?_
      show some (encL ((decL (encL V)).set ((decL (encL [((clsOf (L.getD i 0) : Nat) : Int), V.getD (clsOf (L.getD i 0)) 0 + 1])).getD 0 0).toNat ((decL (encL [((clsOf (L.getD i 0) : Nat) : Int), V.getD (clsOf (L.getD i 0)) 0 + 1])).getD 1 0))) = _
      rw [decL_encL, decL_encL]
      simp only [List.getD_cons_zero, List.getD_cons_succ, Int.toNat_natCast]
    have em : mxT.den ρ' = some ((clsL L (i + 1)).length : Int) := by
      rw [mxT, mxD (varD j'.i13) (plusD ek (litD 1) (by omega) (by omega)), clsL, bump_len]
      congr 1; split <;> omega
    have jn : JT L (i + 1) (s1.app ρ') := ⟨⟨⟨j'.j.n.i5, j'.j.n.i6, j'.j.n.n1, n3⟩, sbI (t := upI 9) rfl (upD (varD j'.j.i9) (by omega)), hlt⟩, ⟨_, sbI (t := setT) rfl es, hc.bump h63⟩, sbI (t := mxT) rfl em, j'.i14⟩
    exact ⟨⟨⟨hG'.1.1, hG'.1.2⟩, hG'.2⟩, jn.j.cs, fun a w' r => ih () _ (by rw [jn.j.i9, j.j.i9]; omega) ⟨_, jn⟩ _ a w' (.inl rfl) r⟩
  · obtain rfl : i = L.length := by omega
    refine ⟨true, [U2], (fI false ++ fN) ++ U1.cs, _, CRel_app.2 ⟨CRel_app.2 ⟨j.j.lt (decide_eq_false hlt), c1 (neqF (e47 j.j.n.i5 hG) (varD j.i13) rfl) c0⟩, hcs⟩, e_1e, Go.Vm.one (nextS rfl fun ρ' hle hG' => ?_)⟩
    have j' := j.of_le hle
    have jn : JV L 0 ((s2 (.lit 0)).app ρ') := ⟨j'.j.n.i5, rfl, Nat.zero_le _, j'.w, j'.i14⟩
    have hg : GP.at GT ((s2 (.lit 0)).app ρ') := ⟨⟨hG'.1.1, hG'.1.2⟩, hG'.2⟩
    exact ⟨hg, jn.cs hg, fun a w' r => loop2 W L _ ⟨_, jn⟩ _ a w' (.inr rfl) r⟩
-- THE LAW
theorem allE {W : World} {ρ : Env} {args : List AVal} {xs : List Value} {H : Heap} {cs : Cs} (h : AllE args H cs) (hx : AVal.denL ρ args = some xs) (hr : HRel ⟨W, [], GT⟩ ρ H 10 W) (hc : CRel ρ cs) : Calls Tryd.prog 3 xs.toArray W (fun e w' => e = .returned (.bool true) ∧ Framed W w') :=
  calls_true (β := ⟨W, [], GT⟩) noExt spE_ok rfl Tryd.func3 rfl h hx hr hc
theorem hrelZ (w : World) (b o q : Nat) : HRel ⟨w, [], GT⟩ (envR [] b o q FT) .leaf 10 w := HRel.ro [] (fun p hp' => by cases hp') (fun i hi => if_neg (by omega)) (GT_at (fun v hv => by cases hv) ..)
theorem law_nil (W : World) : Calls Tryd.prog 3 #[.slice none 0 0] W (fun e w' => e = .returned (.bool true) ∧ Framed W w') := allE e_nil (denL1 rfl) (hrelZ W 0 0 0) c0
theorem law_zero (W : World) (b o q : Nat) : Calls Tryd.prog 3 #[.slice (some ⟨b, o, none⟩) 0 q] W (fun e w' => e = .returned (.bool true) ∧ Framed W w') :=
  allE e_zero (denL1 (den_slice_of (b := b) (o := o) (n := 0) (c := q) rfl rfl rfl rfl)) (hrelZ W b o q) c0
theorem law_row {W : World} {b o q : Nat} {L : List Int} (h : IntsAt W b o L) (hR : ∀ v ∈ L, Ran v) (h1 : 1 ≤ L.length) : Calls Tryd.prog 3 #[.slice (some ⟨b, o, none⟩) L.length q] W (fun e w' => e = .returned (.bool true) ∧ Framed W w') := by
  have hr := startR (q := q) (G := GT) (F := FT) h (GT_at hR ..)
  have hx : AVal.denL (envR L b o q FT) [sL] = some [.slice (some ⟨b, o, none⟩) L.length q] := denL1 (den_slice_of rfl rfl rfl rfl)
  have e6 : (IT.var 6).den (envR L b o q FT) = some (L.length : Int) := rfl
  by_cases hl : 200 < L.length
  · exact allE e_200 hx hr (c1 (gtrT e6 (litD 200) (by omega)) c0)
  · have jN : JN L (envR L b o q FT) := ⟨rfl, rfl, h1, by omega⟩
    refine (calls_sumsD (β := ⟨W, [], GT⟩) (Q := QT) (g := gM) (Ts := [U1]) (pl := true) noCount noExt spE_ok follows rfl Tryd.func3 rfl e_in hx hr (CRel_app.2 ⟨c1 (gtrF e6 (litD 200) (by omega)) (c1 (leqT e6 (litD _) (by omega)) c0), jN.cs⟩) (Go.Vm.one (nextS rfl fun ρ' hle hG' => ?_))).mono fun _ _ ⟨_, he, hv, hf⟩ => ⟨by rw [he, hv], hf⟩
    have j' := jN.of_le hle
    have jn : JT L 0 (s0.app ρ') := ⟨⟨⟨j'.i5, j'.i6, h1, j'.n3⟩, rfl, Nat.zero_le _⟩, ⟨_, sbI (t := zeroT 70) rfl (zeroT_den 70), ⟨by rw [List.length_replicate], fun j => by
      rw [List.getD_eq_getElem?_getD, List.getElem?_replicate]
      split <;> rfl⟩⟩, rfl, rfl⟩
    exact ⟨⟨⟨hG'.1.1, hG'.1.2⟩, hG'.2⟩, jn.j.cs, fun a w r => loop1 W L _ ⟨_, jn⟩ _ a w (.inr rfl) r⟩
end Te
end Rk
end Go.Proofs.YtglghnfbkiondaaDoor
