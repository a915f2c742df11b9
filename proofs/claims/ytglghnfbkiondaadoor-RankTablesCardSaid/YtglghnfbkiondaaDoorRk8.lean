/-
  Ranks (7): RankOrders answers true, for every row.
-/
import Derived.Test.YtglghnfbkiondaaDoorRk6
import Derived.Test.YtglghnfbkiondaaDoorRw
import Derived.Lib.SmallJoins
section
namespace Go.Proofs.YtglghnfbkiondaaDoor
open Go.Vm Go.Vm.Rk
namespace Rk

-- PLAIN
theorem takeS : ∀ (l : List Int) (i : Nat), (l.take (i + 1)).sum = (l.take i).sum + l.getD i 0
  | [], i => by simp
  | a :: r, 0 => by simp
  | a :: r, i + 1 => by
    have := takeS r i
    simp only [List.take_succ_cons, List.sum_cons, List.getD_cons_succ] at this ⊢
    rw [this]; omega
theorem takeB : ∀ (l : List Int), (∀ x ∈ l, 0 ≤ x) → ∀ i, 0 ≤ (l.take i).sum ∧ (l.take i).sum ≤ l.sum
  | [], _, i => by simp
  | a :: r, hp, 0 => by
    have h1 := (takeB r (fun y hy => hp y (List.mem_cons_of_mem _ hy)) 0)
    have := hp a List.mem_cons_self
    simp only [List.take_zero, List.sum_nil, List.sum_cons] at h1 ⊢
    omega
  | a :: r, hp, i + 1 => by
    have h1 := (takeB r (fun y hy => hp y (List.mem_cons_of_mem _ hy)) i)
    have := hp a List.mem_cons_self
    simp only [List.take_succ_cons, List.sum_cons]
    omega
theorem getD_mem {L : List Int} {i : Nat} (h : i < L.length) : L.getD i 0 ∈ L := by
  rw [List.getD_eq_getElem?_getD, List.getElem?_eq_getElem h]
  exact List.getElem_mem h
theorem mem_getD {L : List Int} {x : Int} (h : x ∈ L) : ∃ i, i < L.length ∧ L.getD i 0 = x := by
  obtain ⟨i, hi, he⟩ := List.getElem_of_mem h
  exact ⟨i, hi, by rw [List.getD_eq_getElem?_getD, List.getElem?_eq_getElem hi]; exact he⟩
def clM (L : List Int) : List Int := clsL L L.length
theorem clM_len {L : List Int} (h : 1 ≤ L.length) : 1 ≤ (clM L).length ∧ (clM L).length ≤ 64 := by
  refine ⟨?_, clsL_len L _⟩
  obtain ⟨n, hn⟩ : ∃ n, L.length = n + 1 := ⟨L.length - 1, by omega⟩
  unfold clM; rw [hn]; exact clsL_pos L n
-- NAMED NUMBERS
section
variable {L : List Int} {ρ : Env}
theorem d41 (h : JN L ρ) (hG : GP.at GL ρ) : (fnT 41 x5).den ρ = some (least L) := by rw [fnT, x5, fnD (varD h.i5) (litD 0), hG.1.2.1]; simp only [decL_encL]
theorem d42 (h : JN L ρ) (hG : GP.at GL ρ) : (fnT 42 x5).den ρ = some (most L) := by rw [fnT, x5, fnD (varD h.i5) (litD 0), hG.1.2.2.1]; simp only [decL_encL]
theorem d44 (h : JN L ρ) (hG : GP.at GL ρ) : (fnT 44 x5).den ρ = some (mid L) := by rw [fnT, x5, fnD (varD h.i5) (litD 0), hG.1.2.2.2.2.1]; simp only [decL_encL]
theorem d45 (h : JN L ρ) (hG : GP.at GL ρ) : (fnT 45 x5).den ρ = some (late L) := by rw [fnT, x5, fnD (varD h.i5) (litD 0), hG.1.2.2.2.2.2.1]; simp only [decL_encL]
theorem d46 (h : JN L ρ) (hG : GP.at GL ρ) : (fnT 46 x5).den ρ = some (encL (clM L)) := by rw [fnT, x5, fnD (varD h.i5) (litD 0), hG.1.2.2.2.2.2.2.1]; simp only [decL_encL]; rfl
theorem d47 (h : JN L ρ) (hG : GP.at GL ρ) : (fnT 47 x5).den ρ = some ((clM L).length : Int) := by rw [fnT, x5, fnD (varD h.i5) (litD 0), hG.1.2.2.2.2.2.2.2.1]; simp only [decL_encL]; rfl
end
-- THE HEADS
structure J1 (L : List Int) (i : Nat) (ρ : Env) : Prop where
  n : JN L ρ
  i9 : ρ.I 9 = (i : Int)
  le : i ≤ (clM L).length
  i13 : ρ.I 13 = ((clM L).take i).sum
theorem J1.of_le {L : List Int} {i : Nat} {ρ ρ' : Env} (h : J1 L i ρ) (g : ρ.Le ρ') : J1 L i ρ' := ⟨h.n.of_le g, by rw [g.i]; exact h.i9, h.le, by rw [g.i]; exact h.i13⟩
theorem J1.cs {L : List Int} {i : Nat} {ρ : Env} (h : J1 L i ρ) (hG : GP.at GL ρ) : CRel ρ csC := by
  have := h.le
  have hm := clM_len h.n.n1
  have e := d47 h.n hG
  exact c1 (geqT e (litD 0) (by omega)) (c1 (leqT e (litD 70) (by omega)) (c1 (geqT (varD h.i9) (litD 0) (by omega)) (c1 (leqT (varD h.i9) e (by omega)) h.n.cs)))
theorem J1.lt {L : List Int} {i : Nat} {ρ : Env} (h : J1 L i ρ) (hG : GP.at GL ρ) {b : Bool} (hb : decide (i < (clM L).length) = b) : CRel ρ (fC b) := by
  have e : (BT.cmp .lss at0 (fnT 47 x5)).den ρ = some b := by
    rw [show at0 = IT.var 9 from rfl, cmpD (varD h.i9) (d47 h.n hG)]
    simp only [intCmp, Option.some.injEq]
    rw [← hb, decide_eq_decide]; omega
  exact c1 e c0
structure J2 (L : List Int) (i h : Nat) (ρ : Env) : Prop where
  j : JI L i ρ
  i13 : ρ.I 13 = (L.length : Int)
  i15 : ρ.I 15 = (h : Int)
  hi : h ≤ i
  got : ∀ j, j < i → L.getD j 0 = mid L → 1 ≤ h
theorem J2.of_le {L : List Int} {i h : Nat} {ρ ρ' : Env} (j : J2 L i h ρ) (g : ρ.Le ρ') : J2 L i h ρ' := ⟨j.j.of_le g, by rw [g.i]; exact j.i13, by rw [g.i]; exact j.i15, j.hi, j.got⟩
theorem G_le {ρ ρ' : Env} (g : ρ.Le ρ') (h : GP.at GL ρ) : GP.at GL ρ' := by
  unfold GP.at GL at h ⊢
  rw [g.i, g.f]
  exact h
section
variable {L : List Int} {i h : Nat} {ρ : Env}
theorem e_den (j : JI L i ρ) : eT.den ρ = some (L.getD i 0) := el_den (c := x5) (varD j.n.i5) (varD j.i9)
theorem ok2_ok (j : JI L i ρ) (hi : i < L.length) (hG : GP.at GL ρ) : CRel ρ ok2 := by
  have hm := getD_mem hi
  exact CRel_app.2 ⟨j.lt (decide_eq_true hi), c1 (lssF (e_den j) (d41 j.n hG) (sortL_least L hm)) (c1 (gtrF (e_den j) (d42 j.n hG) (sortL_most L hm)) c0)⟩
theorem fE_ok (j : JI L i ρ) (hi : i < L.length) (hG : GP.at GL ρ) {a : Bool} (ha : decide (L.getD i 0 = mid L) = a) : CRel ρ (fE a) := by
  refine CRel_app.2 ⟨ok2_ok j hi hG, ?_⟩
  cases a with
  | true => exact c1 (eqlT (e_den j) (d44 j.n hG) (of_decide_eq_true ha)) c0
  | false => exact c1 (eqlF (e_den j) (d44 j.n hG) (of_decide_eq_false ha)) c0
theorem fE2_ok (j : JI L i ρ) (hi : i < L.length) (hG : GP.at GL ρ) (ha : L.getD i 0 ≠ mid L) {b : Bool} (hb : decide (L.getD i 0 = late L) = b) : CRel ρ (fE2 b) := by
  refine CRel_app.2 ⟨fE_ok j hi hG (decide_eq_false ha), ?_⟩
  cases b with
  | true => exact c1 (eqlT (e_den j) (d45 j.n hG) (of_decide_eq_true hb)) c0
  | false => exact c1 (eqlF (e_den j) (d45 j.n hG) (of_decide_eq_false hb)) c0
theorem fEnd_ok (j : J2 L L.length h ρ) (hG : GP.at GL ρ) : CRel ρ fEnd := by
  have h1 := j.j.n.n1
  obtain ⟨k, hk, he⟩ := mem_getD (sortL_mem L (i := (L.length - 1) / 2) (by omega))
  have := j.got k hk he
  exact CRel_app.2 ⟨j.j.lt (decide_eq_false (Nat.lt_irrefl _)), c1 (leqT (d41 j.j.n hG) (d44 j.j.n hG) (sortL_le L (by omega) (by omega))) (c1 (leqT (d44 j.j.n hG) (d45 j.j.n hG) (sortL_le L (by omega) (by omega))) (c1 (leqT (d45 j.j.n hG) (d42 j.j.n hG) (sortL_le L (by omega) (by omega))) (c1 (eqlT (varD j.i13) (varD j.j.n.i6) rfl) (c1 (gtrT (varD j.i15) (litD 0) (by omega)) c0))))⟩
end
-- THE LOOPS
def QT (v : Value) : Prop := v = .bool true
theorem loop2 (W : World) (L : List Int) : ∀ ρ, (∃ i h, J2 L i h ρ) → ∀ todo a w, todo = .inLoop b51 :: k51 ∨ todo = .code (.loop b51) :: k51 → SRel ⟨W, [], GL⟩ ρ (T2.st todo) a w → Goes Tryd.prog 5 (fun v w' => QT v ∧ Framed W w') todo a w :=
  loop_goesD (P := Tryd.prog) (β := ⟨W, [], GL⟩) (f := 5) (Q := QT) (Ts := [T2]) (T := T2) (b := b51) (k := k51) (n := 4000) (g := gM) (pl := true) noCount noExt spA_ok follows rfl (fun ρ => ∃ i h, J2 L i h ρ) (fun ρ => ((L.length : Int) - ρ.I 9).toNat) fun ρ ⟨i, h, j⟩ _ hcs hG ih => by
    have hi := j.j.le
    have n3 := j.j.n.n3
    by_cases hlt : i < L.length
    · by_cases hm : L.getD i 0 = mid L
      · refine ⟨fE true ++ T2.cs, _, CRel_app.2 ⟨fE_ok j.j hlt hG (decide_eq_true hm), hcs⟩, a_2a, Go.Vm.one (nextS rfl fun ρ' hle hG' => ?_)⟩
        have j' := j.of_le hle
        have jn : J2 L (i + 1) (h + 1) ((sgA3 (upI 15)).app ρ') := ⟨⟨⟨j'.j.n.i5, j'.j.n.i6, j'.j.n.n1, n3⟩, sbI (t := upI 9) rfl (upD (varD j'.j.i9) (by omega)), hlt⟩, j'.i13, sbI (t := upI 15) rfl (upD (varD j'.i15) (by have := j.hi; omega)), by have := j.hi; omega, fun _ _ _ => by omega⟩
        exact ⟨⟨hG'.1, hG'.2⟩, jn.j.cs, fun a w' r => ih _ (by rw [jn.j.i9, j.j.i9]; omega) ⟨_, _, jn⟩ _ a w' (.inl rfl) r⟩
      · by_cases hl : L.getD i 0 = late L
        · refine ⟨fE2 true ++ T2.cs, _, CRel_app.2 ⟨fE2_ok j.j hlt hG hm (decide_eq_true hl), hcs⟩, a_2b, Go.Vm.one (nextS rfl fun ρ' hle hG' => ?_)⟩
          have j' := j.of_le hle
          have jn : J2 L (i + 1) (h + 1) ((sgA3 (upI 15)).app ρ') := ⟨⟨⟨j'.j.n.i5, j'.j.n.i6, j'.j.n.n1, n3⟩, sbI (t := upI 9) rfl (upD (varD j'.j.i9) (by omega)), hlt⟩, j'.i13, sbI (t := upI 15) rfl (upD (varD j'.i15) (by have := j.hi; omega)), by have := j.hi; omega, fun _ _ _ => by omega⟩
          exact ⟨⟨hG'.1, hG'.2⟩, jn.j.cs, fun a w' r => ih _ (by rw [jn.j.i9, j.j.i9]; omega) ⟨_, _, jn⟩ _ a w' (.inl rfl) r⟩
        · refine ⟨fE2 false ++ T2.cs, _, CRel_app.2 ⟨fE2_ok j.j hlt hG hm (decide_eq_false hl), hcs⟩, a_2c, Go.Vm.one (nextS rfl fun ρ' hle hG' => ?_)⟩
          have j' := j.of_le hle
          have jn : J2 L (i + 1) h ((sgA3 (.var 15)).app ρ') := ⟨⟨⟨j'.j.n.i5, j'.j.n.i6, j'.j.n.n1, n3⟩, sbI (t := upI 9) rfl (upD (varD j'.j.i9) (by omega)), hlt⟩, j'.i13, j'.i15, by have := j.hi; omega, fun k hk he => by
            rcases Nat.lt_or_ge k i with h1 | h1
            · exact j.got k h1 he
            · obtain rfl : k = i := by omega
              exact absurd he hm⟩
          exact ⟨⟨hG'.1, hG'.2⟩, jn.j.cs, fun a w' r => ih _ (by rw [jn.j.i9, j.j.i9]; omega) ⟨_, _, jn⟩ _ a w' (.inl rfl) r⟩
    · obtain rfl : i = L.length := by omega
      exact ⟨fEnd ++ T2.cs, _, CRel_app.2 ⟨fEnd_ok j hG, hcs⟩, a_2e, Go.Vm.one (retS (z := .bool true) (fun ρ' _ => rfl) rfl)⟩
theorem loop1 (W : World) (L : List Int) : ∀ ρ, (∃ i, J1 L i ρ) → ∀ todo a w, todo = .inLoop b50 :: k50 ∨ todo = .code (.loop b50) :: k50 → SRel ⟨W, [], GL⟩ ρ (T1.st todo) a w → Goes Tryd.prog 5 (fun v w' => QT v ∧ Framed W w') todo a w := fun ρ hJ => by
  refine loop_goesK (P := Tryd.prog) (β := ⟨W, [], GL⟩) (f := 5) (Q := QT) (b := b50) (k := k50) (n := 4000) (g := gM) noCount noExt spA_ok follows rfl (ι := Unit) (fun _ => T1) (fun _ ρ => ∃ i, J1 L i ρ) (fun _ ρ => (((clM L).length : Int) - ρ.I 9).toNat) (fun _ ρ ⟨i, j⟩ hcs hG ih => ?_) () ρ hJ
  have hi := j.le
  have n3 := j.n.n3
  have hb := clM_len j.n.n1
  have hs : (clM L).sum = (L.length : Int) := clsL_sum L L.length
  have hnn : ∀ x ∈ clM L, 0 ≤ x := clsL_nonneg L _
  by_cases hlt : i < (clM L).length
  · refine ⟨true, [T1], fC true ++ T1.cs, _, CRel_app.2 ⟨j.lt hG (decide_eq_true hlt), hcs⟩, a_1, Go.Vm.one (nextS rfl fun ρ' hle hG' => ?_)⟩
    have j' := j.of_le hle
    have b1 := takeB (clM L) hnn (i + 1)
    have b2 := takeS (clM L) i
    have es : addC.den ρ' = some ((clM L).take (i + 1)).sum := by
      rw [b2]
      exact plusD (varD j'.i13) (el_den (d46 j'.n hG') (varD j'.i9)) (by omega) (by omega)
    have jn : J1 L (i + 1) (sgA1.app ρ') := ⟨⟨j'.n.i5, j'.n.i6, j'.n.n1, n3⟩, sbI (t := upI 9) rfl (upD (varD j'.i9) (by omega)), hlt, sbI (t := addC) rfl es⟩
    have hg : GP.at GL (sgA1.app ρ') := ⟨hG'.1, hG'.2⟩
    exact ⟨hg, jn.cs hg, fun a w' r => ih () _ (by rw [jn.i9, j.i9]; omega) ⟨_, jn⟩ _ a w' (.inl rfl) r⟩
  · obtain rfl : i = (clM L).length := by omega
    refine ⟨true, [T2], fC false ++ T1.cs, _, CRel_app.2 ⟨j.lt hG (decide_eq_false hlt), hcs⟩, a_1e, Go.Vm.one (nextS rfl fun ρ' hle hG' => ?_)⟩
    have j' := j.of_le hle
    have e13 : ρ'.I 13 = (L.length : Int) := by rw [j'.i13, List.take_length, hs]
    have jn : J2 L 0 0 (sgA2.app ρ') := ⟨⟨⟨j'.n.i5, j'.n.i6, j'.n.n1, n3⟩, rfl, Nat.zero_le _⟩, e13, rfl, Nat.le_refl _, fun k hk _ => by omega⟩
    exact ⟨⟨hG'.1, hG'.2⟩, jn.j.cs, fun a w' r => loop2 W L _ ⟨_, _, jn⟩ _ a w' (.inr rfl) r⟩
-- THE LAW
theorem allT {W : World} {ρ : Env} {args : List AVal} {xs : List Value} {H : Heap} {cs : Cs} (h : AllT args H cs) (hx : AVal.denL ρ args = some xs) (hr : HRel ⟨W, [], GL⟩ ρ H 10 W) (hc : CRel ρ cs) : Calls Tryd.prog 5 xs.toArray W (fun e w' => e = .returned (.bool true) ∧ Framed W w') :=
  calls_true (β := ⟨W, [], GL⟩) noExt spA_ok rfl Tryd.func5 rfl h hx hr hc
theorem GL_at {L : List Int} (hR : ∀ v ∈ L, Ran v) (b o q : Nat) : GP.at GL (envR L b o q FR) := ⟨GR_at .., by
  show ∀ v ∈ decL (encL L), Ran v
  rw [decL_encL]; exact hR⟩
theorem hrelZ (w : World) (b o q : Nat) : HRel ⟨w, [], GL⟩ (envR [] b o q FR) .leaf 10 w := HRel.ro [] (fun p hp' => by cases hp') (fun i hi => if_neg (by omega)) (GL_at (fun v hv => by cases hv) ..)
theorem law_nil (W : World) : Calls Tryd.prog 5 #[.slice none 0 0] W (fun e w' => e = .returned (.bool true) ∧ Framed W w') := allT a_nil (denL1 rfl) (hrelZ W 0 0 0) c0
theorem law_zero (W : World) (b o q : Nat) : Calls Tryd.prog 5 #[.slice (some ⟨b, o, none⟩) 0 q] W (fun e w' => e = .returned (.bool true) ∧ Framed W w') :=
  allT a_zero (denL1 (den_slice_of (b := b) (o := o) (n := 0) (c := q) rfl rfl rfl rfl)) (hrelZ W b o q) c0
theorem law_row {W : World} {b o q : Nat} {L : List Int} (h : IntsAt W b o L) (hR : ∀ v ∈ L, Ran v) (h1 : 1 ≤ L.length) : Calls Tryd.prog 5 #[.slice (some ⟨b, o, none⟩) L.length q] W (fun e w' => e = .returned (.bool true) ∧ Framed W w') := by
  have hr := startR (q := q) (G := GL) (F := FR) h (GL_at hR ..)
  have hx : AVal.denL (envR L b o q FR) [sL] = some [.slice (some ⟨b, o, none⟩) L.length q] := denL1 (den_slice_of rfl rfl rfl rfl)
  have e6 : (IT.var 6).den (envR L b o q FR) = some (L.length : Int) := rfl
  by_cases hl : 300 < L.length
  · exact allT a_300 hx hr (c1 (gtrT e6 (litD 300) (by omega)) c0)
  · have jN : JN L (envR L b o q FR) := ⟨rfl, rfl, h1, by omega⟩
    refine (calls_sumsD (β := ⟨W, [], GL⟩) (Q := QT) (g := gM) (Ts := [T1]) (pl := true) noCount noExt spA_ok follows rfl Tryd.func5 rfl a_in hx hr jN.cs (Go.Vm.one (nextS rfl fun ρ' hle hG' => ?_))).mono fun _ _ ⟨_, he, hv, hf⟩ => ⟨by rw [he, hv], hf⟩
    have j' := jN.of_le hle
    have jn : J1 L 0 (sgA0.app ρ') := ⟨⟨j'.i5, j'.i6, h1, j'.n3⟩, rfl, Nat.zero_le _, rfl⟩
    have hg : GP.at GL (sgA0.app ρ') := ⟨hG'.1, hG'.2⟩
    exact ⟨hg, jn.cs hg, fun a w r => loop1 W L _ ⟨_, jn⟩ _ a w (.inr rfl) r⟩
end Rk
end Go.Proofs.YtglghnfbkiondaaDoor
end

/-
  Ranks (8): RankOrders: the row and the card.
-/
section
namespace Go.Proofs.YtglghnfbkiondaaDoor
open Go.ChangeShapes Go.WideShapes Go.ChangeAt Go.RowKit Go.Vm Go.Vm.Rk
set_option linter.unusedVariables false
namespace Rk

theorem ints_row {W : World} {b o m : Nat} {u : Value} (h : RowAt W b o [.i64] m u) (hin : InRow [.i64] m u) : ∃ L : List Int, L.length = m ∧ IntsAt W b o L ∧ ∀ v ∈ L, Ran v := by
  obtain ⟨c, fr, el, xs, h1, h2, h3, h4, h5⟩ := h.row
  have e : xs = (xs.map toZ).map (Value.int .i64) := by rw [← rowOf1]; exact h5.rowOf
  have hl : xs.length = m := by simpa using h5.1
  refine ⟨xs.map toZ, by rw [List.length_map, hl], ⟨c, fr, el, h1, h3, by rw [← e]; exact h4⟩, fun v hv => ?_⟩
  obtain ⟨i, hi, he⟩ := List.getElem_of_mem hv
  rw [List.length_map] at hi
  have hz : xs[i]? = some (.int .i64 v) := by
    rw [e, List.getElem?_map, List.getElem?_eq_getElem (by rw [List.length_map]; exact hi), he]; rfl
  have hs := selI_of h2 hz
  have hr := hin.1 i 0 .i64 (by omega) rfl
  have hb : IntKind.i64.min = -9223372036854775808 ∧ IntKind.i64.max = 9223372036854775807 := by decide
  have e1 : i * [IntKind.i64].length + 0 = i := by simp
  rw [e1, hs, hb.1, hb.2] at hr
  exact ⟨hr.1, by omega⟩
theorem own : ownKnob Tryd.prog.godebug = none := by kernel_rfl
theorem laidOut : laidOutB Tryd.prog = true := by kernel_rfl
theorem readable_of {f : Func} (h : f.params.toList.all (fun t => Tryd.prog.readableRec t && Nat.blt t Tryd.prog.types.size) = true) : ∀ t ∈ f.params.toList, Tryd.prog.readableRec t = true ∧ t < Tryd.prog.types.size := fun t ht => by
  have := List.all_eq_true.1 h t ht
  simp only [Bool.and_eq_true] at this
  exact ⟨this.1, Nat.le_of_ble_eq_true this.2⟩
theorem readable5 : ∀ t ∈ Tryd.f5.params.toList, Tryd.prog.readableRec t = true ∧ t < Tryd.prog.types.size := readable_of (by kernel_rfl)
theorem cells3 : Tryd.prog.cellsOf 3 = [IntKind.i64].length := by kernel_rfl
theorem flat3 : flat Tryd.prog 1 3 = some [.i64] := by kernel_rfl
set_option maxRecDepth 100000 in
/-- WHAT THE WALK GIVES, FOR EVERY ARGUMENT. -/
theorem contract (H : Type) (enc : TypeId × Value → H) (W : World) (base : Nat) (args : Array Value) (ds gs : List (DataW H)) (before : List MemPlace)
    (hval : ∀ (j : Nat) t v, Tryd.f5.params[j]? = some t → args[j]? = some v → Value.okWide Tryd.prog W .any base t v)
    (hW : DataW.Whole enc Tryd.prog Tryd.f5.params.toList Rows.rankOrdersSpec.vars false W args.toList ds gs before) :
    Calls Tryd.prog 5 args W fun e W' => ∃ v, e = .returned v ∧ Rows.rankOrdersSpec.post enc Tryd.prog Tryd.f5 false true false false W args v W' := by
  have hW' := hW
  obtain ⟨p, q, hA0, hV, rfl, hfz, hnd⟩ := hW
  have hA : DataW.TrodAll enc Tryd.prog W 0 (fun _ => true) true Tryd.f5.params.toList args.toList ds p := hA0
  rw [Tryd.params5] at hA hval
  obtain ⟨v0, vs0, d0, ds0, p0, q0, hargs, rfl, rfl, h0, r0⟩ := trodAll_cons hA
  obtain ⟨rfl, rfl, rfl⟩ := trodAll_nil r0
  obtain rfl : args = #[v0] := by cases args; simp_all
  have walk : Calls Tryd.prog 5 #[v0] W fun e w' => e = .returned (.bool true) ∧ Framed W w' := by
    rcases open_rowsR Tryd.underlying22 cells3 (by decide) flat3 (hval 0 22 v0 rfl rfl) h0 with rfl | ⟨b, o, len, cap, rfl, hlen, hrow⟩
    · exact law_nil W
    · rcases Nat.eq_zero_or_pos len with rfl | hpos
      · exact law_zero W b o cap
      · obtain ⟨u, hu, hin⟩ := hrow hpos
        obtain ⟨L, rfl, hL, hR⟩ := ints_row hu hin
        exact law_row hL hR hpos
  refine walk.mono fun e W' ⟨he, hg⟩ => ⟨_, he, ?_⟩
  exact law_shut (tb := 4) laidOut readable5 (by kernel_rfl) Tryd.underlying4 hW' rfl rfl rfl rfl (below_of_framed hg)
/-- A table as its variable's memory bears it. -/
def cellsOfData : DataW Unit → Array Value
  | .agg l => (l.map fun d => match d with
    | .lit (.int k n) => Value.int k n
    | _ => Value.tuple #[]).toArray
  | _ => #[]
def lay (o : Obj) (d : DataW Unit) : Obj := match o with
  | .cells _ t frozen => .cells (cellsOfData d) t frozen
  | o => o
def args0 : Array Value := #[.slice none 0 0]
/-- A world for the witness: the tables hold what their initialisers lay. -/
noncomputable def laidWorld (os : Os) : World :=
  { World.holding Tryd.prog os ⟨#[], #[], []⟩ with heap := (((World.holding Tryd.prog os ⟨#[], #[], []⟩).heap.modify 2 fun o => lay o Rows.laid_math_bits_deBruijn32tab).modify 3 fun o => lay o Rows.laid_math_bits_deBruijn64tab).modify 1 fun o => lay o Rows.laid_internal_strconv_uint64pow10 }
theorem laid_met (os : Os) : laidMet Tryd.prog Rows.rankOrdersRow.laid ((laidWorld os).forCall (fun _ _ => 0) ⟨#[], args0, []⟩).memory :=
  laidMet_of_run' 8 (by kernel_rfl) (by kernel_rfl)
theorem reads (os : Os) {H : Type} (enc : TypeId × Value → H) : ∃ places, DataW.whole enc Tryd.prog ((laidWorld os).forCall (fun _ _ => 0) ⟨#[], args0, []⟩).memory Tryd.f5.params.toList Rows.rankOrdersSpec.vars false args0.toList 8 = some ([.nil], [], places) :=
  ⟨[], by kernel_rfl⟩
set_option maxRecDepth 100000 in
theorem lifted (os : Os) (started : os.Started) (H : Type) (enc : TypeId × Value → H) (F : Stop.Interp) :
    ReturnsInHanded {} Tryd.checked os 5 .any ((OpenSpec.ofChange Rows.rankOrdersSpec).preRow enc Tryd.prog Tryd.f5 Rows.rankOrdersRow.domain false Rows.rankOrdersRow.laid) (((OpenSpec.ofChange Rows.rankOrdersSpec).at F).post enc Tryd.prog Tryd.f5 false true false false) := by
  obtain ⟨places, hx⟩ := reads os enc
  refine returnsInHanded_of_row (C := Tryd.checked) (s := OpenSpec.ofChange Rows.rankOrdersSpec) own started (by kernel_rfl) Tryd.func5
    (witness_row_at (enc := enc) (C := Tryd.checked) false (laidWorld os) args0 rfl (by kernel_rfl) (by kernel_rfl) (by kernel_rfl)
      (OpenSpec.preRow_of_cond 8 hx (by kernel_rfl) (fun k hk => by cases hk) (by kernel_rfl) (laid_met os))) ?_
  intro W base args ds gs before hval hW _ _ _ hL _ _
  exact contract H enc W base args ds gs before hval hW
theorem saidO : Rows.RankOrdersSaid :=
  OpenClaim.holds_of_cond 5 Tryd.f5 rfl rfl rfl rfl rfl rfl rfl ⟨rfl, rfl, rfl, rfl, rfl⟩ rfl rfl rfl rfl rfl (by kernel_rfl) Tryd.func5 (by kernel_rfl)
    (of_decide_eq_true (by kernel_rfl)) (by unfold Func.isWrapper; first | (rw [if_pos (by decide +kernel)]; kernel_rfl) | (rw [if_neg (by decide +kernel)]; exact ⟨rfl, rfl⟩))
    (fun os started H enc _ F => by rw [OpenClaim.pre_eq_preRow]; exact lifted os started H enc F)
theorem plainO (f : FuncId) (fn : Func) (hf : Tryd.pinned.checked.prog.funcNamed "roundelay/roundelaylaw38.RankOrders" = some f) (hfn : Tryd.pinned.checked.prog.funcs[f]? = some fn) :
    false = Tryd.pinned.checked.prog.looks [] ∧ ∀ (j : Nat) t, fn.params[j]? = some t → Tryd.pinned.checked.prog.wantsStandIn t = false := by
  obtain rfl : f = 5 := Option.some.inj ((show Tryd.prog.funcNamed "roundelay/roundelaylaw38.RankOrders" = some 5 by kernel_rfl).symm.trans hf) |>.symm
  obtain rfl : fn = Tryd.f5 := (Option.some.inj (Tryd.func5.symm.trans hfn)).symm
  refine ⟨by kernel_rfl, fun j t ht => ?_⟩
  rw [Tryd.params5] at ht
  obtain rfl : t = 22 := by simpa using Array.mem_of_getElem? ht
  exact (show Tryd.prog.wantsStandIn 22 = false by kernel_rfl)
end Rk
/-- THE CARD. -/
theorem cardO : Rows.RankOrdersCardSaid :=
  Claim7.holds_tied_plain_at .later [] _ _ _ _ Rk.saidO (fun _ h => by cases h) (by kernel_rfl) (fun _ h => by cases h) rankOrders_row_tie rfl ⟨rfl, rfl⟩ (by kernel_rfl) rfl Rk.plainO (by kernel_rfl)

end Go.Proofs.YtglghnfbkiondaaDoor
end
