/-
  Ranks (10): the reference's Rising, of any numbers; its Class, of any number.
-/
import Derived.Test.YtglghnfbkiondaaDoorRk9
namespace Go.Proofs.YtglghnfbkiondaaDoor
open Go.Vm Go.Vm.Rk
namespace Rk
open Ri in
theorem rising21 {w : World} {b o q : Nat} {L : List Int} (h : IntsAt w b o L) (h1 : 1 ≤ L.length) (h3 : L.length ≤ 300) : Calls Tryd.prog 21 #[.slice (some ⟨b, o, none⟩) L.length q] w fun e w' => ∃ v, e = .returned v ∧ RowOut w w' v 3 [.i64] (sortL L) L.length := by
  have hr := startR (q := q) (G := GR) (F := FR) h (GR_at ..)
  have outer := loop_goesL (P := Tryd.prog) (β := ⟨w, [], GR⟩) (f := 21) (R := fun v w' => RowOut w w' v 3 [.i64] (sortL L) L.length) (Rs := eR) (L := []) (b := b0) (k := k0) (n := 4000) (g := gM) noCount noExt (noSp0 _) follows TO (J0 L) (μ0 L) fun z ρ hJ _ hcs hG ih => by
    -- the inner loop, of this round
    have inner : ∀ i, i < L.length → (∀ ρ', JR L (i + 1) ρ' → ∀ a w, SRel ⟨_, [], GR⟩ ρ' ((TO true).st (.inLoop b0 :: k0)) a w → Goes Tryd.prog 21 (fun v w' => RowOut _ w' v 3 [.i64] (sortL L) L.length) (.inLoop b0 :: k0) a w) →
        ∀ y ρ', J1 L i y ρ' → ∀ todo a w, todo = .inLoop b1 :: k1 ∨ todo = .code (.loop b1) :: k1 → SRel ⟨_, [], GR⟩ ρ' ((TI y).st todo) a w → Goes Tryd.prog 21 (fun v w' => RowOut _ w' v 3 [.i64] (sortL L) L.length) todo a w := fun i hi hout => by
      refine loop_goesL (P := Tryd.prog) (β := ⟨w, [], GR⟩) (f := 21) (R := fun v w' => RowOut w w' v 3 [.i64] (sortL L) L.length) (Rs := eR) (L := []) (b := b1) (k := k1) (n := 4000) (g := gM) noCount noExt (noSp0 _) follows TI (J1 L i) ν1 fun y ρ hJ hh hcs hG ihk => ?_
      cases y with
      | false =>
        obtain ⟨jn, j16, rfl⟩ := hJ
        refine ⟨true, [TO true], [] ++ (TI false).cs, _, hcs, r_3, Go.Vm.one (nextR rfl (fun l hl => by cases hl) fun ρ' hle hG' => ?_)⟩
        have jn' := jn.of_le hle
        have e16 : ρ'.I 16 = L.getD 0 0 := by rw [hle.i]; exact j16
        have jr : JR L (0 + 1) (s3.app ρ') := by
          refine ⟨⟨⟨jn'.i5, jn'.i6, h1, h3⟩, rfl, h1⟩, ?_, rfl, Nat.le_refl _⟩
          refine sbI (t := .un 3 (.lit 0) (.var 16)) rfl ((unD (litD 0) (varD e16)).trans ?_)
          rw [take_snoc hi, List.take_zero, List.nil_append, sortL_one]; rfl
        exact ⟨hG', jr.cs, fun a w r => hout _ jr a w r⟩
      | true =>
        obtain ⟨a, ja⟩ := hJ
        have hia := ja.le
        have hdone : (a = i ∨ a < i ∧ L.getD i 0 < (sortL (L.take i)).getD a 0) → ∀ ρ', ρ.Le ρ' → JR L (i + 1) (s5.app ρ') := fun hhi ρ' hle => by
          have ja' := ja.of_le hle
          refine ⟨⟨⟨ja'.r.j.n.i5, ja'.r.j.n.i6, h1, h3⟩, sbI (t := upI 9) rfl (upD (varD ja'.r.j.i9) (by omega)), hi⟩, ?_, sbI (t := lenT) rfl (lenT_den ja'), by omega⟩
          refine (sbI (t := codeT) rfl (codeT_den ja')).trans ?_
          rw [ins_sort hi ja.lo hhi]
        by_cases hlt : a < i
        · by_cases hl : (sortL (L.take i)).getD a 0 ≤ L.getD i 0
          · refine ⟨true, [TI true], fJ true ++ (TI true).cs, _, CRel_app.2 ⟨c1 (lssT (varD ja.i15) (varD ja.r.i14) (by omega)) (c1 (leqT (eJ_den ja) (varD ja.i16) hl) c0), hcs⟩, r_4, Go.Vm.one (nextR rfl (fun l hl => by cases hl) fun ρ' hle hG' => ?_)⟩
            have ja' := ja.of_le hle
            have jn : JA L i (a + 1) (s4.app ρ') := ⟨⟨⟨⟨ja'.r.j.n.i5, ja'.r.j.n.i6, h1, h3⟩, ja'.r.j.i9, ja'.r.j.le⟩, ja'.r.i11, ja'.r.i14, ja'.r.i1⟩, sbI (t := upI 15) rfl (upD (varD ja'.i15) (by omega)), ja'.i16, hlt, fun j hj => by
              rcases Nat.lt_or_ge j a with h5 | h5
              · exact ja.lo j h5
              · obtain rfl : j = a := by omega
                exact hl⟩
            exact ⟨hG', jn.cs, fun a' w r => ihk true _ (by show (400 - (s4.app ρ').I 15).toNat < (400 - ρ.I 15).toNat; rw [jn.i15, ja.i15]; omega) ⟨_, jn⟩ _ a' w (.inl rfl) r⟩
          · refine ⟨true, [TO true], (fJ false ++ fX) ++ (TI true).cs, _, CRel_app.2 ⟨CRel_app.2 ⟨c1 (lssT (varD ja.i15) (varD ja.r.i14) (by omega)) (c1 (leqF (eJ_den ja) (varD ja.i16) (by omega)) c0), fX_ok ja hh⟩, hcs⟩, r_5, Go.Vm.one (nextR rfl (fun l hl => by cases hl) fun ρ' hle hG' => ?_)⟩
            have jr := hdone (.inr ⟨hlt, by omega⟩) ρ' hle
            exact ⟨hG', jr.cs, fun a w r => hout _ jr a w r⟩
        · refine ⟨true, [TO true], (fZ ++ fX) ++ (TI true).cs, _, CRel_app.2 ⟨CRel_app.2 ⟨c1 (lssF (varD ja.i15) (varD ja.r.i14) (by omega)) c0, fX_ok ja hh⟩, hcs⟩, r_6, Go.Vm.one (nextR rfl (fun l hl => by cases hl) fun ρ' hle hG' => ?_)⟩
          have jr := hdone (.inl (by omega)) ρ' hle
          exact ⟨hG', jr.cs, fun a w r => hout _ jr a w r⟩
    cases z with
    | false =>
      have jn : JN L ρ := hJ
      refine ⟨true, [TI false], f0 ++ (TO false).cs, _, CRel_app.2 ⟨c1 (lssT (litD 0) (varD jn.i6) (by omega)) c0, hcs⟩, r_1, Go.Vm.one (nextR rfl (fun l hl => by cases hl) fun ρ' hle hG' => ?_)⟩
      have jn' := jn.of_le hle
      have jn2 : JN L (s1.app ρ') := ⟨jn'.i5, jn'.i6, h1, h3⟩
      exact ⟨hG', jn2.cs, fun a w r => inner 0 (by omega) (fun ρ'' jr a w r => ih true ρ'' (by show ((L.length : Int) - ρ''.I 9).toNat < L.length + 1; rw [jr.j.i9]; omega) ⟨1, jr⟩ _ a w (.inl rfl) r) false _ ⟨jn2, sbI rfl (el_den (t := .lit 0) (i := 0) (varD jn'.i5) rfl), rfl⟩ _ a w (.inr rfl) r⟩
    | true =>
      obtain ⟨i, jr⟩ := hJ
      have hi := jr.j.le
      by_cases hlt : i < L.length
      · refine ⟨true, [TI true], fI true ++ (TO true).cs, _, CRel_app.2 ⟨jr.j.lt (decide_eq_true hlt), hcs⟩, r_2, Go.Vm.one (nextR rfl (fun l hl => by cases hl) fun ρ' hle hG' => ?_)⟩
        have jr' := jr.of_le hle
        have ja : JA L i 0 (s2.app ρ') := ⟨⟨⟨⟨jr'.j.n.i5, jr'.j.n.i6, h1, h3⟩, jr'.j.i9, hi⟩, jr'.i11, jr'.i14, jr'.i1⟩, rfl, sbI rfl (el_den (t := at0) (varD jr'.j.n.i5) (varD jr'.j.i9)), Nat.zero_le _, fun j hj => by omega⟩
        exact ⟨hG', ja.cs, fun a w r => inner i hlt (fun ρ'' jr3 a w r => ih true ρ'' (by show ((L.length : Int) - ρ''.I 9).toNat < ((L.length : Int) - ρ.I 9).toNat; rw [jr3.j.i9, jr.j.i9]; omega) ⟨i + 1, jr3⟩ _ a w (.inl rfl) r) true _ ⟨0, ja⟩ _ a w (.inr rfl) r⟩
      · obtain rfl : i = L.length := by omega
        refine ⟨true, [], fI false ++ (TO true).cs, _, CRel_app.2 ⟨jr.j.lt (decide_eq_false hlt), hcs⟩, r_7, Go.Vm.one (doneR (T := ⟨[(0, vR)], 1, [(13, rC)], 20, [], 0⟩) rfl (fun l hl => by cases hl) fun ρ' hle hG' => ⟨hG', c0, fun v w' r => ?_⟩)⟩
        obtain ⟨z, hz, he⟩ := r.t 0 _ rfl
        obtain rfl : v = z := Option.some.inj he
        have jr' := jr.of_le hle
        have e11 := jr'.i11
        rw [List.take_length] at e11
        exact row_out (l := 13) (j := 12) (nT := .var 14) (c := .var 11) rfl r.h rfl hz (varD (sbI (t := .var 14) rfl (varD jr'.i14))) (varD (sbI (t := .var 11) rfl (varD e11)))
  refine (calls_sumsE (β := ⟨w, [], GR⟩) (R := fun v w' => RowOut w w' v 3 [.i64] (sortL L) L.length) (g := gM) (L := []) (Rs := eR) (Ts := [TO false]) (pl := true) noCount noExt (noSp0 _) follows Tryd.func21 rfl r_in (denL1 (den_slice_of rfl rfl rfl rfl)) hr (JN.cs ⟨rfl, rfl, h1, h3⟩) (Go.Vm.one (nextR rfl (fun l hl => by cases hl) fun ρ' hle hG' => ?_)))
  have jn : JN L (s0.app ρ') := ⟨by show ρ'.I 5 = _; rw [hle.i]; rfl, by show ρ'.I 6 = _; rw [hle.i]; rfl, h1, h3⟩
  exact ⟨hG', jn.cs, fun a w r => outer false _ jn _ a w (.inr rfl) r⟩
-- CLASS
def TCl : Tpl := ⟨[(0, iV 16), (3, iV 15)], 11, [], 10, [(.cmp .geq (.var 15) (.lit 0), true), (.cmp .leq (.var 15) (.lit 64), true)], 3⟩
noncomputable def b11 : Code := ((loopsOf (Tryd.f11.body.getD .ret) []).getD 0 (.ret, [])).1
noncomputable def k11 : List Item := ((loopsOf (Tryd.f11.body.getD .ret) []).getD 0 (.ret, [])).2
def fG (b : Bool) : Cs := [(.cmp .gtr (.var 16) (.lit 1), b)]
def sgC0 : Sub := ⟨[(16, .var 16), (15, .lit 0)], [], [], [], []⟩
def sgC1 : Sub := ⟨[(16, .bin .quo .i64 (.var 16) (.lit 2)), (15, upI 15)], [], [], [], []⟩
theorem l_in : (run Tryd.prog [] (spL []) 4000 true 11 (entry Tryd.f11 (Tryd.f11.body.getD .ret) [iV 16] .leaf 10 [])).map (·.filterMap (sumD gM [TCl])) = some [.next 0 (.code (.loop b11) :: k11) [] sgC0] := by kernel_rfl
theorem l_1 : (run Tryd.prog [] (spL []) 4000 true 11 ((⟨TCl.tm, TCl.nt, TCl.H, TCl.nl, fG true ++ TCl.cs, TCl.dep⟩ : Tpl).st (.code b11 :: .inLoop b11 :: k11))).map (·.filterMap (sumD gM [TCl])) = some [.next 0 (.inLoop b11 :: k11) [] sgC1] := by kernel_rfl
theorem l_e : (run Tryd.prog [] (spL []) 4000 true 11 ((⟨TCl.tm, TCl.nt, TCl.H, TCl.nl, fG false ++ TCl.cs, TCl.dep⟩ : Tpl).st (.code b11 :: .inLoop b11 :: k11))).map (·.filterMap (sumD gM [TCl])) = some [.ret (.int .i64 (.var 15)) []] := by kernel_rfl
theorem bitAux (f x : Nat) : Lib.bitLenAux (f + 1) x = if x = 0 then 0 else 1 + Lib.bitLenAux f (x / 2) := rfl
theorem bitAux_fuel : ∀ (f x : Nat), x < 2 ^ f → Lib.bitLenAux (f + 1) x = Lib.bitLenAux f x
  | 0, x, h => by
    obtain rfl : x = 0 := by simpa using h
    rfl
  | f + 1, x, h => by
    rw [bitAux (f + 1) x, bitAux f x]
    by_cases h0 : x = 0
    · rw [if_pos h0, if_pos h0]
    · rw [if_neg h0, if_neg h0, bitAux_fuel f (x / 2) (by rw [Nat.pow_succ] at h; omega)]
theorem clsOf_half {n : Int} (h : 1 < n) (hn : n < 9223372036854775808) : clsOf n = clsOf ((n.toNat / 2 : Nat) : Int) + 1 := by
  have e1 : (max n 1).toNat = n.toNat := by congr 1; omega
  have e2 : (max ((n.toNat / 2 : Nat) : Int) 1).toNat = n.toNat / 2 := by omega
  unfold clsOf
  rw [e1, e2]
  have hp := bitLen_pos (x := n.toNat / 2) (by omega)
  unfold Lib.bitLen at hp ⊢
  rw [← bitAux_fuel 64 n.toNat (by have : (2 : Nat) ^ 64 = 18446744073709551616 := by decide
                                   omega), bitAux, if_neg (by omega)]
  omega
structure JCs (n0 : Int) (c : Nat) (ρ : Env) : Prop where
  i15 : ρ.I 15 = (c : Int)
  ran : -9223372036854775808 ≤ ρ.I 16 ∧ ρ.I 16 < 9223372036854775808
  cls : clsOf n0 = clsOf (ρ.I 16) + c
theorem JCs.of_le {n0 : Int} {c : Nat} {ρ ρ' : Env} (h : JCs n0 c ρ) (g : ρ.Le ρ') : JCs n0 c ρ' := ⟨by rw [g.i]; exact h.i15, by rw [g.i]; exact h.ran, by rw [g.i]; exact h.cls⟩
theorem JCs.cs {n0 : Int} {c : Nat} {ρ : Env} (h : JCs n0 c ρ) : CRel ρ TCl.cs := by
  have := h.cls
  have := clsOf_le n0
  exact c1 (geqT (varD h.i15) (litD 0) (by omega)) (c1 (leqT (varD h.i15) (litD 64) (by omega)) c0)
theorem clsOf_one {n : Int} (h : n ≤ 1) : clsOf n = 0 := by
  have e1 : (max n 1).toNat = 1 := by omega
  unfold clsOf
  rw [e1]; rfl
theorem class11 (w : World) {n : Int} (h0 : -9223372036854775808 ≤ n) (h1 : n < 9223372036854775808) : Calls Tryd.prog 11 #[.int .i64 n] w fun e w' => e = .returned (.int .i64 (clsOf n : Int)) ∧ Framed w w' := by
  have loop := loop_goesD (P := Tryd.prog) (β := ⟨w, [], GR⟩) (f := 11) (Q := fun v => v = .int .i64 (clsOf n : Int)) (Ts := [TCl]) (T := TCl) (b := b11) (k := k11) (n := 4000) (g := gM) (pl := true) noCount noExt (noSp0 _) follows rfl (fun ρ => ∃ c, JCs n c ρ) (fun ρ => (ρ.I 16).toNat) fun ρ ⟨c, j⟩ _ hcs hG ih => by
    have e0 : (IT.var 16).den ρ = some (ρ.I 16) := rfl
    by_cases hlt : 1 < ρ.I 16
    · refine ⟨fG true ++ TCl.cs, _, CRel_app.2 ⟨c1 (gtrT e0 (litD 1) hlt) c0, hcs⟩, l_1, Go.Vm.one (nextS rfl fun ρ' hle hG' => ?_)⟩
      have j' := j.of_le hle
      have hlt' : 1 < ρ'.I 16 := by rw [hle.i]; exact hlt
      have hc := j'.cls
      have hb := clsOf_le n
      have hh := clsOf_half hlt' j'.ran.2
      have eq : (IT.bin .quo .i64 (.var 16) (.lit 2)).den ρ' = some (((ρ'.I 16).toNat / 2 : Nat) : Int) := by
        have e : (IT.var 16).den ρ' = some (ρ'.I 16) := rfl
        rw [binD e (litD _)]
        unfold intBin
        simp only
        rw [if_neg (by omega)]
        obtain ⟨m, hm⟩ : ∃ m : Nat, ρ'.I 16 = (m : Int) := ⟨(ρ'.I 16).toNat, by omega⟩
        have hr := j'.ran
        rw [hm] at hr ⊢
        have e : (m : Int).tdiv 2 = ((m / 2 : Nat) : Int) := rfl
        rw [e, Int.toNat_natCast, wrapI (by omega) (by omega)]
      have e16 : (sgC1.app ρ').I 16 = (((ρ'.I 16).toNat / 2 : Nat) : Int) := sbI (t := .bin .quo .i64 (.var 16) (.lit 2)) rfl eq
      have jn : JCs n (c + 1) (sgC1.app ρ') := ⟨sbI (t := upI 15) rfl (upD (varD j'.i15) (by omega)), by rw [e16]; have := j'.ran; omega, by rw [e16, hc, hh]; omega⟩
      exact ⟨hG', jn.cs, fun a w' r => ih _ (by rw [e16, ← hle.i]; omega) ⟨_, jn⟩ _ a w' (.inl rfl) r⟩
    · refine ⟨fG false ++ TCl.cs, _, CRel_app.2 ⟨c1 (gtrF e0 (litD 1) (by omega)) c0, hcs⟩, l_e, Go.Vm.one (retS (z := .int .i64 (clsOf n : Int)) (fun ρ' hle => ?_) rfl)⟩
      have j' := j.of_le hle
      have hc := j'.cls
      rw [clsOf_one (n := ρ'.I 16) (by rw [hle.i]; omega), Nat.zero_add] at hc
      have e : (IT.var 15).den ρ' = some ((clsOf n : Nat) : Int) := by rw [hc]; exact varD j'.i15
      simp only [AVal.den, e, Option.map_some]
  have hr : HRel ⟨w, [], GR⟩ ⟨fun i => if i = 16 then n else 0, fun _ => false, fun _ => default, fun _ => undef, fun _ => none, FR⟩ .leaf 10 w := HRel.ro [] (fun p hp => by cases hp) (fun i _ => rfl) (GR_at ..)
  refine (calls_sumsD (β := ⟨w, [], GR⟩) (Q := fun v => v = .int .i64 (clsOf n : Int)) (g := gM) (Ts := [TCl]) (pl := true) noCount noExt (noSp0 _) follows rfl Tryd.func11 rfl l_in (xs := [.int .i64 n]) (denL1 rfl) hr c0 (Go.Vm.one (nextS rfl fun ρ' hle hG' => ?_))).mono fun e w' ⟨v, he, hv, hf⟩ => ⟨by rw [he, hv], hf⟩
  have e16 : ρ'.I 16 = n := by rw [hle.i]; rfl
  have jn : JCs n 0 (sgC0.app ρ') := ⟨rfl, by show -9223372036854775808 ≤ ρ'.I 16 ∧ ρ'.I 16 < 9223372036854775808; rw [e16]; exact ⟨h0, h1⟩, by show clsOf n = clsOf (ρ'.I 16) + 0; rw [e16]; rfl⟩
  exact ⟨hG', jn.cs, fun a w' r => loop _ ⟨_, jn⟩ _ a w' (.inr rfl) r⟩
end Rk
end Go.Proofs.YtglghnfbkiondaaDoor
