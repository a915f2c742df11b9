/-
  Pace (3): two rows told alike are the same to 'words'; what must be answered ahead of everything else.
-/
import Derived.Test.YtighjgmgpphohaaPc2
import Derived.Test.YtighjgmgpphohaaVm28
namespace Go.Proofs.Ytighjgmgpphohaa
open Go.Vm Go.RowKit Go.Lib

abbrev iV (i : Nat) : AVal := .int .i64 (.var i)
theorem noSp (β : Base) : CallOk Try.prog β (spL []) := spL_ok fun _ hp => by cases hp
theorem run6 : (run Try.prog [] (spL []) 40000 false 6 (entry Try.f6 (Try.f6.body.getD .ret) [] .leaf 0 [])).map (·.all (leafB (.lit true))) = some true := by kernel_rfl
theorem first6 (w : World) : Calls Try.prog 6 #[] w (fun e w' => e = .returned (.bool true) ∧ Framed w w') :=
  calls_true (β := .plain w) (ρ := envOf [] [] F0) noExt (noSp _) rfl Try.func6 rfl run6 (xs := []) rfl (HRel.start w _ fun _ => rfl) c0
-- WORDS
def gP : Gen := ⟨30, 0, 1, 0⟩
def wa : AVal := .slice 0 (.var 30) (.var 20) (.var 31)
def wb : AVal := .slice 1 (.var 32) (.var 20) (.var 33)
def wR (off : Nat) : ABlk := .arr (.code [.u64] (.var 2)) [.u64] 32 (.var 20) (.var off) none
def wL : List (Nat × ABlk) := [(0, wR 30), (1, wR 32)]
def wH : List (Nat × HB) := wL.map fun p => (p.1, ⟨p.2, false⟩)
def csW : Cs := [(.cmp .geq (.var 0) (.lit 0), true), (.cmp .leq (.var 0) (.var 20), true), (.cmp .leq (.var 20) (.lit 1000000), true)]
def W0 : Tpl := ⟨[(0, wa), (1, wb), (12, iV 20), (13, iV 0)], 26, wH, 2, csW, 3⟩
def wi (b : Bool) : Cs := [(.cmp .lss (.var 0) (.var 20), b)]
def m6 : Cs := [(.cmp .leq (.var 20) (.lit 1000000), true)]
def upT (k : Nat) : IT := .bin .add .i64 (.var k) (.lit 1)
noncomputable def wb0 : Code := ((loopsOf (Try.f11.body.getD .ret) []).getD 0 (.ret, [])).1
noncomputable def wk0 : List Item := ((loopsOf (Try.f11.body.getD .ret) []).getD 0 (.ret, [])).2
noncomputable def RunW (c : Cs) (l : LS) : Prop := (run Try.prog [] (spL []) 4000 true 11 ((⟨W0.tm, W0.nt, W0.H, W0.nl, c ++ W0.cs, W0.dep⟩ : Tpl).st (.code wb0 :: .inLoop wb0 :: wk0))).map (·.filterMap (sumD gP [W0])) = some [l]
def wS0 : Sub := ⟨[(20, .var 20), (0, .lit 0), (2, .var 2)], [], [], [], [(0, 0), (1, 1)]⟩
def wS1 : Sub := ⟨[(20, .var 20), (0, upT 0), (2, .var 2)], [], [], [], [(0, 0), (1, 1)]⟩
theorem wE : (run Try.prog [] (spL []) 4000 true 11 (entry Try.f11 (Try.f11.body.getD .ret) [wa, wb] (ofP wH) 2 m6)).map (·.filterMap (sumD gP [W0])) = some [.next 0 (.code (.loop wb0) :: wk0) [] wS0] := by kernel_rfl
theorem wX : RunW (wi true) (.next 0 (.inLoop wb0 :: wk0) [] wS1) := by unfold RunW; kernel_rfl
theorem wN : RunW (wi false) (.ret (.bool (.lit true)) []) := by unfold RunW; kernel_rfl
abbrev QT : Value → Prop := fun x => x = .bool true
abbrev RT (w0 : World) : Value → World → Prop := fun v w' => QT v ∧ Framed w0 w'
structure Jw (n i : Nat) (ρ : Env) : Prop where
  i0 : ρ.I 0 = (i : Int)
  n0 : ρ.I 20 = (n : Int)
  le : i ≤ n
  nm : n ≤ 1000000
theorem Jw.of_le {n i : Nat} {ρ ρ' : Env} (h : Jw n i ρ) (g : ρ.Le ρ') : Jw n i ρ' := ⟨by rw [g.i]; exact h.i0, by rw [g.i]; exact h.n0, h.le, h.nm⟩
theorem Jw.cs {n i : Nat} {ρ : Env} (h : Jw n i ρ) : CRel ρ csW := by
  have := h.le; have := h.nm
  exact c1 (geqT (varD h.i0) (litD 0) (by omega)) (c1 (leqT (varD h.i0) (varD h.n0) (by omega)) (c1 (leqT (varD h.n0) (litD 1000000) (by omega)) c0))
theorem loopW (w0 : World) (n : Nat) : ∀ ρ, (∃ i, Jw n i ρ) → ∀ todo a w, todo = .inLoop wb0 :: wk0 ∨ todo = .code (.loop wb0) :: wk0 → SRel (.plain w0) ρ (W0.st todo) a w → Goes Try.prog 11 (RT w0) todo a w := by
  refine loop_goesD (n := 4000) (g := gP) (pl := true) (Ts := [W0]) (Q := QT) (β := .plain w0) noCount noExt (noSp _) follows rfl (fun ρ => ∃ i, Jw n i ρ) (fun ρ => ((n : Int) - ρ.I 0).toNat) (fun ρ hJ hH hcs hG ih => ?_)
  obtain ⟨i, h⟩ := hJ
  have hle := h.le
  have hnm := h.nm
  by_cases hi : i < n
  · refine ⟨_, _, CRel_app.2 ⟨c1 (lssT (varD h.i0) (varD h.n0) (by omega)) c0, hcs⟩, wX, one (nextS rfl fun ρ' hle hG' => ?_)⟩
    have h' := h.of_le hle
    have j : Jw n (i + 1) (wS1.app ρ') := ⟨sbI rfl (upD (varD h'.i0) (by omega)), h'.n0, by omega, hnm⟩
    refine ⟨hG', j.cs, fun a w r => ih _ ?_ ⟨i + 1, j⟩ _ a w (.inl rfl) r⟩
    rw [j.i0, h.i0]; omega
  · exact ⟨_, _, CRel_app.2 ⟨c1 (lssF (varD h.i0) (varD h.n0) (by omega)) c0, hcs⟩, wN, one (retS (z := .bool true) (fun ρ' _ => rfl) rfl)⟩
theorem words11 (w : World) (b o m c b' o' c' : Nat) (y : Int) (hm : m ≤ 1000000) (hl : (decL y).length = m) (h : ∃ c0 fr el', w.heap[b]? = some (.cells c0 el' fr) ∧ o ≤ c0.size ∧ rowOf [.u64] (decL y) <+: c0.toList.drop o) (h' : ∃ c0 fr el', w.heap[b']? = some (.cells c0 el' fr) ∧ o' ≤ c0.size ∧ rowOf [.u64] (decL y) <+: c0.toList.drop o') :
    Calls Try.prog 11 #[.slice (some ⟨b, o, none⟩) m c, .slice (some ⟨b', o', none⟩) m c'] w (fun e w' => e = .returned (.bool true) ∧ Framed w w') := by
  obtain ⟨ρ, hρ⟩ : ∃ ρ : Env, ρ = ⟨fun i => if i = 2 then y else if i = 20 then m else if i = 30 then o else if i = 31 then c else if i = 32 then o' else c', fun _ => false, fun _ => default, fun _ => undef, fun i => if i = 0 then some b else if i = 1 then some b' else none, F0⟩ := ⟨_, rfl⟩
  have e20 : ρ.I 20 = (m : Int) := by rw [hρ]; rfl
  have hN : ∀ i, 2 ≤ i → ρ.N i = none := fun i hi => by rw [hρ]; show (if i = 0 then some b else if i = 1 then some b' else none) = none; rw [if_neg (by omega), if_neg (by omega)]
  have hr : HRel (.plain w) ρ (ofP wH) 2 w := by
    refine HRel.ro wL (fun p hp => ?_) hN trivial
    have rel : ∀ {bb oo : Nat} {off : Nat} (_ : ρ.I off = (oo : Int)), (∃ c0 fr el', w.heap[bb]? = some (.cells c0 el' fr) ∧ oo ≤ c0.size ∧ rowOf [.u64] (decL y) <+: c0.toList.drop oo) → ∃ ob, w.heap[bb]? = some ob ∧ (wR off).rel ρ false ob := fun {bb oo off} ho ⟨c0, fr, el', h1, h2, h3⟩ =>
      ⟨_, h1, _, c0, fr, el', m, oo, rfl, (fun e => by cases e), by rw [hρ]; rfl, varD ho, ⟨h2, h3⟩, varD e20, rowOf_typed (by rw [hl]; simp), trivial, (fun e => by cases e)⟩
    simp only [wL, List.mem_cons, List.not_mem_nil, or_false] at hp
    rcases hp with rfl | rfl
    · obtain ⟨ob, h1, h2⟩ := rel (off := 30) (by rw [hρ]; rfl) h
      exact ⟨b, ob, by rw [hρ]; rfl, h1, h2⟩
    · obtain ⟨ob, h1, h2⟩ := rel (off := 32) (by rw [hρ]; rfl) h'
      exact ⟨b', ob, by rw [hρ]; rfl, h1, h2⟩
  have hx : AVal.denL ρ [wa, wb] = some [.slice (some ⟨b, o, none⟩) m c, .slice (some ⟨b', o', none⟩) m c'] :=
    denL2 (den_slice_of (by rw [hρ]; rfl) (by rw [hρ]; rfl) (by rw [hρ]; rfl) (by rw [hρ]; rfl)) (den_slice_of (by rw [hρ]; rfl) (by rw [hρ]; rfl) (by rw [hρ]; rfl) (by rw [hρ]; rfl))
  refine (calls_sumsD (β := .plain w) (Q := QT) (Ts := [W0]) (g := gP) (pl := true) noCount noExt (noSp _) follows rfl Try.func11 rfl wE hx hr (c1 (leqT (varD e20) (litD 1000000) (by omega)) c0) (one (nextS (T := W0) rfl fun ρ' hle hG' => ?_))).mono fun e w' ⟨v, he, hv, hf⟩ => ⟨by rw [he, hv], hf⟩
  have j : Jw m 0 (wS0.app ρ') := ⟨sbI rfl (litD 0), sbI rfl (varD (by rw [hle.i]; exact e20)), Nat.zero_le _, hm⟩
  exact ⟨hG', j.cs, fun a w' r => loopW w m _ ⟨0, j⟩ _ a w' (.inr rfl) r⟩
theorem run11n : (run Try.prog [] (spL []) 4000 false 11 (entry Try.f11 (Try.f11.body.getD .ret) [.sliceNil, .sliceNil] .leaf 0 [])).map (·.all (leafB (.lit true))) = some true := by kernel_rfl
theorem words11n (w : World) : Calls Try.prog 11 #[.slice none 0 0, .slice none 0 0] w (fun e w' => e = .returned (.bool true) ∧ Framed w w') :=
  calls_true (β := .plain w) (ρ := envOf [] [] F0) noExt (noSp _) rfl Try.func11 rfl run11n (xs := [.slice none 0 0, .slice none 0 0]) rfl (HRel.start w _ fun _ => rfl) c0
theorem spWords_ok {β : Base} : SpGOk Try.prog β 11 (spWords [.u64]) := by
  intro args H nl cs ls ρ w xs hr hx hh hc
  unfold spWords at hr
  split at hr
  · cases hr; cases hx
    exact spV_ok (words11n w) rfl hh hc
  · rename_i l off n cp l' off' n' cp'
    split at hr
    rotate_left
    · cases hr
    rename_i t k1 el m o cq rw t' k2 el' m' o' cq' rw' hg hg'
    split at hr
    rotate_left
    · cases hr
    rename_i c c' hcT hcT'
    cases hb : (decide ([IntKind.u64] = k1) && decide ([IntKind.u64] = k2) && IT.beq n m && IT.beq n' m' && IT.beq n n' && IT.beq off o && IT.beq off' o' && IT.beq c c' && sureC cs (.cmp .geq n (.lit 1)) && sureC cs (.cmp .leq n (.lit 1000000))) with
    | false => rw [hb] at hr; cases hr
    | true =>
      rw [hb] at hr; cases hr
      simp only [Bool.and_eq_true, decide_eq_true_eq] at hb
      obtain ⟨⟨⟨⟨⟨⟨⟨⟨⟨rfl, rfl⟩, h1⟩, h2⟩, h3⟩, h4⟩, h5⟩, h6⟩, h7⟩, h8⟩ := hb
      obtain rfl := IT.beq_eq h1
      obtain rfl := IT.beq_eq h2
      obtain rfl := IT.beq_eq h3
      obtain rfl := IT.beq_eq h4
      obtain rfl := IT.beq_eq h5
      obtain rfl := IT.beq_eq h6
      simp only [AVal.denL] at hx
      cases hxa : (AVal.slice l off n cp).den ρ with
      | none => rw [hxa] at hx; cases hx
      | some xa =>
        cases hxb : (AVal.slice l' off' n cp').den ρ with
        | none => rw [hxa, hxb] at hx; cases hx
        | some xb =>
          rw [hxa, hxb] at hx; cases hx
          obtain ⟨b, o, m, cap, y, rfl, hn, hy, hl, hrow, _⟩ := whole_row hh hg hcT hxa
          obtain ⟨b', o', m', cap', y', rfl, hn', hy', hl', hrow', _⟩ := whole_row hh hg' hcT' hxb
          obtain rfl : m = m' := by have := hn.symm.trans hn'; exact Int.ofNat.inj (Option.some.inj this)
          obtain rfl : y = y' := Option.some.inj (hy.symm.trans hy')
          have hm : m ≤ 1000000 := by
            by_cases hs : sure (.cmp .leq n (.lit 1000000)) = true
            · unfold sure at hs
              split at hs
              · rename_i heq
                cases heq
                split at hs
                · rename_i k hk
                  have := szB_ok ρ hk
                  simp only [IT.den, Option.some.injEq] at hn
                  simp only [iLt_eq, Bool.not_eq_true', decide_eq_false_iff_not, Int.ofNat_eq_natCast] at hs
                  omega
                · cases hs
              · cases hs
            · have := sureC_ok h8 (by simpa using hs) hc hn
              simp only [intCmp, Option.some.injEq, decide_eq_true_eq] at this
              omega
          exact spV_ok (words11 w b o m cap b' o' cap' y hm (by simpa using hl) hrow hrow') rfl hh hc
  · cases hr
end Go.Proofs.Ytighjgmgpphohaa
