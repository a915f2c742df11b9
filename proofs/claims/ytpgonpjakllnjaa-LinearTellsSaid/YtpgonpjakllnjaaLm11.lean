/-
  LinearModel (10): New, Apply and Same, as the machine takes them.
-/
import Derived.Test.YtpgonpjakllnjaaEq1
import Derived.Test.YtpgonpjakllnjaaVm30
section
namespace Go.Proofs.Ytpgonpjakllnjaa
open Go.Vm Go.Vm.Md
namespace Lm

-- NEW
def kNew : Sub := ⟨[(7, .lit 0), (8, .lit 0)], [], [], [], [(0, 2), (2, 0), (3, 1)]⟩
def eNew : List Tpl := [⟨[(0, .ptr 0 (.lit 0))], 1, hM 1 .nil, 10, [], 0⟩]
theorem new_run : (run Try.prog [] (spL []) 4000 true 10 (entry Try.f10 (Try.f10.body.getD .ret) [] .leaf 0 [])).map (·.filterMap (sumMD gM [] eNew [])) = some [.done 0 [] kNew] := by kernel_rfl
def NewM (w w' : World) (b : Nat) (m : Mod) : Prop := ∃ F' : Nat → Prop, ModelIn w' b F' m.Q m.M m.S ∧ ∀ y, F' y → w.heap.size ≤ y
theorem new10 (w : World) : Calls Try.prog 10 #[] w (fun e w' => ∃ b, e = .returned (.pointer (some ⟨b, 0, none⟩)) ∧ NewM w w' b mod0 ∧ Framed w w') := by
  obtain ⟨ρ, hρ⟩ : ∃ ρ : Env, ρ = ⟨fun _ => 0, fun _ => false, fun _ => default, fun _ => undef, fun _ => none, F0⟩ := ⟨_, rfl⟩
  refine (calls_sumsE (β := .plain w) (R := fun x w' => ∃ b, x = .pointer (some ⟨b, 0, none⟩) ∧ NewM w w' b mod0 ∧ Framed w w') (g := gM) (L := []) (Rs := eNew) (Ts := []) (pl := true) noCount noExt (noSp0 _) follows Try.func10 rfl new_run (xs := []) rfl (HRel.start w ρ fun i => by rw [hρ]) c0
    (one (doneR rfl (fun l hl => by cases hl) fun ρ' hle hG => ⟨trivial, c0, fun x w' r => ?_⟩))).mono fun e w' ⟨v, he, b, hv, h⟩ => ⟨b, by rw [he, hv], h⟩
  obtain ⟨y, hy, he⟩ := r.t 0 _ rfl
  obtain rfl : x = y := Option.some.inj he
  obtain ⟨b, o, hb, _⟩ := r.h.blk 0 _ (show (ofP (hM 1 .nil)).get 0 = some (mdB .sliceNil) from rfl)
  have h7 : decL ((kNew.app ρ').I 7) = [] := by rw [sbI (t := .lit 0) rfl (litD 0)]; exact decL_zero
  have h8 : decL ((kNew.app ρ').I 8) = [] := by rw [sbI (t := .lit 0) rfl (litD 0)]; exact decL_zero
  obtain ⟨F', hs, hm⟩ := mEnd (F := fun _ => False) .nil (.inl rfl) r.h (fun l hl => by cases hl) hb h7 h8 (fun e => by cases e) (fun _ => rfl)
  refine ⟨b, ?_, ⟨F', hm, fun y hy => (hs.sub y hy).elim False.elim id⟩, Framed.of r.h⟩
  have hp : (AVal.ptr 0 (.lit 0)).den (kNew.app ρ') = some (.pointer (some ⟨b, 0, none⟩)) := by simp only [AVal.den, hb]; rfl
  exact Option.some.inj (hy.symm.trans hp)
-- slices.Equal
def zE (b : Bool) (l : Nat) : AVal := cond b .sliceNil (.slice l (.var (11 + l)) (.lit 0) (.lit 0))
theorem eq_zz (a b : Bool) : (run Try.prog [] (spL []) 4000 false 35 (entry Try.f35 (Try.f35.body.getD .ret) [zE a 0, zE b 1] .leaf 10 [])).map (·.filterMap (sumD gM [])) = some [.ret (.bool (.lit true)) []] := by cases a <;> cases b <;> kernel_rfl
def sE (l : Nat) : AVal := .slice l (.lit 0) (.var 6) (.nv (2 + l))
def rE : List (Nat × ABlk) := [(0, .arr (.code [.i64] (.var 5)) [.i64] 3 (.var 6) (.lit 0) none), (1, .arr (.code [.i64] (.var 5)) [.i64] 3 (.var 6) (.lit 0) none)]
def rEH : List (Nat × HB) := rE.map fun p => (p.1, (⟨p.2, false⟩ : HB))
def csE : Cs := [(.cmp .geq (.var 6) (.lit 1), true), (.cmp .leq (.var 6) (.lit 1000), true)]
def TE : Tpl := ⟨[(0, sE 0), (1, sE 1), (11, sE 0), (12, iV 6), (13, iV 9)], 26, rEH, 10, [(.cmp .geq (.var 9) (.lit 0), true), (.cmp .leq (.var 9) (.lit 1000), true)] ++ csE, 3⟩
noncomputable def bE : Code := ((loopsOf (Try.f35.body.getD .ret) []).getD 0 (.ret, [])).1
noncomputable def kE : List Item := ((loopsOf (Try.f35.body.getD .ret) []).getD 0 (.ret, [])).2
noncomputable def RunE (c : Cs) (l : LS) : Prop := (run Try.prog [] (spL []) 4000 true 35 ((⟨TE.tm, TE.nt, TE.H, TE.nl, c ++ TE.cs, TE.dep⟩ : Tpl).st (.code bE :: .inLoop bE :: kE))).map (·.filterMap (sumD gM [TE])) = some [l]
def idN (l : List Nat) : List (Nat × Nat) := l.map fun n => (n, n)
def upI (i : Nat) : IT := .bin .add .i64 (.var i) (.lit 1)
def sgE (t : IT) : Sub := ⟨[(6, .var 6), (9, t), (5, .var 5)], [], [], [], [(0, 0), (2, 2), (1, 1), (3, 3)]⟩
def fE (b : Bool) : Cs := [(.cmp .lss (.var 9) (.var 6), b)]
theorem eq_in : (run Try.prog [] (spL []) 4000 true 35 (entry Try.f35 (Try.f35.body.getD .ret) [sE 0, sE 1] (ofP rEH) 10 csE)).map (·.filterMap (sumD gM [TE])) = some [.next 0 (.code (.loop bE) :: kE) [] (sgE (.lit 0))] := by kernel_rfl
theorem eq_go : RunE (fE true) (.next 0 (.inLoop bE :: kE) [] (sgE (upI 9))) := by unfold RunE; kernel_rfl
theorem eq_end : RunE (fE false) (.ret (.bool (.lit true)) []) := by unfold RunE; kernel_rfl
structure JE (n i : Nat) (ρ : Env) : Prop where
  i6 : ρ.I 6 = (n : Int)
  i9 : ρ.I 9 = (i : Int)
  le : i ≤ n
  n1 : 1 ≤ n
  nk : n ≤ 1000
theorem JE.of_le {n i : Nat} {ρ ρ' : Env} (h : JE n i ρ) (g : ρ.Le ρ') : JE n i ρ' := ⟨by rw [g.i]; exact h.i6, by rw [g.i]; exact h.i9, h.le, h.n1, h.nk⟩
theorem JE.cs {n i : Nat} {ρ : Env} (h : JE n i ρ) : CRel ρ TE.cs := by
  have := h.le; have := h.n1; have := h.nk
  exact c1 (geqT (varD h.i9) (litD 0) (by omega)) (c1 (leqT (varD h.i9) (litD _) (by omega)) (c1 (geqT (varD h.i6) (litD 1) (by omega)) (c1 (leqT (varD h.i6) (litD _) (by omega)) c0)))
theorem JE.next {n i' : Nat} {ρ : Env} {t : IT} (h6 : ρ.I 6 = (n : Int)) (d : t.den ρ = some (i' : Int)) (le : i' ≤ n) (n1 : 1 ≤ n) (nk : n ≤ 1000) : JE n i' ((sgE t).app ρ) :=
  ⟨sbI (t := .var 6) rfl (varD h6), sbI (t := t) rfl d, le, n1, nk⟩
/-- Where such a queue lies. -/
def QV (w : World) (Q : List Int) (v : Value) : Prop := (∃ a, v = .slice a 0 0 ∧ (∀ p, a = some p → p.spot = none) ∧ Q = []) ∨ ∃ b cap o, Q ≠ [] ∧ v = .slice (some ⟨b, 0, none⟩) Q.length cap ∧ w.heap[b]? = some o ∧ RowM Q cap o
theorem equal35 {w : World} {Q : List Int} {v1 v2 : Value} (h1 : QV w Q v1) (h2 : QV w Q v2) (hl : Q.length ≤ 1000) : Calls Try.prog 35 #[v1, v2] w fun e w' => e = .returned (.bool true) ∧ Framed w w' := by
  by_cases hQ : Q = []
  · have zd : ∀ {v : Value}, QV w Q v → ∃ b p o, ∀ ρ : Env, ∀ l, ρ.N l = some p → ρ.I (11 + l) = ((o : Nat) : Int) → (zE b l).den ρ = some v := fun {v} h => by
      rcases h with ⟨a, rfl, ha, _⟩ | ⟨_, _, _, hne, _⟩
      · cases a with
        | none => exact ⟨true, 0, 0, fun ρ l _ _ => rfl⟩
        | some p =>
          obtain ⟨pb, po, ps⟩ := p
          obtain rfl : ps = none := ha _ rfl
          exact ⟨false, pb, po, fun ρ l hN hI => den_slice_of (n := 0) (c := 0) hN (varD hI) rfl rfl⟩
      · exact absurd hQ hne
    obtain ⟨a, p1, o1, d1⟩ := zd h1
    obtain ⟨b, p2, o2, d2⟩ := zd h2
    obtain ⟨ρ, hρ⟩ : ∃ ρ : Env, ρ = ⟨fun i => if i = 11 then (o1 : Int) else o2, fun _ => false, fun _ => default, fun _ => undef, fun i => if i = 0 then some p1 else if i = 1 then some p2 else none, F0⟩ := ⟨_, rfl⟩
    have hr : HRel (.plain w) ρ .leaf 10 w := by
      rw [hρ]
      exact HRel.ro [] (fun p hp' => by cases hp') (fun i hi => by
        show (if i = 0 then some p1 else if i = 1 then some p2 else none) = none
        rw [if_neg (by omega), if_neg (by omega)]) trivial
    exact (calls_sumsD (β := .plain w) (Q := fun v => v = .bool true) (g := gM) (Ts := []) (pl := false) noCount noExt (noSp0 _) follows rfl Try.func35 rfl (eq_zz a b) (denL2 (d1 ρ 0 (by rw [hρ]; rfl) (by rw [hρ]; rfl)) (d2 ρ 1 (by rw [hρ]; rfl) (by rw [hρ]; rfl))) hr c0
      (one (retS (z := .bool true) (fun _ _ => rfl) rfl))).mono fun e w' ⟨v, he, hv, hf⟩ => ⟨by rw [he, hv], hf⟩
  · rcases h1 with ⟨_, _, _, h⟩ | ⟨b1, cap1, ob1, _, rfl, ho1, ⟨c1', fr1, rfl, hp1, _⟩⟩
    · exact absurd h hQ
    rcases h2 with ⟨_, _, _, h⟩ | ⟨b2, cap2, ob2, _, rfl, ho2, ⟨c2', fr2, rfl, hp2, _⟩⟩
    · exact absurd h hQ
    have h1 : 1 ≤ Q.length := List.length_pos_iff.2 hQ
    obtain ⟨ρ, hρ⟩ : ∃ ρ : Env, ρ = ⟨fun i => if i = 5 then encL Q else if i = 6 then (Q.length : Int) else 0, fun _ => false, fun _ => default, fun _ => undef, fun i => if i = 0 then some b1 else if i = 1 then some b2 else if i = 2 then some cap1 else if i = 3 then some cap2 else none, F0⟩ := ⟨_, rfl⟩
    have h6 : ρ.I 6 = (Q.length : Int) := by rw [hρ]; rfl
    have rel : ∀ {cc : Array Value} {fr : Nat × Nat}, Q.map (Value.int .i64) <+: cc.toList → (ABlk.arr (.code [.i64] (.var 5)) [.i64] 3 (.var 6) (.lit 0) none).rel ρ false (.cells cc 3 fr) := fun {cc fr} hp => by
      refine ⟨rowOf [.i64] Q, cc, fr, 3, Q.length, 0, rfl, (fun e => by cases e), ?_, rfl, ⟨Nat.zero_le _, ?_⟩, congrArg some h6, rowOf_typed (by simp), trivial, (fun e => by cases e)⟩
      · show ((IT.var 5).den ρ).map (fun x => rowOf [.i64] (decL x)) = _
        have : (IT.var 5).den ρ = some (encL Q) := by rw [hρ]; rfl
        rw [this, Option.map_some, decL_encL]
      · rw [List.drop_zero, rowOf1]; exact hp
    have hr : HRel (.plain w) ρ (ofP rEH) 10 w := by
      refine HRel.ro rE (fun p hp' => ?_) (fun i hi => ?_) trivial
      · simp only [rE, List.mem_cons, List.not_mem_nil, or_false] at hp'
        rcases hp' with rfl | rfl
        · exact ⟨b1, _, by rw [hρ]; rfl, ho1, rel hp1⟩
        · exact ⟨b2, _, by rw [hρ]; rfl, ho2, rel hp2⟩
      · rw [hρ]
        show (if i = 0 then some b1 else if i = 1 then some b2 else if i = 2 then some cap1 else if i = 3 then some cap2 else none) = none
        rw [if_neg (by omega), if_neg (by omega), if_neg (by omega), if_neg (by omega)]
    have hx : AVal.denL ρ [sE 0, sE 1] = some [.slice (some ⟨b1, 0, none⟩) Q.length cap1, .slice (some ⟨b2, 0, none⟩) Q.length cap2] := denL2 (den_slice_of (by rw [hρ]; rfl) rfl (varD h6) (nvD (by rw [hρ]; rfl))) (den_slice_of (by rw [hρ]; rfl) rfl (varD h6) (nvD (by rw [hρ]; rfl)))
    have loop := loop_goesD (P := Try.prog) (β := .plain w) (f := 35) (Q := fun v => v = .bool true) (Ts := [TE]) (T := TE) (b := bE) (k := kE) (n := 4000) (g := gM) (pl := true) noCount noExt (noSp0 _) follows rfl (fun ρ => ∃ i, JE Q.length i ρ) (fun ρ => ((Q.length : Int) - ρ.I 9).toNat) fun ρ ⟨i, j⟩ _ _ _ ih => by
      have hi := j.le
      by_cases hlt : i < Q.length
      · refine ⟨fE true ++ TE.cs, _, CRel_app.2 ⟨c1 (lssT (varD j.i9) (varD j.i6) (by omega)) c0, j.cs⟩, eq_go, one (nextS rfl fun ρ' hle hG => ?_)⟩
        have j' := j.of_le hle
        have jn := JE.next j'.i6 (upD (varD j'.i9) (by omega)) hlt h1 hl
        exact ⟨hG, jn.cs, fun a w' r => ih _ (by have e1 := jn.i9; have e2 := j.i9; rw [e1, e2]; omega) ⟨_, jn⟩ _ a w' (.inl rfl) r⟩
      · exact ⟨fE false ++ TE.cs, _, CRel_app.2 ⟨c1 (lssF (varD j.i9) (varD j.i6) (by omega)) c0, j.cs⟩, eq_end, one (retS (z := .bool true) (fun _ _ => rfl) rfl)⟩
    refine (calls_sumsD (β := .plain w) (Q := fun v => v = .bool true) (g := gM) (Ts := [TE]) (pl := true) noCount noExt (noSp0 _) follows rfl Try.func35 rfl eq_in hx hr (c1 (geqT (varD h6) (litD 1) (by omega)) (c1 (leqT (varD h6) (litD _) (by omega)) c0))
      (one (nextS rfl fun ρ' hle hG => ?_))).mono fun e w' ⟨v, he, hv, hf⟩ => ⟨by rw [he, hv], hf⟩
    have jn := JE.next (i' := 0) (t := .lit 0) (n := Q.length) (show ρ'.I 6 = _ by rw [hle.i]; exact h6) rfl (Nat.zero_le _) h1 hl
    exact ⟨hG, jn.cs, fun a w' r => loop _ ⟨_, jn⟩ _ a w' (.inr rfl) r⟩
-- SAME
def spQ2 : SpG := fun args H nl cs => match args with
  | [.var 0, .var 1] => some [.ret (.bool (.lit true)) H nl cs]
  | _ => none
def spM2 : SpG := fun args H nl cs => match args with
  | [.map l, .map l'] => match H.get l, H.get l' with
    | some ⟨.mapc (.var 7), _⟩, some ⟨.mapc (.var 7), _⟩ => some [.ret (.bool (.lit true)) H nl cs]
    | some ⟨.mapc (.var 8), _⟩, some ⟨.mapc (.var 8), _⟩ => some [.ret (.bool (.lit true)) H nl cs]
    | _, _ => none
  | _ => none
def mS (v i j : Nat) : ABlk := .cells [.var v, .map i, .map j] 65 none
def hS : List (Nat × ABlk) := [(0, mS 0 2 3), (4, mS 1 6 7), (2, .mapc (.var 7)), (3, .mapc (.var 8)), (6, .mapc (.var 7)), (7, .mapc (.var 8))]
def spS : CallF := spL [(35, spQ2), (36, spM2)]
theorem same_run : (run Try.prog [] spS 4000 true 14 (entry Try.f14 (Try.f14.body.getD .ret) [.ptr 0 (.lit 0), .ptr 4 (.lit 0)] (ofP (hS.map fun p => (p.1, (⟨p.2, false⟩ : HB)))) 10 [])).map (·.filterMap (sumD gM [])) = some [.ret (.bool (.lit true)) []] := by kernel_rfl
def GS (v1 v2 : Value) (M S : List Int) : GP := fun I _ _ V _ => V 0 = v1 ∧ V 1 = v2 ∧ I 7 = encL M ∧ I 8 = encL S
theorem spQ2_ok {w : World} {v1 v2 : Value} {Q M S : List Int} (h1 : QV w Q v1) (h2 : QV w Q v2) (hl : Q.length ≤ 1000) : SpGOk Try.prog ⟨w, [], GS v1 v2 M S⟩ 35 spQ2 := by
  intro args H nl cs ls ρ w' xs hr hx hh hc
  unfold spQ2 at hr
  split at hr
  rotate_left
  · cases hr
  cases hr
  obtain ⟨g1, g2, _⟩ := hh.g
  have g1 : ρ.V 0 = v1 := g1
  have g2 : ρ.V 1 = v2 := g2
  have hx' : AVal.denL ρ [.var 0, .var 1] = some [v1, v2] := denL2 (by simp only [AVal.den, g1]) (by simp only [AVal.den, g2])
  obtain rfl : [v1, v2] = xs := Option.some.inj (hx'.symm.trans hx)
  have kept : ∀ {v}, QV w Q v → QV w' Q v := fun {v} h => by
    rcases h with h | ⟨b, cap, o, q1, q2, q3, q4⟩
    · exact .inl h
    · exact .inr ⟨b, cap, o, q1, q2, by rw [hh.frame b (Array.getElem?_eq_some_iff.1 q3).1 (fun l hl => by cases hl)]; exact q3, q4⟩
  exact spV_ok (equal35 (kept h1) (kept h2) hl) rfl hh hc
theorem spM2_ok {w : World} {v1 v2 : Value} {M S : List Int} (hM : MapOk M) (hS : MapOk S) : SpGOk Try.prog ⟨w, [], GS v1 v2 M S⟩ 36 spM2 := by
  intro args H nl cs ls ρ w' xs hr hx hh hc
  obtain ⟨_, _, g7, g8⟩ := hh.g
  have g7 : ρ.I 7 = encL M := g7
  have g8 : ρ.I 8 = encL S := g8
  unfold spM2 at hr
  split at hr
  rotate_left
  · cases hr
  rename_i l l'
  have key : ∀ {i : Nat} {L : List Int} {r1 r2 : Bool}, H.get l = some ⟨.mapc (.var i), r1⟩ → H.get l' = some ⟨.mapc (.var i), r2⟩ → ρ.I i = encL L → MapOk L → Calls Try.prog 36 xs.toArray w' fun e w'' => e = .returned (.bool true) ∧ Framed w' w'' := fun {i L r1 r2} q1 q2 q3 q4 => by
    obtain ⟨b1, o1, hb1, ho1, x1, e1, cl1, rfl, hx1, he1, hn1⟩ := hh.blk l _ q1
    obtain ⟨b2, o2, hb2, ho2, x2, e2, cl2, rfl, hx2, he2, hn2⟩ := hh.blk l' _ q2
    have hx1 : ρ.I i = x1 := Option.some.inj hx1
    have hx2 : ρ.I i = x2 := Option.some.inj hx2
    have hx' : AVal.denL ρ [.map l, .map l'] = some [.map (some b1), .map (some b2)] := denL2 (by simp only [AVal.den, hb1, Option.map_some]) (by simp only [AVal.den, hb2, Option.map_some])
    obtain rfl : [.map (some b1), .map (some b2)] = xs := Option.some.inj (hx'.symm.trans hx)
    refine equal36 ho1 (M := L) ?_ hn1 ho2 ?_ hn2 q4
    · rw [entM_eq, ← decL_encL L, ← q3, hx1]; exact he1
    · rw [entM_eq, ← decL_encL L, ← q3, hx2]; exact he2
  split at hr
  · rename_i q1 q2
    cases hr
    exact spV_ok (key q1 q2 g7 hM) rfl hh hc
  · rename_i q1 q2
    cases hr
    exact spV_ok (key q1 q2 g8 hS) rfl hh hc
  · cases hr
theorem same14 {w : World} {b b' : Nat} {F F' : Nat → Prop} {Q M S : List Int} (h : ModelIn w b F Q M S) (h' : ModelIn w b' F' Q M S) (ok : ModOk Q M S) : Calls Try.prog 14 #[.pointer (some ⟨b, 0, none⟩), .pointer (some ⟨b', 0, none⟩)] w fun e w' => e = .returned (.bool true) ∧ Framed w w' := by
  obtain ⟨⟨c, fr, vq, bp, bs, em, cm, es, cs, hob, hc, hf, hop, hem, hbe, hos, hes, hbs, _, _, _, hq⟩⟩ := h
  obtain ⟨⟨c', fr', vq', bp', bs', em', cm', es', cs', hob', hc', hf', hop', hem', hbe', hos', hes', hbs', _, _, _, hq'⟩⟩ := h'
  have qv : ∀ {b bp bs F vq}, QueueIn w b bp bs F Q vq → QV w Q vq := fun {b bp bs F vq} h => by
    rcases h with ⟨a, q1, q2, q3, _⟩ | ⟨b1, cap, o, q1, q2, q3, q4, _⟩
    · exact .inl ⟨a, q1, q2, q3⟩
    · exact .inr ⟨b1, cap, o, q1, q2, q3, q4⟩
  obtain ⟨ok1, ok2, ok3, _⟩ := ok
  obtain ⟨ρ, hρ⟩ : ∃ ρ : Env, ρ = ⟨fun i => if i = 7 then encL M else encL S, fun _ => false, fun _ => default, fun i => if i = 0 then vq else vq', fun i => if i = 0 then some b else if i = 4 then some b' else if i = 2 then some bp else if i = 3 then some bs else if i = 6 then some bp' else if i = 7 then some bs' else none, F0⟩ := ⟨_, rfl⟩
  have srel : ∀ {i j k b1 b2 : Nat} {v : Value} {cc : Array Value} {fr : Nat × Nat}, ρ.V i = v → ρ.N j = some b1 → ρ.N k = some b2 → cc.toList = [v, .map (some b1), .map (some b2)] → (mS i j k).rel ρ false (.cells cc 65 fr) := fun {i j k b1 b2 v cc fr} q1 q2 q3 q4 => by
    refine ⟨[v, .map (some b1), .map (some b2)], cc, fr, rfl, by simp only [AVal.denL, AVal.den, q1, q2, q3, Option.map_some], by rw [q4]; exact List.prefix_refl _, ?_, fun e => by cases e⟩
    have : cc.toList.length = 3 := by rw [q4]; rfl
    show cc.size = 3
    simpa using this
  have mrel : ∀ {i : Nat} {L : List Int} {e : Array MapEntry} {cl : Nat}, ρ.I i = encL L → e.toList.map (fun e => (e.key, e.val)) = entM L → BornM e cl → (ABlk.mapc (.var i)).rel ρ false (.map e cl) := fun {i L e cl} h4 he hbb => ⟨encL L, e, cl, rfl, congrArg some h4, by rw [decL_encL, ← entM_eq]; exact he, hbb⟩
  have hr : HRel ⟨w, [], GS vq vq' M S⟩ ρ (ofP (hS.map fun p => (p.1, (⟨p.2, false⟩ : HB)))) 10 w := by
    refine HRel.ro hS (fun p hp => ?_) (fun i hi => ?_) (by rw [hρ]; exact ⟨rfl, rfl, rfl, rfl⟩)
    · simp only [hS, List.mem_cons, List.not_mem_nil, or_false] at hp
      rcases hp with rfl | rfl | rfl | rfl | rfl | rfl
      · exact ⟨b, _, by rw [hρ]; rfl, hob, srel (by rw [hρ]; rfl) (by rw [hρ]; rfl) (by rw [hρ]; rfl) hc⟩
      · exact ⟨b', _, by rw [hρ]; rfl, hob', srel (by rw [hρ]; rfl) (by rw [hρ]; rfl) (by rw [hρ]; rfl) hc'⟩
      · exact ⟨bp, _, by rw [hρ]; rfl, hop, mrel (by rw [hρ]; rfl) hem hbe⟩
      · exact ⟨bs, _, by rw [hρ]; rfl, hos, mrel (by rw [hρ]; rfl) hes hbs⟩
      · exact ⟨bp', _, by rw [hρ]; rfl, hop', mrel (by rw [hρ]; rfl) hem' hbe'⟩
      · exact ⟨bs', _, by rw [hρ]; rfl, hos', mrel (by rw [hρ]; rfl) hes' hbs'⟩
    · rw [hρ]
      show (if i = 0 then some b else if i = 4 then some b' else if i = 2 then some bp else if i = 3 then some bs else if i = 6 then some bp' else if i = 7 then some bs' else none) = none
      rw [if_neg (by omega), if_neg (by omega), if_neg (by omega), if_neg (by omega), if_neg (by omega), if_neg (by omega)]
  have hx : AVal.denL ρ [.ptr 0 (.lit 0), .ptr 4 (.lit 0)] = some [.pointer (some ⟨b, 0, none⟩), .pointer (some ⟨b', 0, none⟩)] := by rw [hρ]; rfl
  have hsp : CallOk Try.prog ⟨w, [], GS vq vq' M S⟩ spS := spL_ok fun p hp => by
    simp only [List.mem_cons, List.not_mem_nil, or_false] at hp
    rcases hp with rfl | rfl
    · exact spQ2_ok (qv hq) (qv hq') (by omega)
    · exact spM2_ok ok2 ok3
  exact (calls_sumsD (β := ⟨w, [], GS vq vq' M S⟩) (Q := fun v => v = .bool true) (g := gM) (Ts := []) (pl := true) noCount noExt hsp follows rfl Try.func14 rfl same_run hx hr c0
    (one (retS (z := .bool true) (fun _ _ => rfl) rfl))).mono fun e w' ⟨v, he, hv, hf⟩ => ⟨by rw [he, hv], hf⟩
end Lm
end Go.Proofs.Ytpgonpjakllnjaa
end

/-
  LinearModel (11): New, Apply and Same over models as the machine takes them.
-/
section
namespace Go.Proofs.Ytpgonpjakllnjaa
open Go.Vm Go.Vm.Md
namespace Lm

def bigM (H : Heap) (l : Nat) : Option IT := match H.get l with
  | some ⟨.big 0 c, true⟩ => some c
  | _ => none
theorem bigM_get {H : Heap} {l : Nat} {c : IT} (h : bigM H l = some c) : H.get l = some ⟨.big 0 c, true⟩ := by
  unfold bigM at h
  split at h
  · rename_i hg; cases h; exact hg
  · cases h
def opT (c k a b : IT) : IT := .un 3 (.un 3 (.un 3 (.un 3 (.lit 0) c) k) a) b
theorem snoc_den {ρ : Env} {t u : IT} {L : List Int} {x : Int} (h : t.den ρ = some (encL L)) (g : u.den ρ = some x) : (IT.un 3 t u).den ρ = some (encL (L ++ [x])) := by
  rw [unD h g]
  show some (encL (decL (encL L) ++ [x])) = _
  rw [decL_encL]
theorem nil_den {ρ : Env} : (IT.lit 0).den ρ = some (encL []) := rfl
theorem opT_den {ρ : Env} {c k a b : IT} {x y z u : Int} (h1 : c.den ρ = some x) (h2 : k.den ρ = some y) (h3 : a.den ρ = some z) (h4 : b.den ρ = some u) : (opT c k a b).den ρ = some (encL [x, y, z, u]) :=
  snoc_den (L := [x, y, z]) (snoc_den (L := [x, y]) (snoc_den (L := [x]) (snoc_den (L := []) nil_den h1) h2) h3) h4
theorem apO_enc (m : Mod) (c k a b : Int) : apO m.code (encL [c, k, a, b]) = applyO m c k a b := by
  unfold apO
  rw [Mod.of_code, decL_encL]; rfl
def m0T : IT := .un 3 (.un 3 (.un 3 (.lit 0) (.lit 0)) (.lit 0)) (.lit 0)
theorem m0T_den {ρ : Env} : m0T.den ρ = some mod0.code :=
  snoc_den (L := [encL [], encL []]) (snoc_den (L := [encL []]) (snoc_den (L := []) nil_den nil_den) nil_den) nil_den
def spNew : SpG := fun args H nl cs => match args with
  | [] => some [.ret (.ptr nl (.lit 0)) (H.set nl ⟨.big 0 m0T, true⟩) (nl + 1) cs]
  | _ => none
def spApply : SpG := fun args H nl cs => match args with
  | [.ptr l (.lit (.ofNat 0)), .agg [.int .i64 c, .int .i64 k, .int .i64 a, .int .i64 b]] => match bigM H l with
    | some x => some [.ret (.agg [.int .i64 (.fn 70 x (opT c k a b)), .int .i64 (.fn 71 x (opT c k a b))]) (H.set l ⟨.big 0 (.fn 72 x (opT c k a b)), true⟩) nl cs]
    | none => none
  | _ => none
def spSame : SpG := fun args H nl cs => match args with
  | [.ptr l (.lit (.ofNat 0)), .ptr l' (.lit (.ofNat 0))] => match bigM H l, bigM H l' with
    | some x, some x' => match lookB cs (.cmp .eql x x') with
      | some true => some [.ret (.bool (.lit true)) H nl cs]
      | _ => none
    | _, _ => none
  | _ => none
theorem spNew_ok {β : Base} : SpGOk Try.prog β 10 spNew := by
  intro args H nl cs ls ρ w xs hr hx hh hc
  unfold spNew at hr
  split at hr
  rotate_left
  · cases hr
  cases hr
  cases hx
  refine (new10 w).mono fun e w' ⟨b', he, ⟨F', s', hF'⟩, hf⟩ => ?_
  have hh' := hh.bigNew hf (k := 0) (b := b') (c := m0T) (F := F') ⟨rfl, [], [], [], rfl, s', ModOk0⟩ hF' m0T_den
  have hle := Env.le_put (b := b') (hh.fresh nl (Nat.le_refl _))
  exact ⟨_, he, _, _, _, _, ρ.put nl b', List.mem_cons_self, hle, by simp only [AVal.den, Env.put_same]; rfl, hh', hc.mono hle⟩
theorem ptr_of {ρ : Env} {l b : Nat} {v : Value} (h : (AVal.ptr l (.lit 0)).den ρ = some v) (hN : ρ.N l = some b) : v = .pointer (some ⟨b, 0, none⟩) := by
  simp only [AVal.den, hN] at h
  exact (Option.some.inj h).symm
theorem spApply_ok {β : Base} (hG : ∀ I B S V F, β.G I B S V F → GW I B S V F) : SpGOk Try.prog β 11 spApply := by
  intro args H nl cs ls ρ w xs hr hx hh hc
  unfold spApply at hr
  split at hr
  rotate_left
  · cases hr
  rename_i l c k a b
  split at hr
  rotate_left
  · cases hr
  rename_i x hb
  cases hr
  obtain ⟨bb, y, F, hN, hcx, ⟨_, Q, M, S, rfl, s, ok⟩, upd⟩ := hh.bigAt (bigM_get hb)
  obtain ⟨_, _, _, _, g70, g71, g72⟩ := hG _ _ _ _ _ hh.g
  have hx : AVal.denL ρ [.ptr l (.lit 0), .agg [.int .i64 c, .int .i64 k, .int .i64 a, .int .i64 b]] = some xs := hx
  obtain ⟨c', k', a', b', hc1, hk, ha, hb1⟩ : ∃ c' k' a' b', c.den ρ = some c' ∧ k.den ρ = some k' ∧ a.den ρ = some a' ∧ b.den ρ = some b' := by
    cases hc1 : c.den ρ <;> cases hk : k.den ρ <;> cases ha : a.den ρ <;> cases hb1 : b.den ρ <;> first | exact ⟨_, _, _, _, rfl, rfl, rfl, rfl⟩ | (simp [AVal.denL, AVal.den, hc1, hk, ha, hb1] at hx)
  have hx' : AVal.denL ρ [.ptr l (.lit 0), .agg [.int .i64 c, .int .i64 k, .int .i64 a, .int .i64 b]] = some [.pointer (some ⟨bb, 0, none⟩), .agg #[.int .i64 c', .int .i64 k', .int .i64 a', .int .i64 b']] := denL2 (by simp only [AVal.den, hN]; rfl) (by simp only [AVal.den, AVal.denL, hc1, hk, ha, hb1, Option.map_some])
  obtain rfl : [.pointer (some ⟨bb, 0, none⟩), .agg #[.int .i64 c', .int .i64 k', .int .i64 a', .int .i64 b']] = xs := Option.some.inj (hx'.symm.trans hx)
  have hc' : (encL [encL Q, encL M, encL S] : Int) = (⟨Q, M, S⟩ : Mod).code := rfl
  have eo : (opT c k a b).den ρ = some (encL [c', k', a', b']) := opT_den hc1 hk ha hb1
  refine (apply11 (m := ⟨Q, M, S⟩) s (by have := ok.1; show Q.length ≤ 1000; omega) c' k' a' b').mono fun e w' ⟨v, he, hv, F', st, s'⟩ => ?_
  have e70 : (IT.fn 70 x (opT c k a b)).den ρ = some (applyO ⟨Q, M, S⟩ c' k' a' b').1.1 := by rw [fnD hcx eo, g70, hc']; simp only [apO_enc]
  have e71 : (IT.fn 71 x (opT c k a b)).den ρ = some (applyO ⟨Q, M, S⟩ c' k' a' b').1.2 := by rw [fnD hcx eo, g71, hc']; simp only [apO_enc]
  have e72 : (IT.fn 72 x (opT c k a b)).den ρ = some (applyO ⟨Q, M, S⟩ c' k' a' b').2.code := by rw [fnD hcx eo, g72, hc']; simp only [apO_enc]
  have hh' := upd rfl w' (.fn 72 x (opT c k a b)) _ F' st ⟨rfl, _, _, _, rfl, s', ModOk_applyO (m := ⟨Q, M, S⟩) ok⟩ e72
  exact ⟨v, he, _, _, _, _, ρ, List.mem_cons_self, Env.Le.refl ρ, by simp only [AVal.den, AVal.denL, e70, e71, Option.map_some]; rw [hv]; rfl, hh', hc⟩
theorem spSame_ok {β : Base} : SpGOk Try.prog β 14 spSame := by
  intro args H nl cs ls ρ w xs hr hx hh hc
  unfold spSame at hr
  split at hr
  rotate_left
  · cases hr
  rename_i l l'
  split at hr
  rotate_left
  · cases hr
  rename_i x x' hb hb'
  split at hr
  rotate_left
  · cases hr
  rename_i hl
  cases hr
  obtain ⟨b, y, F, hN, hcx, ⟨_, Q, M, S, rfl, s, ok⟩, _⟩ := hh.bigAt (bigM_get hb)
  obtain ⟨b', y', F', hN', hcx', ⟨_, Q', M', S', rfl, s', _⟩, _⟩ := hh.bigAt (bigM_get hb')
  have he := lookB_ok hl hc
  rw [cmpD hcx hcx'] at he
  simp only [intCmp, Option.some.injEq, beq_iff_eq] at he
  have h3 := congrArg decL he
  rw [decL_encL, decL_encL] at h3
  injection h3 with h4 h5
  injection h5 with h5 h6
  injection h6 with h6 _
  obtain rfl : Q = Q' := by have := congrArg decL h4; rwa [decL_encL, decL_encL] at this
  obtain rfl : M = M' := by have := congrArg decL h5; rwa [decL_encL, decL_encL] at this
  obtain rfl : S = S' := by have := congrArg decL h6; rwa [decL_encL, decL_encL] at this
  have hx' : AVal.denL ρ [.ptr l (.lit 0), .ptr l' (.lit 0)] = some [.pointer (some ⟨b, 0, none⟩), .pointer (some ⟨b', 0, none⟩)] := denL2 (by simp only [AVal.den, hN]; rfl) (by simp only [AVal.den, hN']; rfl)
  obtain rfl : [.pointer (some ⟨b, 0, none⟩), .pointer (some ⟨b', 0, none⟩)] = xs := Option.some.inj (hx'.symm.trans hx)
  exact spV_ok (same14 s s' ok) rfl hh hc
end Lm
end Go.Proofs.Ytpgonpjakllnjaa
end
