/-
  LinearModel (10): New, Apply and Same, as the machine takes them.
-/
import Derived.Test.YtpgonpjakllnjaaEq1
import Derived.Test.YtpgonpjakllnjaaVm30
section
namespace Go.Proofs.Ytpgonpjakllnjaa
open Go.Vm Go.Vm.Md
namespace Lm

-- NEW
def kNew : Sub := ⟨[(7, .lit 0), (8, .lit 0)], [], [], [], [(0, 2), (2, 0), (3, 1)]⟩
def eNew : List Tpl := [⟨[(0, .ptr 0 (.lit 0))], 1, hM 1 .nil, 10, [], 0⟩]
theorem new_run : (run Try.prog [] (spL []) 4000 true 10 (entry Try.f10 (Try.f10.body.getD .ret) [] .leaf 0 [])).map (·.filterMap (sumMD gM [] eNew [])) = some [.done 0 [] kNew] := by kernel_rfl
def NewM (w w' : World) (b : Nat) (m : Mod) : Prop := ∃ F' : Nat → Prop, ModelIn w' b F' m.Q m.M m.S ∧ ∀ y, F' y → w.heap.size ≤ y
theorem new10 (w : World) : Calls Try.prog 10 #[] w (fun e w' => ∃ b, e = .returned (.pointer (some ⟨b, 0, none⟩)) ∧ NewM w w' b mod0 ∧ Framed w w') := by
  obtain ⟨ρ, hρ⟩ : ∃ ρ : Env, ρ = ⟨fun _ => 0, fun _ => false, fun _ => default, fun _ => undef, fun _ => none, F0⟩ := ⟨_, rfl⟩
  refine (calls_sumsE (β := .plain w) (R := fun x w' => ∃ b, x = .pointer (some ⟨b, 0, none⟩) ∧ NewM w w' b mod0 ∧ Framed w w') (g := gM) (L := []) (Rs := eNew) (Ts := []) (pl := true) noCount noExt (noSp0 _) follows Try.func10 rfl new_run (xs := []) rfl (HRel.start w ρ fun i => by rw [hρ]) c0
    (one (doneR rfl (fun l hl => by cases hl) fun ρ' hle hG => ⟨trivial, c0, fun x w' r => ?_⟩))).mono fun e w' ⟨v, he, b, hv, h⟩ => ⟨b, by rw [he, hv], h⟩
  obtain ⟨y, hy, he⟩ := r.t 0 _ rfl
  obtain rfl : x = y := Option.some.inj he
  obtain ⟨b, o, hb, _⟩ := r.h.blk 0 _ (show (ofP (hM 1 .nil)).get 0 = some (mdB .sliceNil) from rfl)
  have h7 : decL ((kNew.app ρ').I 7) = [] := by rw [sbI (t := .lit 0) rfl (litD 0)]; exact decL_zero
  have h8 : decL ((kNew.app ρ').I 8) = [] := by rw [sbI (t := .lit 0) rfl (litD 0)]; exact decL_zero
  obtain ⟨F', hs, hm⟩ := mEnd (F := fun _ => False) .nil (.inl rfl) r.h (fun l hl => by cases hl) hb h7 h8 (fun e => by cases e) (fun _ => rfl)
  refine ⟨b, ?_, ⟨F', hm, fun y hy => (hs.sub y hy).elim False.elim id⟩, Framed.of r.h⟩
  have hp : (AVal.ptr 0 (.lit 0)).den (kNew.app ρ') = some (.pointer (some ⟨b, 0, none⟩)) := by simp only [AVal.den, hb]; rfl
  exact Option.some.inj (hy.symm.trans hp)
-- slices.Equal
def sE (l : Nat) : AVal := .slice l (.lit 0) (.var 6) (.nv (2 + l))
def rE : List (Nat × ABlk) := [(0, .arr (.code [.i64] (.var 5)) [.i64] 3 (.var 6) (.lit 0) none), (1, .arr (.code [.i64] (.var 5)) [.i64] 3 (.var 6) (.lit 0) none)]
def rEH : List (Nat × HB) := rE.map fun p => (p.1, (⟨p.2, false⟩ : HB))
def csE : Cs := [(.cmp .geq (.var 6) (.lit 1), true), (.cmp .leq (.var 6) (.lit 1000), true)]
def TE : Tpl := ⟨[(0, sE 0), (1, sE 1), (11, sE 0), (12, iV 6), (13, iV 9)], 26, rEH, 10, [(.cmp .geq (.var 9) (.lit 0), true), (.cmp .leq (.var 9) (.lit 1000), true)] ++ csE, 3⟩
def sgE (t : IT) : Sub := ⟨[(6, .var 6), (9, t), (5, .var 5)], [], [], [], [(0, 0), (2, 2), (1, 1), (3, 3)]⟩
def fE (b : Bool) : Cs := [(.cmp .lss (.var 9) (.var 6), b)]
structure JE (n i : Nat) (ρ : Env) : Prop where
  i6 : ρ.I 6 = (n : Int)
  i9 : ρ.I 9 = (i : Int)
  le : i ≤ n
  n1 : 1 ≤ n
  nk : n ≤ 1000
theorem JE.of_le {n i : Nat} {ρ ρ' : Env} (h : JE n i ρ) (g : ρ.Le ρ') : JE n i ρ' := ⟨by rw [g.i]; exact h.i6, by rw [g.i]; exact h.i9, h.le, h.n1, h.nk⟩
theorem JE.cs {n i : Nat} {ρ : Env} (h : JE n i ρ) : CRel ρ TE.cs := by
  have := h.le; have := h.n1; have := h.nk
  exact c1 (geqT (varD h.i9) (litD 0) (by omega)) (c1 (leqT (varD h.i9) (litD _) (by omega)) (c1 (geqT (varD h.i6) (litD 1) (by omega)) (c1 (leqT (varD h.i6) (litD _) (by omega)) c0)))
theorem JE.next {n i' : Nat} {ρ : Env} {t : IT} (h6 : ρ.I 6 = (n : Int)) (d : t.den ρ = some (i' : Int)) (le : i' ≤ n) (n1 : 1 ≤ n) (nk : n ≤ 1000) : JE n i' ((sgE t).app ρ) :=
  ⟨sbI (t := .var 6) rfl (varD h6), sbI (t := t) rfl d, le, n1, nk⟩
/-- Where such a queue lies. -/
def QV (w : World) (Q : List Int) (v : Value) : Prop := (∃ a, v = .slice a 0 0 ∧ (∀ p, a = some p → p.spot = none) ∧ Q = []) ∨ ∃ b cap o, Q ≠ [] ∧ v = .slice (some ⟨b, 0, none⟩) Q.length cap ∧ w.heap[b]? = some o ∧ RowM Q cap o
-- SAME
def mS (v i j : Nat) : ABlk := .cells [.var v, .map i, .map j] 65 none
def hS : List (Nat × ABlk) := [(0, mS 0 2 3), (4, mS 1 6 7), (2, .mapc (.var 7)), (3, .mapc (.var 8)), (6, .mapc (.var 7)), (7, .mapc (.var 8))]
end Lm
end Go.Proofs.Ytpgonpjakllnjaa
end

/-
  LinearModel (11): New, Apply and Same over models as the machine takes them.
-/
section
namespace Go.Proofs.Ytpgonpjakllnjaa
open Go.Vm Go.Vm.Md
namespace Lm

def bigM (H : Heap) (l : Nat) : Option IT := match H.get l with
  | some ⟨.big 0 c, true⟩ => some c
  | _ => none
theorem bigM_get {H : Heap} {l : Nat} {c : IT} (h : bigM H l = some c) : H.get l = some ⟨.big 0 c, true⟩ := by
  unfold bigM at h
  split at h
  · rename_i hg; cases h; exact hg
  · cases h
def opT (c k a b : IT) : IT := .un 3 (.un 3 (.un 3 (.un 3 (.lit 0) c) k) a) b
theorem snoc_den {ρ : Env} {t u : IT} {L : List Int} {x : Int} (h : t.den ρ = some (encL L)) (g : u.den ρ = some x) : (IT.un 3 t u).den ρ = some (encL (L ++ [x])) := by
  rw [unD h g]
  show some (encL (decL (encL L) ++ [x])) = _
  rw [decL_encL]
theorem nil_den {ρ : Env} : (IT.lit 0).den ρ = some (encL []) := rfl
theorem opT_den {ρ : Env} {c k a b : IT} {x y z u : Int} (h1 : c.den ρ = some x) (h2 : k.den ρ = some y) (h3 : a.den ρ = some z) (h4 : b.den ρ = some u) : (opT c k a b).den ρ = some (encL [x, y, z, u]) :=
  snoc_den (L := [x, y, z]) (snoc_den (L := [x, y]) (snoc_den (L := [x]) (snoc_den (L := []) nil_den h1) h2) h3) h4
theorem apO_enc (m : Mod) (c k a b : Int) : apO m.code (encL [c, k, a, b]) = applyO m c k a b := by
  unfold apO
  rw [Mod.of_code, decL_encL]; rfl
def m0T : IT := .un 3 (.un 3 (.un 3 (.lit 0) (.lit 0)) (.lit 0)) (.lit 0)
theorem m0T_den {ρ : Env} : m0T.den ρ = some mod0.code :=
  snoc_den (L := [encL [], encL []]) (snoc_den (L := [encL []]) (snoc_den (L := []) nil_den nil_den) nil_den) nil_den
def spNew : SpG := fun args H nl cs => match args with
  | [] => some [.ret (.ptr nl (.lit 0)) (H.set nl ⟨.big 0 m0T, true⟩) (nl + 1) cs]
  | _ => none
def spApply : SpG := fun args H nl cs => match args with
  | [.ptr l (.lit (.ofNat 0)), .agg [.int .i64 c, .int .i64 k, .int .i64 a, .int .i64 b]] => match bigM H l with
    | some x => some [.ret (.agg [.int .i64 (.fn 70 x (opT c k a b)), .int .i64 (.fn 71 x (opT c k a b))]) (H.set l ⟨.big 0 (.fn 72 x (opT c k a b)), true⟩) nl cs]
    | none => none
  | _ => none
theorem spNew_ok {β : Base} : SpGOk Try.prog β 10 spNew := by
  intro args H nl cs ls ρ w xs hr hx hh hc
  unfold spNew at hr
  split at hr
  rotate_left
  · cases hr
  cases hr
  cases hx
  refine (new10 w).mono fun e w' ⟨b', he, ⟨F', s', hF'⟩, hf⟩ => ?_
  have hh' := hh.bigNew hf (k := 0) (b := b') (c := m0T) (F := F') ⟨rfl, [], [], [], rfl, s', ModOk0⟩ hF' m0T_den
  have hle := Env.le_put (b := b') (hh.fresh nl (Nat.le_refl _))
  exact ⟨_, he, _, _, _, _, ρ.put nl b', List.mem_cons_self, hle, by simp only [AVal.den, Env.put_same]; rfl, hh', hc.mono hle⟩
theorem spApply_ok {β : Base} (hG : ∀ I B S V F, β.G I B S V F → GW I B S V F) : SpGOk Try.prog β 11 spApply := by
  intro args H nl cs ls ρ w xs hr hx hh hc
  unfold spApply at hr
  split at hr
  rotate_left
  · cases hr
  rename_i l c k a b
  split at hr
  rotate_left
  · cases hr
  rename_i x hb
  cases hr
  obtain ⟨bb, y, F, hN, hcx, ⟨_, Q, M, S, rfl, s, ok⟩, upd⟩ := hh.bigAt (bigM_get hb)
  obtain ⟨_, _, _, _, g70, g71, g72⟩ := hG _ _ _ _ _ hh.g
  have hx : AVal.denL ρ [.ptr l (.lit 0), .agg [.int .i64 c, .int .i64 k, .int .i64 a, .int .i64 b]] = some xs := hx
  obtain ⟨c', k', a', b', hc1, hk, ha, hb1⟩ : ∃ c' k' a' b', c.den ρ = some c' ∧ k.den ρ = some k' ∧ a.den ρ = some a' ∧ b.den ρ = some b' := by
    cases hc1 : c.den ρ <;> cases hk : k.den ρ <;> cases ha : a.den ρ <;> cases hb1 : b.den ρ <;> first | exact ⟨_, _, _, _, rfl, rfl, rfl, rfl⟩ | (simp [AVal.denL, AVal.den, hc1, hk, ha, hb1] at hx)
  have hx' : AVal.denL ρ [.ptr l (.lit 0), .agg [.int .i64 c, .int .i64 k, .int .i64 a, .int .i64 b]] = some [.pointer (some ⟨bb, 0, none⟩), .agg #[.int .i64 c', .int .i64 k', .int .i64 a', .int .i64 b']] := denL2 (by simp only [AVal.den, hN]; rfl) (by simp only [AVal.den, AVal.denL, hc1, hk, ha, hb1, Option.map_some])
  obtain rfl : [.pointer (some ⟨bb, 0, none⟩), .agg #[.int .i64 c', .int .i64 k', .int .i64 a', .int .i64 b']] = xs := Option.some.inj (hx'.symm.trans hx)
  have hc' : (encL [encL Q, encL M, encL S] : Int) = (⟨Q, M, S⟩ : Mod).code := rfl
  have eo : (opT c k a b).den ρ = some (encL [c', k', a', b']) := opT_den hc1 hk ha hb1
  refine (apply11 (m := ⟨Q, M, S⟩) s (by have := ok.1; show Q.length ≤ 1000; omega) c' k' a' b').mono fun e w' ⟨v, he, hv, F', st, s'⟩ => ?_
  have e70 : (IT.fn 70 x (opT c k a b)).den ρ = some (applyO ⟨Q, M, S⟩ c' k' a' b').1.1 := by rw [fnD hcx eo, g70, hc']; simp only [apO_enc]
  have e71 : (IT.fn 71 x (opT c k a b)).den ρ = some (applyO ⟨Q, M, S⟩ c' k' a' b').1.2 := by rw [fnD hcx eo, g71, hc']; simp only [apO_enc]
  have e72 : (IT.fn 72 x (opT c k a b)).den ρ = some (applyO ⟨Q, M, S⟩ c' k' a' b').2.code := by rw [fnD hcx eo, g72, hc']; simp only [apO_enc]
  have hh' := upd rfl w' (.fn 72 x (opT c k a b)) _ F' st ⟨rfl, _, _, _, rfl, s', ModOk_applyO (m := ⟨Q, M, S⟩) ok⟩ e72
  exact ⟨v, he, _, _, _, _, ρ, List.mem_cons_self, Env.Le.refl ρ, by simp only [AVal.den, AVal.denL, e70, e71, Option.map_some]; rw [hv]; rfl, hh', hc⟩
end Lm
end Go.Proofs.Ytpgonpjakllnjaa
end
