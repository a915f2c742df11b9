/-
  LinearModel (11): New, Apply and Same over models as the machine takes them.
-/
import Derived.Test.YtpgonpjakllnjaaLm10
namespace Go.Proofs.Ytpgonpjakllnjaa
open Go.Vm Go.Vm.Md
namespace Lm

def bigM (H : Heap) (l : Nat) : Option IT := match H.get l with
  | some ⟨.big 0 c, true⟩ => some c
  | _ => none
theorem bigM_get {H : Heap} {l : Nat} {c : IT} (h : bigM H l = some c) : H.get l = some ⟨.big 0 c, true⟩ := by
  unfold bigM at h
  split at h
  · rename_i hg; cases h; exact hg
  · cases h
def opT (c k a b : IT) : IT := .un 3 (.un 3 (.un 3 (.un 3 (.lit 0) c) k) a) b
theorem snoc_den {ρ : Env} {t u : IT} {L : List Int} {x : Int} (h : t.den ρ = some (encL L)) (g : u.den ρ = some x) : (IT.un 3 t u).den ρ = some (encL (L ++ [x])) := by
  rw [unD h g]
  show some (encL (decL (encL L) ++ [x])) = _
  rw [decL_encL]
theorem nil_den {ρ : Env} : (IT.lit 0).den ρ = some (encL []) := rfl
theorem opT_den {ρ : Env} {c k a b : IT} {x y z u : Int} (h1 : c.den ρ = some x) (h2 : k.den ρ = some y) (h3 : a.den ρ = some z) (h4 : b.den ρ = some u) : (opT c k a b).den ρ = some (encL [x, y, z, u]) :=
  snoc_den (L := [x, y, z]) (snoc_den (L := [x, y]) (snoc_den (L := [x]) (snoc_den (L := []) nil_den h1) h2) h3) h4
theorem apO_enc (m : Mod) (c k a b : Int) : apO m.code (encL [c, k, a, b]) = applyO m c k a b := by
  unfold apO
  rw [Mod.of_code, decL_encL]; rfl
def m0T : IT := .un 3 (.un 3 (.un 3 (.lit 0) (.lit 0)) (.lit 0)) (.lit 0)
theorem m0T_den {ρ : Env} : m0T.den ρ = some mod0.code :=
  snoc_den (L := [encL [], encL []]) (snoc_den (L := [encL []]) (snoc_den (L := []) nil_den nil_den) nil_den) nil_den
def spNew : SpG := fun args H nl cs => match args with
  | [] => some [.ret (.ptr nl (.lit 0)) (H.set nl ⟨.big 0 m0T, true⟩) (nl + 1) cs]
  | _ => none
def spApply : SpG := fun args H nl cs => match args with
  | [.ptr l (.lit (.ofNat 0)), .agg [.int .i64 c, .int .i64 k, .int .i64 a, .int .i64 b]] => match bigM H l with
    | some x => some [.ret (.agg [.int .i64 (.fn 70 x (opT c k a b)), .int .i64 (.fn 71 x (opT c k a b))]) (H.set l ⟨.big 0 (.fn 72 x (opT c k a b)), true⟩) nl cs]
    | none => none
  | _ => none
def spSame : SpG := fun args H nl cs => match args with
  | [.ptr l (.lit (.ofNat 0)), .ptr l' (.lit (.ofNat 0))] => match bigM H l, bigM H l' with
    | some x, some x' => match lookB cs (.cmp .eql x x') with
      | some true => some [.ret (.bool (.lit true)) H nl cs]
      | _ => none
    | _, _ => none
  | _ => none
theorem spNew_ok {β : Base} : SpGOk Try.prog β 10 spNew := by
  intro args H nl cs ls ρ w xs hr hx hh hc
  unfold spNew at hr
  split at hr
  rotate_left
  · cases hr
  cases hr
  cases hx
  refine (new10 w).mono fun e w' ⟨b', he, ⟨F', s', hF'⟩, hf⟩ => ?_
  have hh' := hh.bigNew hf (k := 0) (b := b') (c := m0T) (F := F') ⟨rfl, [], [], [], rfl, s', ModOk0⟩ hF' m0T_den
  have hle := Env.le_put (b := b') (hh.fresh nl (Nat.le_refl _))
  exact ⟨_, he, _, _, _, _, ρ.put nl b', List.mem_cons_self, hle, by simp only [AVal.den, Env.put_same]; rfl, hh', hc.mono hle⟩
theorem ptr_of {ρ : Env} {l b : Nat} {v : Value} (h : (AVal.ptr l (.lit 0)).den ρ = some v) (hN : ρ.N l = some b) : v = .pointer (some ⟨b, 0, none⟩) := by
  simp only [AVal.den, hN] at h
  exact (Option.some.inj h).symm
theorem spApply_ok {β : Base} (hG : ∀ I B S V F, β.G I B S V F → GW I B S V F) : SpGOk Try.prog β 11 spApply := by
  intro args H nl cs ls ρ w xs hr hx hh hc
  unfold spApply at hr
  split at hr
  rotate_left
  · cases hr
  rename_i l c k a b
  split at hr
  rotate_left
  · cases hr
  rename_i x hb
  cases hr
  obtain ⟨bb, y, F, hN, hcx, ⟨_, Q, M, S, rfl, s, ok⟩, upd⟩ := hh.bigAt (bigM_get hb)
  obtain ⟨_, _, _, _, g70, g71, g72⟩ := hG _ _ _ _ _ hh.g
  have hx : AVal.denL ρ [.ptr l (.lit 0), .agg [.int .i64 c, .int .i64 k, .int .i64 a, .int .i64 b]] = some xs := hx
  obtain ⟨c', k', a', b', hc1, hk, ha, hb1⟩ : ∃ c' k' a' b', c.den ρ = some c' ∧ k.den ρ = some k' ∧ a.den ρ = some a' ∧ b.den ρ = some b' := by
    cases hc1 : c.den ρ <;> cases hk : k.den ρ <;> cases ha : a.den ρ <;> cases hb1 : b.den ρ <;> first | exact ⟨_, _, _, _, rfl, rfl, rfl, rfl⟩ | (simp [AVal.denL, AVal.den, hc1, hk, ha, hb1] at hx)
  have hx' : AVal.denL ρ [.ptr l (.lit 0), .agg [.int .i64 c, .int .i64 k, .int .i64 a, .int .i64 b]] = some [.pointer (some ⟨bb, 0, none⟩), .agg #[.int .i64 c', .int .i64 k', .int .i64 a', .int .i64 b']] := denL2 (by simp only [AVal.den, hN]; rfl) (by simp only [AVal.den, AVal.denL, hc1, hk, ha, hb1, Option.map_some])
  obtain rfl : [.pointer (some ⟨bb, 0, none⟩), .agg #[.int .i64 c', .int .i64 k', .int .i64 a', .int .i64 b']] = xs := Option.some.inj (hx'.symm.trans hx)
  have hc' : (encL [encL Q, encL M, encL S] : Int) = (⟨Q, M, S⟩ : Mod).code := rfl
  have eo : (opT c k a b).den ρ = some (encL [c', k', a', b']) := opT_den hc1 hk ha hb1
  refine (apply11 (m := ⟨Q, M, S⟩) s (by have := ok.1; show Q.length ≤ 1000; omega) c' k' a' b').mono fun e w' ⟨v, he, hv, F', st, s'⟩ => ?_
  have e70 : (IT.fn 70 x (opT c k a b)).den ρ = some (applyO ⟨Q, M, S⟩ c' k' a' b').1.1 := by rw [fnD hcx eo, g70, hc']; simp only [apO_enc]
  have e71 : (IT.fn 71 x (opT c k a b)).den ρ = some (applyO ⟨Q, M, S⟩ c' k' a' b').1.2 := by rw [fnD hcx eo, g71, hc']; simp only [apO_enc]
  have e72 : (IT.fn 72 x (opT c k a b)).den ρ = some (applyO ⟨Q, M, S⟩ c' k' a' b').2.code := by rw [fnD hcx eo, g72, hc']; simp only [apO_enc]
  have hh' := upd rfl w' (.fn 72 x (opT c k a b)) _ F' st ⟨rfl, _, _, _, rfl, s', ModOk_applyO (m := ⟨Q, M, S⟩) ok⟩ e72
  exact ⟨v, he, _, _, _, _, ρ, List.mem_cons_self, Env.Le.refl ρ, by simp only [AVal.den, AVal.denL, e70, e71, Option.map_some]; rw [hv]; rfl, hh', hc⟩
theorem spSame_ok {β : Base} : SpGOk Try.prog β 14 spSame := by
  intro args H nl cs ls ρ w xs hr hx hh hc
  unfold spSame at hr
  split at hr
  rotate_left
  · cases hr
  rename_i l l'
  split at hr
  rotate_left
  · cases hr
  rename_i x x' hb hb'
  split at hr
  rotate_left
  · cases hr
  rename_i hl
  cases hr
  obtain ⟨b, y, F, hN, hcx, ⟨_, Q, M, S, rfl, s, ok⟩, _⟩ := hh.bigAt (bigM_get hb)
  obtain ⟨b', y', F', hN', hcx', ⟨_, Q', M', S', rfl, s', _⟩, _⟩ := hh.bigAt (bigM_get hb')
  have he := lookB_ok hl hc
  rw [cmpD hcx hcx'] at he
  simp only [intCmp, Option.some.injEq, beq_iff_eq] at he
  have h3 := congrArg decL he
  rw [decL_encL, decL_encL] at h3
  injection h3 with h4 h5
  injection h5 with h5 h6
  injection h6 with h6 _
  obtain rfl : Q = Q' := by have := congrArg decL h4; rwa [decL_encL, decL_encL] at this
  obtain rfl : M = M' := by have := congrArg decL h5; rwa [decL_encL, decL_encL] at this
  obtain rfl : S = S' := by have := congrArg decL h6; rwa [decL_encL, decL_encL] at this
  have hx' : AVal.denL ρ [.ptr l (.lit 0), .ptr l' (.lit 0)] = some [.pointer (some ⟨b, 0, none⟩), .pointer (some ⟨b', 0, none⟩)] := denL2 (by simp only [AVal.den, hN]; rfl) (by simp only [AVal.den, hN']; rfl)
  obtain rfl : [.pointer (some ⟨b, 0, none⟩), .pointer (some ⟨b', 0, none⟩)] = xs := Option.some.inj (hx'.symm.trans hx)
  exact spV_ok (same14 s s' ok) rfl hh hc
end Lm
end Go.Proofs.Ytpgonpjakllnjaa
