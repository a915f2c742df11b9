/-
  Ranks (11): specs of the reference's Rising and Class.
-/
import Derived.Test.YtglghnfbkiondaaDoorRk7
import Derived.Test.YtglghnfbkiondaaDoorRk10
namespace Go.Proofs.YtglghnfbkiondaaDoor
open Go.Vm Go.Vm.Rk
namespace Rk

/-- The class of a number has a name, too. -/
def GT : GP := fun I B S V F => GL I B S V F ∧ F 49 = fun x _ => (clsOf x : Int)
def FT : Nat → Int → Int → Int := fun k => if k = 49 then (fun x _ => (clsOf x : Int)) else FR k
theorem GT_at {L : List Int} (hR : ∀ v ∈ L, Ran v) (b o q : Nat) : GP.at GT (envR L b o q FT) := ⟨⟨⟨rfl, rfl, rfl, rfl, rfl, rfl, rfl, rfl, rfl⟩, by
  show ∀ v ∈ decL (encL L), Ran v
  rw [decL_encL]; exact hR⟩, rfl⟩
def spRis : SpG := fun args H nl cs => match args with
  | [.slice l off n _] => match H.get l with
    | some ⟨.arr (.code ks c) ks' _ n0 off0 _, _⟩ => cond (okRow cs ks ks' n n0 off off0)
      (some [.ret (.slice (nl + 1) (.lit 0) n (.nv nl)) (H.set (nl + 1) ⟨.arr (.code [.i64] (fnT 40 c)) [.i64] 3 n (.lit 0) (some (.nv nl)), true⟩) (nl + 2) cs]) none
    | _ => none
  | _ => none
theorem spRis_ok {β : Base} (hG : ∀ I B S V F, β.G I B S V F → GR I B S V F) : SpGOk Tryd.prog β 21 spRis := by
  intro args H nl cs ls ρ w xs hr hx hh hc
  unfold spRis at hr
  split at hr
  rotate_left
  · cases hr
  rename_i l off n q
  split at hr
  rotate_left
  · cases hr
  rename_i ks c ks' el n0 off0 cp rw hg
  cases hb : okRow cs ks ks' n n0 off off0 with
  | false => rw [hb] at hr; cases hr
  | true =>
    rw [hb] at hr; cases hr
    obtain ⟨rfl, rfl, rfl, rfl⟩ := okRow_eq hb
    cases hs : (AVal.slice l off n q).den ρ with
    | none => simp only [AVal.denL, hs] at hx; cases hx
    | some sv =>
      obtain ⟨b, o, cap, xv, rfl, hcd, hn, hi⟩ := intsAt_of hh hg hs
      obtain rfl := Option.some.inj ((denL1 hs).symm.trans hx)
      obtain ⟨_, _, _, _, h1, h3⟩ := okRow_ok hb hc hn
      obtain ⟨g40, _⟩ := hG _ _ _ _ _ hh.g
      have d6 : (fnT 40 c).den ρ = some (encL (sortL (decL xv))) := by rw [fnT, fnD hcd (litD 0), g40]
      refine (rising21 (q := cap) hi h1 h3).mono fun e w' ⟨v, he, ro⟩ => ?_
      obtain ⟨ρ', hle, hd', hr'⟩ := row_in hh ro hn d6
      exact ⟨v, he, _, _, _, _, ρ', List.mem_cons_self, hle, hd', hr', hc.mono hle⟩
def spCl : SpG := fun args H nl cs => match args with
  | [.int .i64 (.un 0 (.var 5) t)] => some [.ret (.int .i64 (fnT 49 (.un 0 (.var 5) t))) H nl cs]
  | _ => none
theorem spCl_ok {β : Base} (hG : ∀ I B S V F, β.G I B S V F → GT I B S V F) : SpGOk Tryd.prog β 11 spCl := by
  intro args H nl cs ls ρ w xs hr hx hh hc
  unfold spCl at hr
  split at hr
  rotate_left
  · cases hr
  rename_i t
  cases hr
  obtain ⟨⟨_, hR⟩, g49⟩ := hG _ _ _ _ _ hh.g
  cases ht : t.den ρ with
  | none => simp only [AVal.denL, AVal.den, IT.den, ht, Option.map_none] at hx; cases hx
  | some z =>
    have e5 : (IT.var 5).den ρ = some (ρ.I 5) := rfl
    have e : (IT.un 0 (.var 5) t).den ρ = some ((decL (ρ.I 5)).getD z.toNat 0) := (unD e5 ht).trans rfl
    have hx' : AVal.denL ρ [.int .i64 (.un 0 (.var 5) t)] = some [.int .i64 ((decL (ρ.I 5)).getD z.toNat 0)] := denL1 (by simp only [AVal.den, e, Option.map_some])
    obtain rfl : [.int .i64 ((decL (ρ.I 5)).getD z.toNat 0)] = xs := Option.some.inj (hx'.symm.trans hx)
    have hr : Ran ((decL (ρ.I 5)).getD z.toNat 0) := by
      rcases Nat.lt_or_ge z.toNat (decL (ρ.I 5)).length with h | h
      · exact hR _ (getD_mem h)
      · rw [List.getD_eq_getElem?_getD, List.getElem?_eq_none h]; exact ⟨by decide, by decide⟩
    have d : (fnT 49 (.un 0 (.var 5) t)).den ρ = some (clsOf ((decL (ρ.I 5)).getD z.toNat 0) : Int) := by rw [fnT, fnD e (litD 0), g49]
    exact spV_ok (class11 w hr.1 hr.2) (by simp only [AVal.den, d, Option.map_some]) hh hc
end Rk
end Go.Proofs.YtglghnfbkiondaaDoor
