/-
  Texts (6): operations' and responses' texts, known to the machine.
-/
import Derived.Test.YtjjijagclgambaaGreatDoorTx5
namespace Go.Proofs.YtjjijagclgambaaGreatDoor
open Go.Vm
namespace Txt

theorem opText_len {c : Nat} {k a b : Int} (hk : (Lib.itoa k).length ≤ 20) (ha : (Lib.itoa a).length ≤ 20) (hb : (Lib.itoa b).length ≤ 20) : (opText c k a b).length ≤ 100 := by
  unfold opText
  split <;> simp only [List.length_append, List.length_cons, List.length_nil] <;> omega
theorem opTextR_len {c k a b : Int} : (opTextR c k a b).length ≤ 100 := by
  unfold opTextR
  split
  · rename_i h
    simp only [rightB, decide_eq_true_eq] at h
    exact opText_len (itoa_len (by omega) (by omega)) (itoa_len (by omega) (by omega)) (itoa_len (by omega) (by omega))
  · simp
theorem respTextR_len {k v : Int} : (respTextR k v).length ≤ 100 := by
  unfold respTextR
  split
  · rename_i h
    simp only [respB, decide_eq_true_eq] at h
    have := itoa_len (n := v) (by omega) (by omega)
    unfold respText
    split <;> simp only [List.length_append, List.length_cons, List.length_nil] <;> omega
  · simp
def prP (a b : PT) : PT := .fn 9 a b
def allR (l : List IT) : Bool := l.all rangeT
def spOpT : SpG := fun args H nl cs => match args with
  | [.agg [.int .i64 c, .int .i64 k, .int .i64 a, .int .i64 b]] => match c.toP, k.toP, a.toP, b.toP with
    | some c', some k', some a', some b' => cond (allR [c, k, a, b]) (some [.ret (.str (.fn 3 (prP c' k') (prP a' b'))) H nl cs]) none
    | _, _, _, _ => none
  | _ => none
def spRespT : SpG := fun args H nl cs => match args with
  | [.agg [.int .i64 k, .int .i64 v]] => match k.toP, v.toP with
    | some k', some v' => cond (allR [k, v]) (some [.ret (.str (.fn 4 k' v')) H nl cs]) none
    | _, _ => none
  | _ => none
/-- Texts, ints, pairs: under their names. -/
def GT : GP := fun I B S V F => (SxOk S ∧ RangeG I B S V F) ∧ ∀ x y, F 9 x y = prI x y
theorem op_den {ρ : Env} (hS : SxOk ρ.S) (hF : ∀ x y, ρ.F 9 x y = prI x y) (c k a b : PT) : (ST.fn 3 (prP c k) (prP a b)).den ρ = ⟨(opTextR (c.den ρ) (k.den ρ) (a.den ρ) (b.den ρ)).toArray⟩ := by
  have h1 : (prP c k).den ρ = prI (c.den ρ) (k.den ρ) := by simp only [prP, PT.den, hF]
  have h2 : (prP a b).den ρ = prI (a.den ρ) (b.den ρ) := by simp only [prP, PT.den, hF]
  have e : textF 3 (prI (c.den ρ) (k.den ρ)) (prI (a.den ρ) (b.den ρ)) = opTextR (c.den ρ) (k.den ρ) (a.den ρ) (b.den ρ) := by
    show textG 3 _ _ = _
    simp only [textG, if_true, unP_prI]
  have h := fn_den hS (k := 3) h1 h2 (by rw [e]; have := opTextR_len (c := c.den ρ) (k := k.den ρ) (a := a.den ρ) (b := b.den ρ); omega)
  rw [h, e]
theorem resp_den {ρ : Env} (hS : SxOk ρ.S) (k v : PT) : (ST.fn 4 k v).den ρ = ⟨(respTextR (k.den ρ) (v.den ρ)).toArray⟩ := by
  have e : textF 4 (k.den ρ) (v.den ρ) = respTextR (k.den ρ) (v.den ρ) := rfl
  have h := fn_den hS (k := 4) (p := k) (q := v) rfl rfl (by rw [e]; have := respTextR_len (k := k.den ρ) (v := v.den ρ); omega)
  rw [h, e]
theorem spOpT_ok {β : Base} {g : FuncId} (hG : ∀ I B S V F, β.G I B S V F → GT I B S V F)
    (hg : ∀ {ρ : Env} {H : Heap} {nl : Nat} {w : World}, HRel β ρ H nl w → ∀ c k a b : Int, (-9223372036854775808 ≤ c ∧ c < 9223372036854775808) → (-9223372036854775808 ≤ k ∧ k < 9223372036854775808) → (-9223372036854775808 ≤ a ∧ a < 9223372036854775808) → (-9223372036854775808 ≤ b ∧ b < 9223372036854775808) →
      Calls Tryz.prog g #[opV4 c k a b] w (fun e w' => e = .returned (.string ⟨(opTextR c k a b).toArray⟩) ∧ Framed w w')) : SpGOk Tryz.prog β g spOpT := by
  intro args H nl cs ls ρ w xs hr hx hh hc
  unfold spOpT at hr
  split at hr
  rotate_left
  · cases hr
  rename_i c k a b
  split at hr
  rotate_left
  · cases hr
  rename_i c' k' a' b' h1 h2 h3 h4
  cases hb : allR [c, k, a, b] with
  | false => rw [hb] at hr; cases hr
  | true =>
    rw [hb] at hr
    simp only [cond_true, Option.some.injEq] at hr
    subst hr
    simp only [allR, List.all_cons, List.all_nil, Bool.and_true, Bool.and_eq_true] at hb
    have d1 := IT.toP_den (ρ := ρ) h1
    have d2 := IT.toP_den (ρ := ρ) h2
    have d3 := IT.toP_den (ρ := ρ) h3
    have d4 := IT.toP_den (ρ := ρ) h4
    simp only [AVal.denL, AVal.den, d1, d2, d3, d4, Option.map_some, Option.some.injEq] at hx
    subst hx
    obtain ⟨⟨hS, hR⟩, hF⟩ := hG _ _ _ _ _ hh.g
    exact spV_ok (hg hh _ _ _ _ (rangeT_ok hb.1 hR d1) (rangeT_ok hb.2.1 hR d2) (rangeT_ok hb.2.2.1 hR d3) (rangeT_ok hb.2.2.2 hR d4)) (by simp only [AVal.den, op_den hS hF]) hh hc
theorem spRespT_ok {β : Base} {g : FuncId} (hG : ∀ I B S V F, β.G I B S V F → GT I B S V F)
    (hg : ∀ {ρ : Env} {H : Heap} {nl : Nat} {w : World}, HRel β ρ H nl w → ∀ k v : Int, (-9223372036854775808 ≤ k ∧ k < 9223372036854775808) → (-9223372036854775808 ≤ v ∧ v < 9223372036854775808) →
      Calls Tryz.prog g #[rsV k v] w (fun e w' => e = .returned (.string ⟨(respTextR k v).toArray⟩) ∧ Framed w w')) : SpGOk Tryz.prog β g spRespT := by
  intro args H nl cs ls ρ w xs hr hx hh hc
  unfold spRespT at hr
  split at hr
  rotate_left
  · cases hr
  rename_i k v
  split at hr
  rotate_left
  · cases hr
  rename_i k' v' h1 h2
  cases hb : allR [k, v] with
  | false => rw [hb] at hr; cases hr
  | true =>
    rw [hb] at hr
    simp only [cond_true, Option.some.injEq] at hr
    subst hr
    simp only [allR, List.all_cons, List.all_nil, Bool.and_true, Bool.and_eq_true] at hb
    have d1 := IT.toP_den (ρ := ρ) h1
    have d2 := IT.toP_den (ρ := ρ) h2
    simp only [AVal.denL, AVal.den, d1, d2, Option.map_some, Option.some.injEq] at hx
    subst hx
    obtain ⟨⟨hS, hR⟩, hF⟩ := hG _ _ _ _ _ hh.g
    exact spV_ok (hg hh _ _ (rangeT_ok hb.1 hR d1) (rangeT_ok hb.2 hR d2)) (by simp only [AVal.den, resp_den hS]) hh hc
end Txt
end Go.Proofs.YtjjijagclgambaaGreatDoor
