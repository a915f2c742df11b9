/-
  LeastPlays: the reference's Take and Give, as the machine takes them.
-/
import Derived.Test.YtlcjgmehccopkaaLa5
namespace Go.Proofs.Ytlcjgmehccopkaa
open Go.Vm Go.Vm.Le
namespace La
open Lp

def lfF (c m : Int) : Int := lf m (decL c)
def restF (c n : Int) : Int := encL (rest n (decL c))
def restN (c n : Int) : Int := ((rest n (decL c)).length : Int)
def GW : GP := fun I B S V F => GLp I B S V F ∧ F 88 = hasF ∧ F 89 = lfF ∧ F 91 = restF ∧ F 92 = restN
theorem lf_nonneg (most : Int) (K : List Int) : 0 ≤ lf most K := by
  unfold lf
  cases h : (((List.range most.toNat).map fun (i : Nat) => (i : Int) + 1).find? fun x => decide (x ∉ K)) with
  | none => simp
  | some x =>
    obtain ⟨i, _, rfl⟩ := List.mem_map.1 (List.mem_of_find?_eq_some h)
    simp only [Option.getD_some]; omega
theorem rowC_ok {β : Base} {ρ : Env} {H : Heap} {nl : Nat} {w : World} {cs : Cs} {L : AVal} {c len : IT} {v : Value} (h : rowC H cs L = some (c, len)) (hh : HRel β ρ H nl w) (hc : CRel ρ cs) (hx : L.den ρ = some v) :
    ∃ y : Int, c.den ρ = some y ∧ len.den ρ = some ((decL y).length : Int) ∧ RowIn w v (decL y) ∧ (decL y).length ≤ 70000 := by
  unfold rowC at h
  split at h
  · cases h; cases hx
    exact ⟨0, rfl, by rw [decL_zero]; rfl, by rw [decL_zero]; exact .inl ⟨rfl, rfl⟩, by rw [decL_zero]; simp⟩
  · rename_i l len' cp
    split at h
    · rename_i c' el len2 cp' rw hg
      cases hb : (IT.beq len' len2 && sureC cs (.cmp .geq len' (.lit 1)) && sureC cs (.cmp .leq len' (.lit 70000))) with
      | false => rw [hb] at h; cases h
      | true =>
        rw [hb] at h; cases h
        simp only [Bool.and_eq_true] at hb
        obtain ⟨⟨h3, h4⟩, h5⟩ := hb
        obtain rfl := IT.beq_eq h3
        obtain ⟨k, hk, hlen, hne, hin⟩ := rowIn_of hh hg hx fun x hx => geqC h4 hc hx
        exact ⟨k, hk, hlen, hin, by have := leqC h5 hc hlen; omega⟩
    · cases h
  · cases h
section
variable {β : Base} (hG : ∀ I B S V F, β.G I B S V F → GW I B S V F)
include hG
theorem spTakeR_ok : SpGOk Try.prog β 14 spTakeR := by
  intro args H nl cs ls ρ w xs hr hx hh hc
  unfold spTakeR at hr
  split at hr
  rotate_left
  · cases hr
  rename_i m h L
  split at hr
  rotate_left
  · cases hr
  rename_i c len hrow
  cases hm : sureC cs (.cmp .leq m (.lit 65535)) with
  | false => rw [hm] at hr; cases hr
  | true =>
    rw [hm] at hr; simp only [cond_true] at hr
    simp only [AVal.denL] at hx
    cases ha : (AVal.agg [.int .i64 m, .int .i64 h, L]).den ρ with
    | none => rw [ha] at hx; cases hx
    | some xv =>
      rw [ha] at hx; cases hx
      obtain ⟨p, q, v, hp, hq, hv, rfl⟩ := agg3 ha
      obtain ⟨a, rfl, hm'⟩ := den_int hp
      obtain ⟨b, rfl, hh'⟩ := den_int hq
      obtain ⟨y, hy, hlen, hin, h70⟩ := rowC_ok hrow hh hc hv
      have e89 : (IT.fn 89 c m).den ρ = some (lf a (decL y)) := by
        rw [fnD hy hm', (hG _ _ _ _ _ hh.g).2.2.1]; rfl
      have h0 := lf_nonneg a (decL y)
      split at hr
      · rename_i hl
        have := lookB_ok hl hc
        rw [cmpD e89 (litD 0)] at this
        simp only [intCmp, Option.some.injEq, decide_eq_true_eq] at this
        cases hr
        refine (take14 (most := a) (h := b) hin h70 (leqC hm hc hm')).mono fun e w' ⟨x, he, ht⟩ => ?_
        rcases ht with ⟨h1, _⟩ | ⟨_, v', rfl, ho⟩
        · omega
        · have en := upD hlen (by omega)
          have ec : (IT.un 3 c (.fn 89 c m)).den ρ = some (encL (decL y ++ [lf a (decL y)])) := unD hy e89
          obtain ⟨ρ', hle, hd, hr'⟩ := row_inY hh ho en ec (decL_encL _)
          exact ⟨_, he, _, _, _, _, ρ', List.mem_cons_self, hle, tupD (aggD (AVal.den_mono hle _ hp) (by simp only [AVal.den, IT.den_mono hle (mxD hh' e89), Option.map_some]) hd) (by simp only [AVal.den, IT.den_mono hle e89, Option.map_some]), hr', hc.mono hle⟩
      · rename_i hl
        have := lookB_ok hl hc
        rw [cmpD e89 (litD 0)] at this
        simp only [intCmp, Option.some.injEq, decide_eq_false_iff_not] at this
        cases hr
        refine (take14 (most := a) (h := b) hin h70 (leqC hm hc hm')).mono fun e w' ⟨x, he, ht⟩ => ?_
        rcases ht with ⟨_, rfl, hf⟩ | ⟨h1, _⟩
        · exact ⟨_, he, _, _, _, _, ρ, List.mem_cons_self, Env.Le.refl ρ, tupD ha rfl, hh.framed hf, hc⟩
        · omega
      · cases hr
theorem spGiveR_ok : SpGOk Try.prog β 15 spGiveR := by
  intro args H nl cs ls ρ w xs hr hx hh hc
  unfold spGiveR at hr
  split at hr
  rotate_left
  · cases hr
  rename_i m h L n
  split at hr
  rotate_left
  · cases hr
  rename_i c len hrow
  obtain ⟨xv, zv, ha, hz, rfl⟩ := two hx
  obtain ⟨p, q, v, hp, hq, hv, rfl⟩ := agg3 ha
  obtain ⟨a, rfl, hm'⟩ := den_int hp
  obtain ⟨b, rfl, hh'⟩ := den_int hq
  obtain ⟨z, rfl, hz'⟩ := den_int hz
  obtain ⟨y, hy, hlen, hin, h70⟩ := rowC_ok hrow hh hc hv
  obtain ⟨_, g88, _, g91, g92⟩ := hG _ _ _ _ _ hh.g
  have e92 : (IT.fn 92 c n).den ρ = some ((rest z (decL y)).length : Int) := by
    rw [fnD hy hz', g92]; rfl
  have e91 : (IT.fn 91 c n).den ρ = some (encL (rest z (decL y))) := by
    rw [fnD hy hz', g91]; rfl
  have e88 : (IT.fn 88 c n).den ρ = some (if z ∈ decL y then 1 else 0) := by rw [fnD hy hz', g88]; rfl
  have eb : (BT.cmp .eql (.fn 88 c n) (.lit 1)).den ρ = some (decide (z ∈ decL y)) := by
    by_cases hz : z ∈ decL y
    · rw [if_pos hz] at e88; rw [eqlT e88 (litD 1) rfl, decide_eq_true hz]
    · rw [if_neg hz] at e88; rw [eqlF e88 (litD 1) (by omega), decide_eq_false hz]
  have ebv : (AVal.bool (.cmp .eql (.fn 88 c n) (.lit 1))).den ρ = some (.bool (decide (z ∈ decL y))) := by simp only [AVal.den, eb, Option.map_some]
  split at hr
  · rename_i hl
    have := lookB_ok hl hc
    rw [cmpD e92 (litD 0)] at this
    simp only [intCmp, Option.some.injEq, decide_eq_true_eq] at this
    cases hr
    refine (give15 (most := a) (h := b) (n := z) hin h70).mono fun e w' ⟨x, he, v', hxv, ht⟩ => ?_
    subst hxv
    rcases ht with ⟨h1, _⟩ | ⟨_, ho⟩
    · rw [h1] at this; simp at this
    · obtain ⟨ρ', hle, hd, hr'⟩ := row_inY hh ho e92 e91 (decL_encL _)
      exact ⟨_, he, _, _, _, _, ρ', List.mem_cons_self, hle, tupD (aggD (AVal.den_mono hle _ hp) (AVal.den_mono hle _ hq) hd) (AVal.den_mono hle _ ebv), hr', hc.mono hle⟩
  · rename_i hl
    have := lookB_ok hl hc
    rw [cmpD e92 (litD 0)] at this
    simp only [intCmp, Option.some.injEq, decide_eq_false_iff_not] at this
    cases hr
    refine (give15 (most := a) (h := b) (n := z) hin h70).mono fun e w' ⟨x, he, v', hxv, ht⟩ => ?_
    subst hxv
    rcases ht with ⟨h1, rfl, hf⟩ | ⟨h1, _⟩
    · exact ⟨_, he, _, _, _, _, ρ, List.mem_cons_self, Env.Le.refl ρ, tupD (aggD hp hq rfl) ebv, hh.framed hf, hc⟩
    · have := List.length_pos_iff.2 h1; omega
  · cases hr
end
theorem run6 : (run Try.prog [] noSp 40000 false 6 (entry Try.f6 (Try.f6.body.getD .ret) [] .leaf 0 [])).map (·.all (leafB (.lit true))) = some true := by kernel_rfl
theorem first6 (w : World) : Calls Try.prog 6 #[] w (fun e w' => e = .returned (.bool true) ∧ Framed w w') :=
  calls_true (β := .plain w) (ρ := envOf [] [] F0) noExt noSp_ok rfl Try.func6 rfl run6 (xs := []) rfl (HRel.start w _ fun _ => rfl) (fun _ h => by cases h)
theorem sp5_ok (w : World) : CallOk Try.prog ⟨w, [], GW⟩ sp5 := by
  refine spL_ok fun p hp => ?_
  simp only [List.mem_cons, List.not_mem_nil, or_false] at hp
  have hL : ∀ I B S V F, GW I B S V F → GLp I B S V F := fun _ _ _ _ _ h => h.1
  rcases hp with rfl | rfl | rfl | rfl | rfl | rfl | rfl | rfl | rfl | rfl | rfl
  · exact spTrue_ok first6
  · exact spNew_ok
  · exact spTake_ok hL
  · exact spUsed_ok hL
  · exact spLen_ok hL
  · exact spGive_ok hL
  · exact spHigh_ok hL
  · exact spClo_ok
  · exact spTakeR_ok fun _ _ _ _ _ h => h
  · exact spGiveR_ok fun _ _ _ _ _ h => h
  · exact sp16_ok fun _ _ _ _ _ h => h.2.1
end La
end Go.Proofs.Ytlcjgmehccopkaa
