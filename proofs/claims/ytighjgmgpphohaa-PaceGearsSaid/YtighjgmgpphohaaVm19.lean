/-
  A machine for abstract states over the model (part 19): what is known of functions with any results, by a run.
-/
import Derived.Test.YtighjgmgpphohaaVm18
namespace Go.Vm

/-- Every end is one of these. -/
def leafA (alts : List (AVal × Cs)) : Leaf → Bool
  | .ret v _ _ cs => alts.any (fun p => AVal.beq v p.1 && p.2.all fun q => dead ((q.1, !q.2) :: cs)) || dead cs
  | .pause S => dead S.cs
  | .stop cs => dead cs
theorem calls_alts {P : Program} (hc : NoCount P) {E : Exts} (hE : ExtOk P E) {L : Specs} (hL : ∀ p ∈ L, SpecOk P p.1 p.2) (hm : P.follows .mixedOrders = true) {n : Nat} {f : FuncId} {fn : Func} {c : Code} {args : List AVal} {xs : List Value} {cs : Cs} {ρ : Env} {w : World} {alts : List (AVal × Cs)}
    (hf : P.funcs[f]? = some fn) (hb : fn.body = some c) (hrun : (run P E (spOf L) n false f (entry fn c args .leaf 0 cs)).map (·.all (leafA alts)) = some true) (hx : AVal.denL ρ args = some xs) (hN : ∀ i, ρ.N i = none) (hcs : CRel ρ cs)
    (hA : ∀ u ∈ alts, (u.1.den ρ).isSome = true ∧ ∀ q ∈ u.2, (q.1.den ρ).isSome = true) :
    Calls P f xs.toArray w (fun e w' => ∃ v, e = .returned v ∧ Framed w w' ∧ ∃ u ∈ alts, u.1.den ρ = some v ∧ CRel ρ u.2) := by
  obtain ⟨ls, hls, hall⟩ := Option.map_eq_some_iff.1 hrun
  refine (run_calls (β := .plain w) hc hE (spOf_ok hL) hm hf hb hls hx (HRel.start w ρ hN) hcs (R := fun v w' => Framed w w' ∧ ∃ u ∈ alts, u.1.den ρ = some v ∧ CRel ρ u.2) (fun l hl => ?_)).mono fun e w' ⟨v, he, hfr, hu⟩ => ⟨v, he, hfr, hu⟩
  have h1 := List.all_eq_true.1 hall l hl
  cases l with
  | stop cs' => exact dead_ok h1
  | pause S => exact fun ρ' a' w' hle hr => (dead_ok (ρ := ρ) h1 ρ' hle hr.c).elim
  | ret v H nl cs' =>
    intro ρ' w' x hle hxd hr hc'
    refine ⟨Framed.of hr, ?_⟩
    simp only [leafA, Bool.or_eq_true] at h1
    rcases h1 with h1 | h1
    · obtain ⟨p, hp, hb⟩ := List.any_eq_true.1 h1
      simp only [Bool.and_eq_true] at hb
      obtain ⟨hs, hq⟩ := hA p hp
      have := AVal.beq_eq _ _ hb.1
      subst this
      obtain ⟨y, hy⟩ := Option.isSome_iff_exists.1 hs
      have := AVal.den_mono hle _ hy
      rw [hxd] at this; cases this
      refine ⟨p, hp, hy, fun q hqm => ?_⟩
      obtain ⟨b, hbq⟩ := Option.isSome_iff_exists.1 (hq q hqm)
      cases hbb : (b == q.2) with
      | true => simp at hbb; rw [hbq, hbb]
      | false =>
        have hb' : b = !q.2 := by cases b <;> cases hq2 : q.2 <;> simp_all
        have hdq := List.all_eq_true.1 hb.2 q hqm
        exact (dead_ok (ρ := ρ') hdq ρ' (Env.Le.refl ρ') (hc'.cons (by rw [BT.den_mono hle hbq, hb']))).elim
    · exact (dead_ok (ρ := ρ) h1 ρ' hle hc').elim

/-- An answer that hangs on nothing. -/
theorem spec_of_alts {P : Program} (hc : NoCount P) {E : Exts} (hE : ExtOk P E) {L : Specs} (hL : ∀ p ∈ L, SpecOk P p.1 p.2) (hm : P.follows .mixedOrders = true) {n : Nat} {f : FuncId} {fn : Func} {c : Code} {args : List AVal} {alts : List (AVal × Cs)} {F : SpecF}
    (hf : P.funcs[f]? = some fn) (hb : fn.body = some c) (hrun : (run P E (spOf L) n false f (entry fn c args .leaf 0 [])).map (·.all (leafA alts)) = some true)
    (hF : ∀ l al, F l = some al → l = args ∧ al = alts) (hA : ∀ ρ : Env, ∀ u ∈ alts, (u.1.den ρ).isSome = true ∧ ∀ q ∈ u.2, (q.1.den ρ).isSome = true)
    (hI : ∀ (ρ ρ' : Env), ρ'.I = ρ.I → ρ'.B = ρ.B → ρ'.S = ρ.S → ρ'.V = ρ.V → AVal.denL ρ' args = AVal.denL ρ args ∧ ∀ u ∈ alts, u.1.den ρ' = u.1.den ρ ∧ ∀ q ∈ u.2, q.1.den ρ' = q.1.den ρ) : SpecOk P f F := by
  intro l al ρ w xs h hx
  obtain ⟨rfl, rfl⟩ := hF l al h
  obtain ⟨h1, h2⟩ := hI { ρ with N := fun _ => none } ρ rfl rfl rfl rfl
  rw [h1] at hx
  refine (calls_alts (w := w) hc hE hL hm hf hb hrun hx (fun _ => rfl) (fun _ hp => by cases hp) (hA _)).mono fun e w' ⟨v, he, hfr, u, hu, hd, hcr⟩ => ⟨v, he, hfr, u, hu, ?_, fun q hq => ?_⟩
  · rw [(h2 u hu).1]; exact hd
  · rw [(h2 u hu).2 q hq]; exact hcr q hq

end Go.Vm
