/-
  Ops (4): what is known of Right and RightResp; OpsUnpack's walk.
-/
import Derived.Test.YtjjijagclgambaaGreatDoorOu2
namespace Go.Proofs.YtjjijagclgambaaGreatDoor
open Go.Vm

theorem tRight_lit {ρ ρ0 : Env} {c k a b : IT} {x y z u : Int} (hc : c.den ρ = some x) (hk : k.den ρ = some y) (ha : a.den ρ = some z) (hb : b.den ρ = some u) :
    (tRight c k a b).den ρ = (tRight (.lit x) (.lit y) (.lit z) (.lit u)).den ρ0 := by
  simp only [tRight, orT, eqT, inT, BT.den, IT.den, hc, hk, ha, hb]
theorem tResp_lit {ρ ρ0 : Env} {k v : IT} {x y : Int} (hk : k.den ρ = some x) (hv : v.den ρ = some y) :
    (tResp k v).den ρ = (tResp (.lit x) (.lit y)).den ρ0 := by
  simp only [tResp, orT, eqT, inT, BT.den, IT.den, hk, hv]
theorem tRight_some (x y z u : Int) : ∃ b, ∀ ρ : Env, (tRight (.lit x) (.lit y) (.lit z) (.lit u)).den ρ = some b := ⟨_, fun _ => rfl⟩
theorem tResp_some (x y : Int) : ∃ b, ∀ ρ : Env, (tResp (.lit x) (.lit y)).den ρ = some b := ⟨_, fun _ => rfl⟩

def spRight : SpecF := fun args => match args with
  | [.agg [.int .i64 c, .int .i64 k, .int .i64 a, .int .i64 b]] => some [(.bool (tRight c k a b), [])]
  | _ => none
def spResp : SpecF := fun args => match args with
  | [.agg [.int .i64 k, .int .i64 v]] => some [(.bool (tResp k v), [])]
  | _ => none
theorem den_ints4 {ρ : Env} {c k a b : IT} {xs : List Value} (h : AVal.denL ρ [.agg [.int .i64 c, .int .i64 k, .int .i64 a, .int .i64 b]] = some xs) :
    ∃ x y z u, c.den ρ = some x ∧ k.den ρ = some y ∧ a.den ρ = some z ∧ b.den ρ = some u ∧ xs = [.agg #[.int .i64 x, .int .i64 y, .int .i64 z, .int .i64 u]] := by
  cases hc : c.den ρ <;> cases hk : k.den ρ <;> cases ha : a.den ρ <;> cases hb : b.den ρ <;> simp [AVal.denL, AVal.den, hc, hk, ha, hb] at h
  exact ⟨_, _, _, _, rfl, rfl, rfl, rfl, h.symm⟩
theorem den_ints2 {ρ : Env} {k v : IT} {xs : List Value} (h : AVal.denL ρ [.agg [.int .i64 k, .int .i64 v]] = some xs) :
    ∃ x y, k.den ρ = some x ∧ v.den ρ = some y ∧ xs = [.agg #[.int .i64 x, .int .i64 y]] := by
  cases hk : k.den ρ <;> cases hv : v.den ρ <;> simp [AVal.denL, AVal.den, hk, hv] at h
  exact ⟨_, _, rfl, rfl, h.symm⟩

theorem spRight_ok {f : FuncId} {fn : Func} {c : Code} (hf : Tryz.prog.funcs[f]? = some fn) (hb : fn.body = some c)
    (hr : ∀ k, k < 15 → runR f fn c k = some true) (hn : ∀ low, runN f fn c low = some true) : SpecOk Tryz.prog f spRight := by
  intro args alts ρ w xs h hx
  unfold spRight at h
  split at h
  · cases h
    obtain ⟨x, y, z, u, h1, h2, h3, h4, rfl⟩ := den_ints4 hx
    obtain ⟨b, hb'⟩ := tRight_some x y z u
    have hwalk : Calls Tryz.prog f #[.agg #[.int .i64 x, .int .i64 y, .int .i64 z, .int .i64 u]] w (fun e w' => e = .returned (.bool b) ∧ Framed w w') := by
      by_cases hx : 0 ≤ x ∧ x < 15
      · obtain ⟨k, rfl⟩ : ∃ k : Nat, x = (k : Int) := ⟨x.toNat, by omega⟩
        exact calls_bool (w := w) (ρ := envOf [0, y, z, u] [] F0) noCount noExt noSpecs_ok follows hf hb (hr k (by omega)) rfl (fun _ => rfl) (fun _ h => by cases h) ((tRight_lit (ρ0 := ρ) rfl rfl rfl rfl).trans (hb' ρ))
      · refine calls_bool (w := w) (ρ := envOf [x, y, z, u] [] F0) noCount noExt noSpecs_ok follows hf hb (hn (decide (x < 0))) rfl (fun _ => rfl) (fun p hp => ?_) ((tRight_lit (ρ0 := ρ) rfl rfl rfl rfl).trans (hb' ρ))
        rcases List.mem_cons.1 hp with rfl | hp
        · rfl
        rcases List.mem_cons.1 hp with rfl | hp
        · show some (decide (x ≥ 15)) = some (!decide (x < 0))
          by_cases h0 : x < 0
          · have : ¬ x ≥ 15 := by omega
            simp [h0, this]
          · have : x ≥ 15 := by omega
            simp [h0, this]
        rcases List.mem_cons.1 hp with rfl | hp
        · show some (decide (x > 14)) = some (!decide (x < 0))
          by_cases h0 : x < 0
          · have : ¬ x > 14 := by omega
            simp [h0, this]
          · have : x > 14 := by omega
            simp [h0, this]
        cases hp
    refine hwalk.mono fun e' w' ⟨he, hfr⟩ => ⟨_, he, hfr, _, List.mem_cons_self, ?_, fun _ hp => by cases hp⟩
    simp only [AVal.den, (tRight_lit (ρ0 := ρ) h1 h2 h3 h4).trans (hb' ρ), Option.map_some]
  · cases h
theorem spResp_ok {f : FuncId} {fn : Func} {c : Code} (hf : Tryz.prog.funcs[f]? = some fn) (hb : fn.body = some c)
    (hr : (run Tryz.prog [] (spOf noSpecs) 4000 false f (entry fn c [respA] .leaf 0 [])).map (·.all (leafB (tResp (.var 0) (.var 1)))) = some true) : SpecOk Tryz.prog f spResp := by
  intro args alts ρ w xs h hx
  unfold spResp at h
  split at h
  · cases h
    obtain ⟨x, y, h1, h2, rfl⟩ := den_ints2 hx
    obtain ⟨b, hb'⟩ := tResp_some x y
    refine (calls_bool (w := w) (ρ := envOf [x, y] [] F0) noCount noExt noSpecs_ok follows hf hb hr rfl (fun _ => rfl) (fun _ h => by cases h)
      ((tResp_lit (ρ0 := ρ) rfl rfl).trans (hb' ρ))).mono fun e' w' ⟨he, hfr⟩ => ⟨_, he, hfr, _, List.mem_cons_self, ?_, fun _ hp => by cases hp⟩
    simp only [AVal.den, (tResp_lit (ρ0 := ρ) h1 h2).trans (hb' ρ), Option.map_some]
  · cases h

def specs05 : Specs := [(48, spRight), (56, spRight), (51, spResp), (59, spResp)]
theorem specs05_ok : ∀ p ∈ specs05, SpecOk Tryz.prog p.1 p.2 := by
  intro p hp
  rcases List.mem_cons.1 hp with rfl | hp
  · exact spRight_ok Tryz.func48 rfl run48_all run48_none
  rcases List.mem_cons.1 hp with rfl | hp
  · exact spRight_ok Tryz.func56 rfl run56_all run56_none
  rcases List.mem_cons.1 hp with rfl | hp
  · exact spResp_ok Tryz.func51 rfl run51
  rcases List.mem_cons.1 hp with rfl | hp
  · exact spResp_ok Tryz.func59 rfl run59
  cases hp

-- UNPACK
end Go.Proofs.YtjjijagclgambaaGreatDoor
