/-
  Ops (4): what is known of Right and RightResp; OpsUnpack's walk.
-/
import Derived.Test.YtagdcclpibjfoaaDoorOu3
namespace Go.Proofs.YtagdcclpibjfoaaDoor
open Go.Vm

theorem tRight_lit {ρ ρ0 : Env} {c k a b : IT} {x y z u : Int} (hc : c.den ρ = some x) (hk : k.den ρ = some y) (ha : a.den ρ = some z) (hb : b.den ρ = some u) :
    (tRight c k a b).den ρ = (tRight (.lit x) (.lit y) (.lit z) (.lit u)).den ρ0 := by
  simp only [tRight, orT, eqT, inT, BT.den, IT.den, hc, hk, ha, hb]
theorem tResp_lit {ρ ρ0 : Env} {k v : IT} {x y : Int} (hk : k.den ρ = some x) (hv : v.den ρ = some y) :
    (tResp k v).den ρ = (tResp (.lit x) (.lit y)).den ρ0 := by
  simp only [tResp, orT, eqT, inT, BT.den, IT.den, hk, hv]
theorem tRight_some (x y z u : Int) : ∃ b, ∀ ρ : Env, (tRight (.lit x) (.lit y) (.lit z) (.lit u)).den ρ = some b := ⟨_, fun _ => rfl⟩
theorem tResp_some (x y : Int) : ∃ b, ∀ ρ : Env, (tResp (.lit x) (.lit y)).den ρ = some b := ⟨_, fun _ => rfl⟩
def spRight : SpecF := fun args => match args with
  | [.agg [.int .i64 c, .int .i64 k, .int .i64 a, .int .i64 b]] => some [(.bool (tRight c k a b), [])]
  | _ => none
def spResp : SpecF := fun args => match args with
  | [.agg [.int .i64 k, .int .i64 v]] => some [(.bool (tResp k v), [])]
  | _ => none
theorem den_ints4 {ρ : Env} {c k a b : IT} {xs : List Value} (h : AVal.denL ρ [.agg [.int .i64 c, .int .i64 k, .int .i64 a, .int .i64 b]] = some xs) :
    ∃ x y z u, c.den ρ = some x ∧ k.den ρ = some y ∧ a.den ρ = some z ∧ b.den ρ = some u ∧ xs = [.agg #[.int .i64 x, .int .i64 y, .int .i64 z, .int .i64 u]] := by
  cases hc : c.den ρ <;> cases hk : k.den ρ <;> cases ha : a.den ρ <;> cases hb : b.den ρ <;> simp [AVal.denL, AVal.den, hc, hk, ha, hb] at h
  exact ⟨_, _, _, _, rfl, rfl, rfl, rfl, h.symm⟩
theorem den_ints2 {ρ : Env} {k v : IT} {xs : List Value} (h : AVal.denL ρ [.agg [.int .i64 k, .int .i64 v]] = some xs) :
    ∃ x y, k.den ρ = some x ∧ v.den ρ = some y ∧ xs = [.agg #[.int .i64 x, .int .i64 y]] := by
  cases hk : k.den ρ <;> cases hv : v.den ρ <;> simp [AVal.denL, AVal.den, hk, hv] at h
  exact ⟨_, _, rfl, rfl, h.symm⟩
theorem spRight_ok {f : FuncId} {fn : Func} {c : Code} (hf : Tryd.prog.funcs[f]? = some fn) (hb : fn.body = some c)
    (hr : ∀ k, k < 15 → runR f fn c k = some true) (hn : ∀ low, runN f fn c low = some true) : SpecOk Tryd.prog f spRight := by
  intro args alts ρ w xs h hx
  unfold spRight at h
  split at h
  · cases h
    obtain ⟨x, y, z, u, h1, h2, h3, h4, rfl⟩ := den_ints4 hx
    obtain ⟨b, hb'⟩ := tRight_some x y z u
    have hwalk : Calls Tryd.prog f #[.agg #[.int .i64 x, .int .i64 y, .int .i64 z, .int .i64 u]] w (fun e w' => e = .returned (.bool b) ∧ Framed w w') := by
      by_cases hx : 0 ≤ x ∧ x < 15
      · obtain ⟨k, rfl⟩ : ∃ k : Nat, x = (k : Int) := ⟨x.toNat, by omega⟩
        exact calls_bool (w := w) (ρ := envOf [0, y, z, u] [] F0) noCount exts05_ok noSpecs_ok follows hf hb (hr k (by omega)) rfl (fun _ => rfl) (fun _ h => by cases h) ((tRight_lit (ρ0 := ρ) rfl rfl rfl rfl).trans (hb' ρ))
      · refine calls_bool (w := w) (ρ := envOf [x, y, z, u] [] F0) noCount exts05_ok noSpecs_ok follows hf hb (hn (decide (x < 0))) rfl (fun _ => rfl) (fun p hp => ?_) ((tRight_lit (ρ0 := ρ) rfl rfl rfl rfl).trans (hb' ρ))
        rcases List.mem_cons.1 hp with rfl | hp
        · rfl
        rcases List.mem_cons.1 hp with rfl | hp
        · show some (decide (x ≥ 15)) = some (!decide (x < 0))
          by_cases h0 : x < 0
          · have : ¬ x ≥ 15 := by omega
            simp [h0, this]
          · have : x ≥ 15 := by omega
            simp [h0, this]
        rcases List.mem_cons.1 hp with rfl | hp
        · show some (decide (x > 14)) = some (!decide (x < 0))
          by_cases h0 : x < 0
          · have : ¬ x > 14 := by omega
            simp [h0, this]
          · have : x > 14 := by omega
            simp [h0, this]
        cases hp
    refine hwalk.mono fun e' w' ⟨he, hfr⟩ => ⟨_, he, hfr, _, List.mem_cons_self, ?_, fun _ hp => by cases hp⟩
    simp only [AVal.den, (tRight_lit (ρ0 := ρ) h1 h2 h3 h4).trans (hb' ρ), Option.map_some]
  · cases h
theorem spResp_ok {f : FuncId} {fn : Func} {c : Code} (hf : Tryd.prog.funcs[f]? = some fn) (hb : fn.body = some c)
    (hr : (run Tryd.prog exts05 (spOf noSpecs) 4000 false f (entry fn c [respA] .leaf 0 [])).map (·.all (leafB (tResp (.var 0) (.var 1)))) = some true) : SpecOk Tryd.prog f spResp := by
  intro args alts ρ w xs h hx
  unfold spResp at h
  split at h
  · cases h
    obtain ⟨x, y, h1, h2, rfl⟩ := den_ints2 hx
    obtain ⟨b, hb'⟩ := tResp_some x y
    refine (calls_bool (w := w) (ρ := envOf [x, y] [] F0) noCount exts05_ok noSpecs_ok follows hf hb hr rfl (fun _ => rfl) (fun _ h => by cases h)
      ((tResp_lit (ρ0 := ρ) rfl rfl).trans (hb' ρ))).mono fun e' w' ⟨he, hfr⟩ => ⟨_, he, hfr, _, List.mem_cons_self, ?_, fun _ hp => by cases hp⟩
    simp only [AVal.den, (tResp_lit (ρ0 := ρ) h1 h2).trans (hb' ρ), Option.map_some]
  · cases h
def spFirst05 : SpecF := fun args => match args with
  | [] => some [(.bool (.lit true), [])]
  | _ => none
theorem spFirst05_ok : SpecOk Tryd.prog 42 spFirst05 := by
  intro args alts ρ w xs h hx
  unfold spFirst05 at h
  split at h
  · cases h; cases hx
    exact (first05 w).mono fun e w' ⟨he, hf⟩ => ⟨_, he, hf, _, List.mem_cons_self, rfl, fun _ hp => by cases hp⟩
  · cases h
def specs05 : Specs := [(42, spFirst05), (45, spRight), (36, spRight), (46, spResp), (47, spResp)]
theorem specs05_ok : ∀ p ∈ specs05, SpecOk Tryd.prog p.1 p.2 := by
  intro p hp
  rcases List.mem_cons.1 hp with rfl | hp
  · exact spFirst05_ok
  rcases List.mem_cons.1 hp with rfl | hp
  · exact spRight_ok Tryd.func45 rfl run45_all run45_none
  rcases List.mem_cons.1 hp with rfl | hp
  · exact spRight_ok Tryd.func36 rfl run36_all run36_none
  rcases List.mem_cons.1 hp with rfl | hp
  · exact spResp_ok Tryd.func46 rfl run46
  rcases List.mem_cons.1 hp with rfl | hp
  · exact spResp_ok Tryd.func47 rfl run47
  cases hp
-- UNPACK
def nT : IT := .var 0
def shrT (c : Int) : IT := .bin .shr .u64 nT (.lit c)
def quoT (c : Int) : IT := .bin .quo .u64 nT (.lit c)
def andT (t : IT) (c : Int) : IT := .bin .and .u64 t (.lit c)
def remT (t : IT) (c : Int) : IT := .bin .rem .u64 t (.lit c)
def sameT (a b : IT) : BT := .cmp .eql (.cv .i64 a) (.cv .i64 b)
/-- What is known of the parts of a number; is it too great? Is it a right operation, a right response? -/
def unpackCs (g r s : Bool) : Cs :=
  [(tRight (.cv .i64 (shrT 28)) (.cv .i64 (andT (shrT 20) 255)) (.cv .i64 (andT (shrT 10) 1023)) (.cv .i64 (andT nT 1023)), r),
    (tRight (.cv .i64 (quoT 268435456)) (.cv .i64 (remT (quoT 1048576) 256)) (.cv .i64 (remT (quoT 1024) 1024)) (.cv .i64 (remT nT 1024)), r),
    (tResp (.cv .i64 (shrT 28)) (.cv .i64 (andT nT 268435455)), s), (tResp (.cv .i64 (quoT 268435456)) (.cv .i64 (remT nT 268435456)), s),
    (.cmp .neq (shrT 32) (.lit 0), g), (.cmp .gtr nT (.lit 4294967295), g), (sameT (shrT 28) (quoT 268435456), true), (sameT (andT (shrT 20) 255) (remT (quoT 1048576) 256), true),
    (sameT (andT (shrT 10) 1023) (remT (quoT 1024) 1024), true), (sameT (andT nT 1023) (remT nT 1024), true), (sameT (andT nT 268435455) (remT nT 268435456), true)]
theorem parts_den (m : Nat) (hm : m < 2 ^ 64) (ρ : Env) (hn : ρ.I 0 = m) : ∃ r s, CRel ρ (unpackCs (decide (4294967295 < m)) r s) := by
  have n0 : nT.den ρ = some (m : Int) := by simp [nT, IT.den, hn]
  have s (c : Nat) (hc : c ≤ 64) : (shrT (c : Int)).den ρ = some ((m / 2 ^ c : Nat) : Int) := by simp only [shrT, IT.den, n0, shr_den m c hc]
  have q (c : Nat) (hc : c ≠ 0) : (quoT (c : Int)).den ρ = some ((m / c : Nat) : Int) := by simp only [quoT, IT.den, n0, quo_den m c hc hm]
  have a {t : IT} {x : Nat} (ht : t.den ρ = some (x : Int)) (hx : x < 2 ^ 64) (c : Nat) (hc : c ≤ 63) : (andT t ((2 ^ c - 1 : Nat) : Int)).den ρ = some ((x % 2 ^ c : Nat) : Int) := by simp only [andT, IT.den, ht, and_den x c hx hc]
  have r {t : IT} {x : Nat} (ht : t.den ρ = some (x : Int)) (c : Nat) (hc : c ≠ 0) : (remT t (c : Int)).den ρ = some ((x % c : Nat) : Int) := by simp only [remT, IT.den, ht, rem_den x c hc]
  have same {t u : IT} {x : Nat} (ht : t.den ρ = some (x : Int)) (hu : u.den ρ = some (x : Int)) : (sameT t u).den ρ = some true := by simp [sameT, BT.den, IT.den, ht, hu, intCmp]
  have d (c : Nat) : m / c < 2 ^ 64 := Nat.lt_of_le_of_lt (Nat.div_le_self _ _) hm
  have cvd {t : IT} {x : Nat} (ht : t.den ρ = some (x : Int)) : (IT.cv .i64 t).den ρ = some (IntKind.i64.wrap (x : Int)) := by simp [IT.den, ht]
  have a1 := s 28 (by omega)
  have b1 := q 268435456 (by omega)
  have a2 := a (s 20 (by omega)) (d _) 8 (by omega)
  have b2 := r (q 1048576 (by omega)) 256 (by omega)
  have a3 := a (s 10 (by omega)) (d _) 10 (by omega)
  have b3 := r (q 1024 (by omega)) 1024 (by omega)
  have a4 := a n0 hm 10 (by omega)
  have b4 := r n0 1024 (by omega)
  have a5 := a n0 hm 28 (by omega)
  have b5 := r n0 268435456 (by omega)
  obtain ⟨x, hx⟩ := tRight_some (IntKind.i64.wrap ((m / 2 ^ 28 : Nat) : Int)) (IntKind.i64.wrap ((m / 2 ^ 20 % 2 ^ 8 : Nat) : Int)) (IntKind.i64.wrap ((m / 2 ^ 10 % 2 ^ 10 : Nat) : Int)) (IntKind.i64.wrap ((m % 2 ^ 10 : Nat) : Int))
  obtain ⟨y, hy⟩ := tResp_some (IntKind.i64.wrap ((m / 2 ^ 28 : Nat) : Int)) (IntKind.i64.wrap ((m % 2 ^ 28 : Nat) : Int))
  refine ⟨x, y, ?_⟩
  intro p hp
  rcases List.mem_cons.1 hp with rfl | hp
  · exact (tRight_lit (ρ0 := ρ) (cvd a1) (cvd a2) (cvd a3) (cvd a4)).trans (hx ρ)
  rcases List.mem_cons.1 hp with rfl | hp
  · exact (tRight_lit (ρ0 := ρ) (cvd b1) (cvd b2) (cvd b3) (cvd b4)).trans (hx ρ)
  rcases List.mem_cons.1 hp with rfl | hp
  · exact (tResp_lit (ρ0 := ρ) (cvd a1) (cvd a5)).trans (hy ρ)
  rcases List.mem_cons.1 hp with rfl | hp
  · exact (tResp_lit (ρ0 := ρ) (cvd b1) (cvd b5)).trans (hy ρ)
  rcases List.mem_cons.1 hp with rfl | hp
  · have := s 32 (by omega)
    simp only [BT.den, IT.den]
    rw [show shrT 32 = shrT ((32 : Nat) : Int) from rfl, this]
    simp only [intCmp, Option.some.injEq]
    by_cases h : 4294967295 < m
    · have : m / 2 ^ 32 ≠ 0 := by omega
      simp [h]; omega
    · have : m / 2 ^ 32 = 0 := by omega
      simp [h, this]
  rcases List.mem_cons.1 hp with rfl | hp
  · simp only [BT.den, IT.den, n0, intCmp, Option.some.injEq]
    by_cases h : 4294967295 < m
    · simp [h]; omega
    · simp [h]; omega
  rcases List.mem_cons.1 hp with rfl | hp
  · exact same a1 b1
  rcases List.mem_cons.1 hp with rfl | hp
  · exact same a2 b2
  rcases List.mem_cons.1 hp with rfl | hp
  · exact same a3 b3
  rcases List.mem_cons.1 hp with rfl | hp
  · exact same a4 b4
  rcases List.mem_cons.1 hp with rfl | hp
  · exact same a5 b5
  cases hp
end Go.Proofs.YtagdcclpibjfoaaDoor
