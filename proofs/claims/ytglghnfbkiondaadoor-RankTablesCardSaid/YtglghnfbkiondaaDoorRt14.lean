/-
  RankTables (14): right operations; lines and names, as the machine takes them.
-/
import Derived.Test.YtglghnfbkiondaaDoorRt13
import Derived.Test.YtglghnfbkiondaaDoorRt10
namespace Go.Proofs.YtglghnfbkiondaaDoor
open Go.Vm
namespace Rt
open Rk (noSp0)

def orT (a b : BT) : BT := .not (.and (.not a) (.not b))
def eqT (a : IT) (n : Int) : BT := .cmp .eql a (.lit n)
def inT (a : IT) (lo hi : Int) : BT := .and (.cmp .geq a (.lit lo)) (.cmp .leq a (.lit hi))
/-- An operation is right. -/
def tRight (c k a b : IT) : BT :=
  .and (inT c 0 14) (.and (inT k 0 255) (.and (inT a 0 1023) (.and (inT b 0 1023)
    (.and (orT (eqT k 0) (.and (.cmp .geq c (.lit 4)) (.not (eqT c 8))))
      (.and (orT (eqT a 0) (orT (eqT c 1) (orT (eqT c 5) (orT (eqT c 7) (eqT c 10))))) (orT (eqT b 0) (eqT c 7)))))))
def opA : AVal := .agg [.int .i64 (.var 0), .int .i64 (.var 1), .int .i64 (.var 2), .int .i64 (.var 3)]
/-- Is an operation of this code walked through? -/
noncomputable def runR (f : FuncId) (fn : Func) (b : Code) (c : Nat) : Option Bool :=
  (run Tryd.prog [] (spOf noSpecs) 4000 false f (entry fn b [.agg [.int .i64 (.lit (.ofNat c)), .int .i64 (.var 1), .int .i64 (.var 2), .int .i64 (.var 3)]] .leaf 0 [])).map (·.all (leafB (tRight (.lit (.ofNat c)) (.var 1) (.var 2) (.var 3))))
/-- .. and of one that is none? -/
def codeCs (low : Bool) : Cs := [(.cmp .lss (.var 0) (.lit 0), low), (.cmp .geq (.var 0) (.lit 15), !low), (.cmp .gtr (.var 0) (.lit 14), !low)]
noncomputable def runL (f : FuncId) (fn : Func) (b : Code) (low : Bool) : Option Bool :=
  (run Tryd.prog [] (spOf noSpecs) 4000 false f (entry fn b [opA] .leaf 0 (codeCs low))).map (·.all (leafB (tRight (.var 0) (.var 1) (.var 2) (.var 3))))
theorem run12_0 : runR 12 Tryd.f12 (Tryd.f12.body.getD .ret) 0 = some true := by kernel_rfl
theorem run12_1 : runR 12 Tryd.f12 (Tryd.f12.body.getD .ret) 1 = some true := by kernel_rfl
theorem run12_2 : runR 12 Tryd.f12 (Tryd.f12.body.getD .ret) 2 = some true := by kernel_rfl
theorem run12_3 : runR 12 Tryd.f12 (Tryd.f12.body.getD .ret) 3 = some true := by kernel_rfl
theorem run12_4 : runR 12 Tryd.f12 (Tryd.f12.body.getD .ret) 4 = some true := by kernel_rfl
theorem run12_5 : runR 12 Tryd.f12 (Tryd.f12.body.getD .ret) 5 = some true := by kernel_rfl
theorem run12_6 : runR 12 Tryd.f12 (Tryd.f12.body.getD .ret) 6 = some true := by kernel_rfl
theorem run12_7 : runR 12 Tryd.f12 (Tryd.f12.body.getD .ret) 7 = some true := by kernel_rfl
theorem run12_8 : runR 12 Tryd.f12 (Tryd.f12.body.getD .ret) 8 = some true := by kernel_rfl
theorem run12_9 : runR 12 Tryd.f12 (Tryd.f12.body.getD .ret) 9 = some true := by kernel_rfl
theorem run12_10 : runR 12 Tryd.f12 (Tryd.f12.body.getD .ret) 10 = some true := by kernel_rfl
theorem run12_11 : runR 12 Tryd.f12 (Tryd.f12.body.getD .ret) 11 = some true := by kernel_rfl
theorem run12_12 : runR 12 Tryd.f12 (Tryd.f12.body.getD .ret) 12 = some true := by kernel_rfl
theorem run12_13 : runR 12 Tryd.f12 (Tryd.f12.body.getD .ret) 13 = some true := by kernel_rfl
theorem run12_14 : runR 12 Tryd.f12 (Tryd.f12.body.getD .ret) 14 = some true := by kernel_rfl
theorem run12_low : runL 12 Tryd.f12 (Tryd.f12.body.getD .ret) true = some true := by kernel_rfl
theorem run12_high : runL 12 Tryd.f12 (Tryd.f12.body.getD .ret) false = some true := by kernel_rfl
theorem run12_all : ∀ c, c < 15 → runR 12 Tryd.f12 (Tryd.f12.body.getD .ret) c = some true := by
  intro c hc
  match c, hc with
  | 0, _ => exact run12_0
  | 1, _ => exact run12_1
  | 2, _ => exact run12_2
  | 3, _ => exact run12_3
  | 4, _ => exact run12_4
  | 5, _ => exact run12_5
  | 6, _ => exact run12_6
  | 7, _ => exact run12_7
  | 8, _ => exact run12_8
  | 9, _ => exact run12_9
  | 10, _ => exact run12_10
  | 11, _ => exact run12_11
  | 12, _ => exact run12_12
  | 13, _ => exact run12_13
  | 14, _ => exact run12_14
theorem run12_none : ∀ low, runL 12 Tryd.f12 (Tryd.f12.body.getD .ret) low = some true := by
  intro low
  cases low
  · exact run12_high
  · exact run12_low
theorem tRight_lit {ρ ρ0 : Env} {c k a b : IT} {x y z u : Int} (hc : c.den ρ = some x) (hk : k.den ρ = some y) (ha : a.den ρ = some z) (hb : b.den ρ = some u) :
    (tRight c k a b).den ρ = (tRight (.lit x) (.lit y) (.lit z) (.lit u)).den ρ0 := by
  simp only [tRight, orT, eqT, inT, BT.den, IT.den, hc, hk, ha, hb]
theorem tRight_some (x y z u : Int) : ∃ b, ∀ ρ : Env, (tRight (.lit x) (.lit y) (.lit z) (.lit u)).den ρ = some b := ⟨_, fun _ => rfl⟩
def spRight : SpecF := fun args => match args with
  | [.agg [.int .i64 c, .int .i64 k, .int .i64 a, .int .i64 b]] => some [(.bool (tRight c k a b), [])]
  | _ => none
theorem den_ints4 {ρ : Env} {c k a b : IT} {xs : List Value} (h : AVal.denL ρ [.agg [.int .i64 c, .int .i64 k, .int .i64 a, .int .i64 b]] = some xs) :
    ∃ x y z u, c.den ρ = some x ∧ k.den ρ = some y ∧ a.den ρ = some z ∧ b.den ρ = some u ∧ xs = [.agg #[.int .i64 x, .int .i64 y, .int .i64 z, .int .i64 u]] := by
  cases hc : c.den ρ <;> cases hk : k.den ρ <;> cases ha : a.den ρ <;> cases hb : b.den ρ <;> simp [AVal.denL, AVal.den, hc, hk, ha, hb] at h
  exact ⟨_, _, _, _, rfl, rfl, rfl, rfl, h.symm⟩
theorem spRight_ok {f : FuncId} {fn : Func} {c : Code} (hf : Tryd.prog.funcs[f]? = some fn) (hb : fn.body = some c)
    (hr : ∀ k, k < 15 → runR f fn c k = some true) (hn : ∀ low, runL f fn c low = some true) : SpecOk Tryd.prog f spRight := by
  intro args alts ρ w xs h hx
  unfold spRight at h
  split at h
  · cases h
    obtain ⟨x, y, z, u, h1, h2, h3, h4, rfl⟩ := den_ints4 hx
    obtain ⟨b, hb'⟩ := tRight_some x y z u
    have hwalk : Calls Tryd.prog f #[.agg #[.int .i64 x, .int .i64 y, .int .i64 z, .int .i64 u]] w (fun e w' => e = .returned (.bool b) ∧ Framed w w') := by
      by_cases hx : 0 ≤ x ∧ x < 15
      · obtain ⟨k, rfl⟩ : ∃ k : Nat, x = (k : Int) := ⟨x.toNat, by omega⟩
        exact calls_bool (w := w) (ρ := envOf [0, y, z, u] [] F0) noCount noExt noSpecs_ok follows hf hb (hr k (by omega)) rfl (fun _ => rfl) (fun _ h => by cases h) ((tRight_lit (ρ0 := ρ) rfl rfl rfl rfl).trans (hb' ρ))
      · refine calls_bool (w := w) (ρ := envOf [x, y, z, u] [] F0) noCount noExt noSpecs_ok follows hf hb (hn (decide (x < 0))) rfl (fun _ => rfl) (fun p hp => ?_) ((tRight_lit (ρ0 := ρ) rfl rfl rfl rfl).trans (hb' ρ))
        rcases List.mem_cons.1 hp with rfl | hp
        · rfl
        rcases List.mem_cons.1 hp with rfl | hp
        · show some (decide (x ≥ 15)) = some (!decide (x < 0))
          by_cases h0 : x < 0
          · have : ¬ x ≥ 15 := by omega
            simp [h0, this]
          · have : x ≥ 15 := by omega
            simp [h0, this]
        rcases List.mem_cons.1 hp with rfl | hp
        · show some (decide (x > 14)) = some (!decide (x < 0))
          by_cases h0 : x < 0
          · have : ¬ x > 14 := by omega
            simp [h0, this]
          · have : x > 14 := by omega
            simp [h0, this]
        cases hp
    refine hwalk.mono fun e' w' ⟨he, hfr⟩ => ⟨_, he, hfr, _, List.mem_cons_self, ?_, fun _ hp => by cases hp⟩
    simp only [AVal.den, (tRight_lit (ρ0 := ρ) h1 h2 h3 h4).trans (hb' ρ), Option.map_some]
  · cases h
end Rt
end Go.Proofs.YtglghnfbkiondaaDoor
