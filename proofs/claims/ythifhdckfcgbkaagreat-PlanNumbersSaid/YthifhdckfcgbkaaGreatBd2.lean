/-
  Bounds (2): steps, words.
-/
import Derived.Test.YthifhdckfcgbkaaGreatBa
namespace Go.Proofs.YthifhdckfcgbkaaGreat
open Go.Vm

def mn2 (a b : Int) : Int := if b < a then b else a
def mx2 (a b : Int) : Int := if b > a then b else a
def cl (x : Int) (m : Int) : Int := mn2 (mx2 x 0) m
theorem cl_le {x m : Int} (h : 0 ≤ m) : 0 ≤ cl x m ∧ cl x m ≤ m := by unfold cl mn2 mx2; split <;> split <;> omega
theorem cl_lo {x m : Int} (h : x < 0) (hm : 0 ≤ m) : cl x m = 0 := by unfold cl mn2 mx2; split <;> split <;> omega
theorem cl_hi {x m : Int} (h : x > m) (hm : 0 ≤ m) : cl x m = m := by unfold cl mn2 mx2; (repeat' split) <;> omega
theorem cl_mid {x m : Int} (h : ¬ x < 0) (h2 : ¬ x > m) : cl x m = x := by unfold cl mn2 mx2; (repeat' split) <;> omega
def stepsF (x : Int) : Int := 1000 * (cl x 1000 + 1)
def wordsF (x y : Int) : Int := 400 * cl x 1000 * cl x 1000 + 16 * cl y 100000 + 8
theorem sq_le {c : Int} (h : 0 ≤ c) (h2 : c ≤ 1000) : 0 ≤ 400 * c * c ∧ 400 * c * c ≤ 400000000 := by
  refine ⟨Int.mul_nonneg (Int.mul_nonneg (by decide) h) h, ?_⟩
  have h1 : 400 * c ≤ 400 * 1000 := Int.mul_le_mul_of_nonneg_left h2 (by decide)
  have h3 : 400 * c * c ≤ 400 * 1000 * c := Int.mul_le_mul_of_nonneg_right h1 h
  have h4 : 400 * 1000 * c ≤ 400 * 1000 * 1000 := Int.mul_le_mul_of_nonneg_left h2 (by decide)
  omega
theorem wrap_ok {x : Int} (h : -9223372036854775808 ≤ x) (h2 : x < 9223372036854775808) : IntKind.i64.wrap x = x := by
  rw [IntKind.wrap_i64]; omega

section
variable {f : FuncId} {fn : Func} {c : Code} {Q : Value → Prop}
/-- A function without loops, of two numbers. -/
theorem scal2 {n : Nat} {sums : List LS} {x y : Int} (hf : Tryz.prog.funcs[f]? = some fn) (hb : fn.body = some c)
    (hrun : (run Tryz.prog [] noSp n true f (entry fn c [.int .i64 (.var 0), .int .i64 (.var 1)] .leaf 0 [])).map (·.filterMap (sumL ⟨0, 0, 0, 0⟩ [])) = some sums)
    (hs : ∀ ρ : Env, ρ.I 0 = x → ρ.I 1 = y → ∀ s ∈ sums, ∃ v cs, s = .ret v cs ∧ (CRel ρ cs → ∀ u, v.den ρ = some u → Q u)) (w : World) :
    Calls Tryz.prog f #[.int .i64 x, .int .i64 y] w (fun e w' => ∃ v, e = .returned v ∧ Q v ∧ Framed w w') := by
  refine calls_sums (β := .plain w) (ρ := envOf [x, y] [] F0) noCount noExt noSp_ok follows rfl hf hb hrun rfl (HRel.start w _ fun _ => rfl) (fun _ h => by cases h) (fun s hsm => ?_)
  obtain ⟨v, cs, rfl, h⟩ := hs (envOf [x, y] [] F0) rfl rfl s hsm
  intro ρ' hle hc u hu
  obtain ⟨v', cs', he, h'⟩ := hs ρ' (by rw [hle.i]; rfl) (by rw [hle.i]; rfl) _ hsm
  cases he
  exact h' hc u hu
theorem scal1 {n : Nat} {sums : List LS} {x : Int} (hf : Tryz.prog.funcs[f]? = some fn) (hb : fn.body = some c)
    (hrun : (run Tryz.prog [] noSp n true f (entry fn c [.int .i64 (.var 0)] .leaf 0 [])).map (·.filterMap (sumL ⟨0, 0, 0, 0⟩ [])) = some sums)
    (hs : ∀ ρ : Env, ρ.I 0 = x → ∀ s ∈ sums, ∃ v cs, s = .ret v cs ∧ (CRel ρ cs → ∀ u, v.den ρ = some u → Q u)) (w : World) :
    Calls Tryz.prog f #[.int .i64 x] w (fun e w' => ∃ v, e = .returned v ∧ Q v ∧ Framed w w') := by
  refine calls_sums (β := .plain w) (ρ := envOf [x] [] F0) noCount noExt noSp_ok follows rfl hf hb hrun rfl (HRel.start w _ fun _ => rfl) (fun _ h => by cases h) (fun s hsm => ?_)
  obtain ⟨v, cs, rfl, h⟩ := hs (envOf [x] [] F0) rfl s hsm
  intro ρ' hle hc u hu
  obtain ⟨v', cs', he, h'⟩ := hs ρ' (by rw [hle.i]; rfl) _ hsm
  cases he
  exact h' hc u hu
end
theorem calls_eq {f : FuncId} {args : Array Value} {w : World} {x : Value} (h : Calls Tryz.prog f args w (fun e w' => ∃ v, e = .returned v ∧ v = x ∧ Framed w w')) : Calls Tryz.prog f args w (fun e w' => e = .returned x ∧ Framed w w') :=
  h.mono fun _ _ ⟨_, he, hv, hf⟩ => ⟨by rw [he, hv], hf⟩

def sums10 : List LS := [.ret (.int .i64 (.bin .mul .i64 (.lit 1000) (.bin .add .i64 (.mn (.mx (.var 0) (.lit 0)) (.lit 1000)) (.lit 1)))) []]
theorem run10 : (run Tryz.prog [] noSp 4000 true 10 (entry Tryz.f10 (Tryz.f10.body.getD .ret) [.int .i64 (.var 0)] .leaf 0 [])).map (·.filterMap (sumL ⟨0, 0, 0, 0⟩ [])) = some sums10 := by kernel_rfl
theorem steps (w : World) (x : Int) : Calls Tryz.prog 10 #[.int .i64 x] w (fun e w' => e = .returned (.int .i64 (stepsF x)) ∧ Framed w w') := by
  refine calls_eq (scal1 Tryz.func10 rfl run10 (fun ρ h0 s hs => ?_) w)
  rcases List.mem_cons.1 hs with rfl | hs
  · refine ⟨_, _, rfl, fun _ u hu => ?_⟩
    have h1 := cl_le (x := x) (m := 1000) (by decide)
    simp only [AVal.den, IT.den, h0, intBin, Option.map_some, Option.some.injEq] at hu
    rw [← hu]
    show Value.int .i64 (IntKind.i64.wrap (1000 * IntKind.i64.wrap (cl x 1000 + 1))) = _
    rw [wrap_ok (x := cl x 1000 + 1) (by omega) (by omega), wrap_ok (by omega) (by omega)]; rfl
  · cases hs

def sums11 : List LS := [.ret (.int .i64 (.lit 1000)) [((.cmp .lss (.var 0) (.lit 0)), true)],
  .ret (.int .i64 (.lit 1001000)) [((.cmp .gtr (.var 0) (.lit 1000)), true), ((.cmp .lss (.var 0) (.lit 0)), false)],
  .ret (.int .i64 (.bin .add .i64 (.bin .mul .i64 (.lit 1000) (.var 0)) (.lit 1000))) [((.cmp .gtr (.var 0) (.lit 1000)), false), ((.cmp .lss (.var 0) (.lit 0)), false)]]
theorem run11 : (run Tryz.prog [] noSp 4000 true 11 (entry Tryz.f11 (Tryz.f11.body.getD .ret) [.int .i64 (.var 0)] .leaf 0 [])).map (·.filterMap (sumL ⟨0, 0, 0, 0⟩ [])) = some sums11 := by kernel_rfl
theorem rsteps (w : World) (x : Int) : Calls Tryz.prog 11 #[.int .i64 x] w (fun e w' => e = .returned (.int .i64 (stepsF x)) ∧ Framed w w') := by
  refine calls_eq (scal1 Tryz.func11 rfl run11 (fun ρ h0 s hs => ?_) w)
  simp only [sums11, List.mem_cons, List.not_mem_nil, or_false] at hs
  rcases hs with rfl | rfl | rfl
  all_goals
    refine ⟨_, _, rfl, fun hc u hu => ?_⟩
    simp only [CRel_cons, CRel_nil, and_true, BT.den, IT.den, h0, intCmp, Option.some.injEq, decide_eq_true_eq, decide_eq_false_iff_not] at hc
    simp only [AVal.den, IT.den, h0, intBin, Option.map_some, Option.some.injEq] at hu
    rw [← hu]
  · simp only [stepsF, cl_lo hc (show (0 : Int) ≤ 1000 by decide)]; rfl
  · simp only [stepsF, cl_hi hc.1 (show (0 : Int) ≤ 1000 by decide)]; rfl
  · simp only [stepsF, cl_mid hc.2 hc.1]
    rw [wrap_ok (x := 1000 * x) (by omega) (by omega), wrap_ok (by omega) (by omega)]
    congr 1; omega

def sums12 : List LS := [.ret (.int .i64 (.bin .add .i64 (.bin .add .i64 (.bin .mul .i64 (.bin .mul .i64 (.lit 400) (.mn (.mx (.var 0) (.lit 0)) (.lit 1000))) (.mn (.mx (.var 0) (.lit 0)) (.lit 1000))) (.bin .mul .i64 (.lit 16) (.mn (.mx (.var 1) (.lit 0)) (.lit 100000)))) (.lit 8))) []]
theorem run12 : (run Tryz.prog [] noSp 4000 true 12 (entry Tryz.f12 (Tryz.f12.body.getD .ret) [.int .i64 (.var 0), .int .i64 (.var 1)] .leaf 0 [])).map (·.filterMap (sumL ⟨0, 0, 0, 0⟩ [])) = some sums12 := by kernel_rfl
theorem words (w : World) (x y : Int) : Calls Tryz.prog 12 #[.int .i64 x, .int .i64 y] w (fun e w' => e = .returned (.int .i64 (wordsF x y)) ∧ Framed w w') := by
  refine calls_eq (scal2 Tryz.func12 rfl run12 (fun ρ h0 h1 s hs => ?_) w)
  rcases List.mem_cons.1 hs with rfl | hs
  · refine ⟨_, _, rfl, fun _ u hu => ?_⟩
    have c1 := cl_le (x := x) (m := 1000) (by decide)
    have c2 := cl_le (x := y) (m := 100000) (by decide)
    have c3 := sq_le c1.1 c1.2
    simp only [AVal.den, IT.den, h0, h1, intBin, Option.map_some, Option.some.injEq] at hu
    rw [← hu]
    show Value.int .i64 (IntKind.i64.wrap (IntKind.i64.wrap (IntKind.i64.wrap (IntKind.i64.wrap (400 * cl x 1000) * cl x 1000) + IntKind.i64.wrap (16 * cl y 100000)) + 8)) = _
    rw [wrap_ok (x := 400 * cl x 1000) (by omega) (by omega), wrap_ok (x := 400 * cl x 1000 * cl x 1000) (by omega) (by omega), wrap_ok (x := 16 * cl y 100000) (by omega) (by omega),
      wrap_ok (x := 400 * cl x 1000 * cl x 1000 + 16 * cl y 100000) (by omega) (by omega), wrap_ok (by omega) (by omega)]
    rfl
  · cases hs

def sums13 : List LS := [.ret (.int .i64 (.lit 8)) [((.cmp .lss (.var 1) (.lit 0)), true), ((.cmp .lss (.var 0) (.lit 0)), true)],
  .ret (.int .i64 (.lit 1600008)) [((.cmp .gtr (.var 1) (.lit 100000)), true), ((.cmp .lss (.var 1) (.lit 0)), false), ((.cmp .lss (.var 0) (.lit 0)), true)],
  .ret (.int .i64 (.bin .add .i64 (.bin .add .i64 (.lit 0) (.bin .mul .i64 (.lit 16) (.var 1))) (.lit 8))) [((.cmp .gtr (.var 1) (.lit 100000)), false), ((.cmp .lss (.var 1) (.lit 0)), false), ((.cmp .lss (.var 0) (.lit 0)), true)],
  .ret (.int .i64 (.lit 400000008)) [((.cmp .lss (.var 1) (.lit 0)), true), ((.cmp .gtr (.var 0) (.lit 1000)), true), ((.cmp .lss (.var 0) (.lit 0)), false)],
  .ret (.int .i64 (.lit 401600008)) [((.cmp .gtr (.var 1) (.lit 100000)), true), ((.cmp .lss (.var 1) (.lit 0)), false), ((.cmp .gtr (.var 0) (.lit 1000)), true), ((.cmp .lss (.var 0) (.lit 0)), false)],
  .ret (.int .i64 (.bin .add .i64 (.bin .add .i64 (.lit 400000000) (.bin .mul .i64 (.lit 16) (.var 1))) (.lit 8))) [((.cmp .gtr (.var 1) (.lit 100000)), false), ((.cmp .lss (.var 1) (.lit 0)), false), ((.cmp .gtr (.var 0) (.lit 1000)), true), ((.cmp .lss (.var 0) (.lit 0)), false)],
  .ret (.int .i64 (.bin .add .i64 (.bin .add .i64 (.bin .mul .i64 (.bin .mul .i64 (.lit 400) (.var 0)) (.var 0)) (.lit 0)) (.lit 8))) [((.cmp .lss (.var 1) (.lit 0)), true), ((.cmp .gtr (.var 0) (.lit 1000)), false), ((.cmp .lss (.var 0) (.lit 0)), false)],
  .ret (.int .i64 (.bin .add .i64 (.bin .add .i64 (.bin .mul .i64 (.bin .mul .i64 (.lit 400) (.var 0)) (.var 0)) (.lit 1600000)) (.lit 8))) [((.cmp .gtr (.var 1) (.lit 100000)), true), ((.cmp .lss (.var 1) (.lit 0)), false), ((.cmp .gtr (.var 0) (.lit 1000)), false), ((.cmp .lss (.var 0) (.lit 0)), false)],
  .ret (.int .i64 (.bin .add .i64 (.bin .add .i64 (.bin .mul .i64 (.bin .mul .i64 (.lit 400) (.var 0)) (.var 0)) (.bin .mul .i64 (.lit 16) (.var 1))) (.lit 8))) [((.cmp .gtr (.var 1) (.lit 100000)), false), ((.cmp .lss (.var 1) (.lit 0)), false), ((.cmp .gtr (.var 0) (.lit 1000)), false), ((.cmp .lss (.var 0) (.lit 0)), false)]]
theorem run13 : (run Tryz.prog [] noSp 4000 true 13 (entry Tryz.f13 (Tryz.f13.body.getD .ret) [.int .i64 (.var 0), .int .i64 (.var 1)] .leaf 0 [])).map (·.filterMap (sumL ⟨0, 0, 0, 0⟩ [])) = some sums13 := by kernel_rfl
theorem rwords (w : World) (x y : Int) : Calls Tryz.prog 13 #[.int .i64 x, .int .i64 y] w (fun e w' => e = .returned (.int .i64 (wordsF x y)) ∧ Framed w w') := by
  refine calls_eq (scal2 Tryz.func13 rfl run13 (fun ρ h0 h1 s hs => ?_) w)
  simp only [sums13, List.mem_cons, List.not_mem_nil, or_false] at hs
  rcases hs with rfl | rfl | rfl | rfl | rfl | rfl | rfl | rfl | rfl
  all_goals
    refine ⟨_, _, rfl, fun hc u hu => ?_⟩
    simp only [CRel_cons, CRel_nil, and_true, BT.den, IT.den, h0, h1, intCmp, Option.some.injEq, decide_eq_true_eq, decide_eq_false_iff_not] at hc
    simp only [AVal.den, IT.den, h0, h1, intBin, Option.map_some, Option.some.injEq] at hu
    rw [← hu]
  · simp only [wordsF, cl_lo hc.2 (show (0 : Int) ≤ 1000 by decide), cl_lo hc.1 (show (0 : Int) ≤ 100000 by decide)]; rfl
  · simp only [wordsF, cl_lo hc.2.2 (show (0 : Int) ≤ 1000 by decide), cl_hi hc.1 (show (0 : Int) ≤ 100000 by decide)]; rfl
  · simp only [wordsF, cl_lo hc.2.2 (show (0 : Int) ≤ 1000 by decide), cl_mid hc.2.1 hc.1]
    rw [wrap_ok (x := 16 * y) (by omega) (by omega), wrap_ok (x := 0 + 16 * y) (by omega) (by omega), wrap_ok (by omega) (by omega)]; rfl
  · simp only [wordsF, cl_hi hc.2.1 (show (0 : Int) ≤ 1000 by decide), cl_lo hc.1 (show (0 : Int) ≤ 100000 by decide)]; rfl
  · simp only [wordsF, cl_hi hc.2.2.1 (show (0 : Int) ≤ 1000 by decide), cl_hi hc.1 (show (0 : Int) ≤ 100000 by decide)]; rfl
  · simp only [wordsF, cl_hi hc.2.2.1 (show (0 : Int) ≤ 1000 by decide), cl_mid hc.2.1 hc.1]
    rw [wrap_ok (x := 16 * y) (by omega) (by omega), wrap_ok (x := 400000000 + 16 * y) (by omega) (by omega), wrap_ok (by omega) (by omega)]; rfl
  · have c3 := sq_le (c := x) (by omega) (by omega)
    simp only [wordsF, cl_mid hc.2.2 hc.2.1, cl_lo hc.1 (show (0 : Int) ≤ 100000 by decide)]
    rw [wrap_ok (x := 400 * x) (by omega) (by omega), wrap_ok (x := 400 * x * x) (by omega) (by omega), wrap_ok (x := 400 * x * x + 0) (by omega) (by omega), wrap_ok (by omega) (by omega)]
    congr 1
  · have c3 := sq_le (c := x) (by omega) (by omega)
    simp only [wordsF, cl_mid hc.2.2.2 hc.2.2.1, cl_hi hc.1 (show (0 : Int) ≤ 100000 by decide)]
    rw [wrap_ok (x := 400 * x) (by omega) (by omega), wrap_ok (x := 400 * x * x) (by omega) (by omega), wrap_ok (x := 400 * x * x + 1600000) (by omega) (by omega), wrap_ok (by omega) (by omega)]
    congr 1
  · have c3 := sq_le (c := x) (by omega) (by omega)
    simp only [wordsF, cl_mid hc.2.2.2 hc.2.2.1, cl_mid hc.2.1 hc.1]
    rw [wrap_ok (x := 400 * x) (by omega) (by omega), wrap_ok (x := 400 * x * x) (by omega) (by omega), wrap_ok (x := 16 * y) (by omega) (by omega), wrap_ok (x := 400 * x * x + 16 * y) (by omega) (by omega), wrap_ok (by omega) (by omega)]

end Go.Proofs.YthifhdckfcgbkaaGreat
