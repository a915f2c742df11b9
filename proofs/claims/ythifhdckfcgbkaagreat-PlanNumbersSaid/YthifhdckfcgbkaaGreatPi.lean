/-
  Plans (10): right plans; seeds that are alike; events that have numbers; what is known of a plan's functions.
-/
import Derived.Test.YthifhdckfcgbkaaGreatPh
namespace Go.Proofs.YthifhdckfcgbkaaGreat
open Go.Vm
namespace Pln

-- RIGHT PLANS
def RtB (A E P K S : Int) : Bool := decide (1 ≤ A ∧ A ≤ 64 ∧ 0 ≤ E ∧ E ≤ 5000 ∧ 1 ≤ P ∧ P ≤ 1000 ∧ 1 ≤ K ∧ K ≤ 256 ∧ 0 ≤ S ∧ S ≤ 100)
theorem RtB_iff {A E P K S : Int} : RtB A E P K S = true ↔ Rt A E P K S := by
  unfold RtB
  rw [decide_eq_true_eq]
  exact ⟨fun ⟨a, b, c, d, e, f, g, h, i, j⟩ => ⟨a, b, c, d, e, f, g, h, i, j⟩, fun ⟨a, b, c, d, e, f, g, h, i, j⟩ => ⟨a, b, c, d, e, f, g, h, i, j⟩⟩
def sums_18 : List LS := [.ret (.bool (.cmp .leq (.var 15) (.lit 100))) [((.cmp .geq (.var 15) (.lit 0)), true), ((.cmp .leq (.var 14) (.lit 256)), true), ((.cmp .geq (.var 14) (.lit 1)), true), ((.cmp .leq (.var 13) (.lit 1000)), true), ((.cmp .geq (.var 13) (.lit 1)), true), ((.cmp .leq (.var 12) (.lit 5000)), true), ((.cmp .geq (.var 12) (.lit 0)), true), ((.cmp .leq (.var 11) (.lit 64)), true), ((.cmp .geq (.var 11) (.lit 1)), true)],
  .ret (.bool (.lit false)) [((.cmp .geq (.var 15) (.lit 0)), false), ((.cmp .leq (.var 14) (.lit 256)), true), ((.cmp .geq (.var 14) (.lit 1)), true), ((.cmp .leq (.var 13) (.lit 1000)), true), ((.cmp .geq (.var 13) (.lit 1)), true), ((.cmp .leq (.var 12) (.lit 5000)), true), ((.cmp .geq (.var 12) (.lit 0)), true), ((.cmp .leq (.var 11) (.lit 64)), true), ((.cmp .geq (.var 11) (.lit 1)), true)],
  .ret (.bool (.lit false)) [((.cmp .leq (.var 14) (.lit 256)), false), ((.cmp .geq (.var 14) (.lit 1)), true), ((.cmp .leq (.var 13) (.lit 1000)), true), ((.cmp .geq (.var 13) (.lit 1)), true), ((.cmp .leq (.var 12) (.lit 5000)), true), ((.cmp .geq (.var 12) (.lit 0)), true), ((.cmp .leq (.var 11) (.lit 64)), true), ((.cmp .geq (.var 11) (.lit 1)), true)],
  .ret (.bool (.lit false)) [((.cmp .geq (.var 14) (.lit 1)), false), ((.cmp .leq (.var 13) (.lit 1000)), true), ((.cmp .geq (.var 13) (.lit 1)), true), ((.cmp .leq (.var 12) (.lit 5000)), true), ((.cmp .geq (.var 12) (.lit 0)), true), ((.cmp .leq (.var 11) (.lit 64)), true), ((.cmp .geq (.var 11) (.lit 1)), true)],
  .ret (.bool (.lit false)) [((.cmp .leq (.var 13) (.lit 1000)), false), ((.cmp .geq (.var 13) (.lit 1)), true), ((.cmp .leq (.var 12) (.lit 5000)), true), ((.cmp .geq (.var 12) (.lit 0)), true), ((.cmp .leq (.var 11) (.lit 64)), true), ((.cmp .geq (.var 11) (.lit 1)), true)],
  .ret (.bool (.lit false)) [((.cmp .geq (.var 13) (.lit 1)), false), ((.cmp .leq (.var 12) (.lit 5000)), true), ((.cmp .geq (.var 12) (.lit 0)), true), ((.cmp .leq (.var 11) (.lit 64)), true), ((.cmp .geq (.var 11) (.lit 1)), true)],
  .ret (.bool (.lit false)) [((.cmp .leq (.var 12) (.lit 5000)), false), ((.cmp .geq (.var 12) (.lit 0)), true), ((.cmp .leq (.var 11) (.lit 64)), true), ((.cmp .geq (.var 11) (.lit 1)), true)],
  .ret (.bool (.lit false)) [((.cmp .geq (.var 12) (.lit 0)), false), ((.cmp .leq (.var 11) (.lit 64)), true), ((.cmp .geq (.var 11) (.lit 1)), true)],
  .ret (.bool (.lit false)) [((.cmp .leq (.var 11) (.lit 64)), false), ((.cmp .geq (.var 11) (.lit 1)), true)],
  .ret (.bool (.lit false)) [((.cmp .geq (.var 11) (.lit 1)), false)]]
theorem run_18 : (run Tryz.prog [] noSp 4000 true 18 (entry Tryz.f18 (Tryz.f18.body.getD .ret) [p6] .leaf 0 [])).map (·.filterMap (sumL ⟨0, 0, 0, 0⟩ [])) = some sums_18 := by kernel_rfl
theorem right_18 (w : World) (A E P K S s : Int) : Calls Tryz.prog 18 #[planV A E P K S s] w (fun e w' => e = .returned (.bool (RtB A E P K S)) ∧ Framed w w') := by
  refine calls_eq (calls_sums (β := .plain w) (ρ := envP A E P K S s 0) noCount noExt noSp_ok follows rfl Tryz.func18 rfl run_18 (xs := [planV A E P K S s]) rfl (HRel.start w _ fun _ => rfl) (fun _ h => by cases h) (fun q hq => ?_))
  have dens : ∀ ρ' : Env, (envP A E P K S s 0).Le ρ' → (IT.var 11).den ρ' = some A ∧ (IT.var 12).den ρ' = some E ∧ (IT.var 13).den ρ' = some P ∧ (IT.var 14).den ρ' = some K ∧ (IT.var 15).den ρ' = some S := fun ρ' hle => by
    simp only [IT.den, hle.i]; exact ⟨rfl, rfl, rfl, rfl, rfl⟩
  simp only [sums_18, List.mem_cons, List.not_mem_nil, or_false] at hq
  rcases hq with rfl | rfl | rfl | rfl | rfl | rfl | rfl | rfl | rfl | rfl
  all_goals
    intro ρ' hle hc u hu
    obtain ⟨dA, dE, dP, dK, dS⟩ := dens ρ' hle
    simp only [CRel_cons, CRel_nil, and_true, BT.den, dA, dE, dP, dK, dS, den_lit, intCmp, Option.some.injEq, decide_eq_true_eq, decide_eq_false_iff_not] at hc
    simp only [AVal.den, BT.den, dS, den_lit, intCmp, Option.map_some, Option.some.injEq] at hu
    rw [← hu]
    congr 1
    unfold RtB
    first
      | (rw [eq_comm, decide_eq_false_iff_not]; omega)
      | (rw [decide_eq_decide]; omega)
def sums_19 : List LS := [.ret (.bool (.lit false)) [((.cmp .lss (.var 11) (.lit 1)), true)],
  .ret (.bool (.lit false)) [((.cmp .gtr (.var 11) (.lit 64)), true), ((.cmp .lss (.var 11) (.lit 1)), false)],
  .ret (.bool (.lit false)) [((.cmp .lss (.var 12) (.lit 0)), true), ((.cmp .gtr (.var 11) (.lit 64)), false), ((.cmp .lss (.var 11) (.lit 1)), false)],
  .ret (.bool (.lit false)) [((.cmp .gtr (.var 12) (.lit 5000)), true), ((.cmp .lss (.var 12) (.lit 0)), false), ((.cmp .gtr (.var 11) (.lit 64)), false), ((.cmp .lss (.var 11) (.lit 1)), false)],
  .ret (.bool (.lit false)) [((.cmp .lss (.var 13) (.lit 1)), true), ((.cmp .gtr (.var 12) (.lit 5000)), false), ((.cmp .lss (.var 12) (.lit 0)), false), ((.cmp .gtr (.var 11) (.lit 64)), false), ((.cmp .lss (.var 11) (.lit 1)), false)],
  .ret (.bool (.lit false)) [((.cmp .gtr (.var 13) (.lit 1000)), true), ((.cmp .lss (.var 13) (.lit 1)), false), ((.cmp .gtr (.var 12) (.lit 5000)), false), ((.cmp .lss (.var 12) (.lit 0)), false), ((.cmp .gtr (.var 11) (.lit 64)), false), ((.cmp .lss (.var 11) (.lit 1)), false)],
  .ret (.bool (.cmp .leq (.var 15) (.lit 100))) [((.cmp .geq (.var 15) (.lit 0)), true), ((.cmp .leq (.var 14) (.lit 256)), true), ((.cmp .geq (.var 14) (.lit 1)), true), ((.cmp .gtr (.var 13) (.lit 1000)), false), ((.cmp .lss (.var 13) (.lit 1)), false), ((.cmp .gtr (.var 12) (.lit 5000)), false), ((.cmp .lss (.var 12) (.lit 0)), false), ((.cmp .gtr (.var 11) (.lit 64)), false), ((.cmp .lss (.var 11) (.lit 1)), false)],
  .ret (.bool (.lit false)) [((.cmp .geq (.var 15) (.lit 0)), false), ((.cmp .leq (.var 14) (.lit 256)), true), ((.cmp .geq (.var 14) (.lit 1)), true), ((.cmp .gtr (.var 13) (.lit 1000)), false), ((.cmp .lss (.var 13) (.lit 1)), false), ((.cmp .gtr (.var 12) (.lit 5000)), false), ((.cmp .lss (.var 12) (.lit 0)), false), ((.cmp .gtr (.var 11) (.lit 64)), false), ((.cmp .lss (.var 11) (.lit 1)), false)],
  .ret (.bool (.lit false)) [((.cmp .leq (.var 14) (.lit 256)), false), ((.cmp .geq (.var 14) (.lit 1)), true), ((.cmp .gtr (.var 13) (.lit 1000)), false), ((.cmp .lss (.var 13) (.lit 1)), false), ((.cmp .gtr (.var 12) (.lit 5000)), false), ((.cmp .lss (.var 12) (.lit 0)), false), ((.cmp .gtr (.var 11) (.lit 64)), false), ((.cmp .lss (.var 11) (.lit 1)), false)],
  .ret (.bool (.lit false)) [((.cmp .geq (.var 14) (.lit 1)), false), ((.cmp .gtr (.var 13) (.lit 1000)), false), ((.cmp .lss (.var 13) (.lit 1)), false), ((.cmp .gtr (.var 12) (.lit 5000)), false), ((.cmp .lss (.var 12) (.lit 0)), false), ((.cmp .gtr (.var 11) (.lit 64)), false), ((.cmp .lss (.var 11) (.lit 1)), false)]]
theorem run_19 : (run Tryz.prog [] noSp 4000 true 19 (entry Tryz.f19 (Tryz.f19.body.getD .ret) [p6] .leaf 0 [])).map (·.filterMap (sumL ⟨0, 0, 0, 0⟩ [])) = some sums_19 := by kernel_rfl
theorem right_19 (w : World) (A E P K S s : Int) : Calls Tryz.prog 19 #[planV A E P K S s] w (fun e w' => e = .returned (.bool (RtB A E P K S)) ∧ Framed w w') := by
  refine calls_eq (calls_sums (β := .plain w) (ρ := envP A E P K S s 0) noCount noExt noSp_ok follows rfl Tryz.func19 rfl run_19 (xs := [planV A E P K S s]) rfl (HRel.start w _ fun _ => rfl) (fun _ h => by cases h) (fun q hq => ?_))
  have dens : ∀ ρ' : Env, (envP A E P K S s 0).Le ρ' → (IT.var 11).den ρ' = some A ∧ (IT.var 12).den ρ' = some E ∧ (IT.var 13).den ρ' = some P ∧ (IT.var 14).den ρ' = some K ∧ (IT.var 15).den ρ' = some S := fun ρ' hle => by
    simp only [IT.den, hle.i]; exact ⟨rfl, rfl, rfl, rfl, rfl⟩
  simp only [sums_19, List.mem_cons, List.not_mem_nil, or_false] at hq
  rcases hq with rfl | rfl | rfl | rfl | rfl | rfl | rfl | rfl | rfl | rfl
  all_goals
    intro ρ' hle hc u hu
    obtain ⟨dA, dE, dP, dK, dS⟩ := dens ρ' hle
    simp only [CRel_cons, CRel_nil, and_true, BT.den, dA, dE, dP, dK, dS, den_lit, intCmp, Option.some.injEq, decide_eq_true_eq, decide_eq_false_iff_not] at hc
    simp only [AVal.den, BT.den, dS, den_lit, intCmp, Option.map_some, Option.some.injEq] at hu
    rw [← hu]
    congr 1
    unfold RtB
    first
      | (rw [eq_comm, decide_eq_false_iff_not]; omega)
      | (rw [decide_eq_decide]; omega)

-- SEEDS THAT ARE ALIKE
theorem nxS_mod (s : Int) : nxS (s % 2147483648) = nxS s := by unfold nxS; rw [Int.emod_emod_of_dvd _ (Int.dvd_refl _)]
theorem evS_mod (A P K S s : Int) : evS A P K S (s % 2147483648) = evS A P K S s := by
  unfold evS opS thS; rw [nxS_mod]
theorem seed_mod (A P K S s : Int) : ∀ i, evS A P K S (seedS A P K S (s % 2147483648) i) = evS A P K S (seedS A P K S s i)
  | 0 => evS_mod A P K S s
  | i + 1 => by simp only [seedS, seed_mod A P K S s i]
theorem rowE_mod (A P K S s : Int) : ∀ i, rowE A P K S (s % 2147483648) i = rowE A P K S s i
  | 0 => rfl
  | i + 1 => by simp only [rowE, rowE_mod A P K S s i, seed_mod]

-- EVENTS THAT HAVE NUMBERS
def EvOk (e : Ev) : Prop := EncOk e.k e.w e.o e.n e.c e.y e.a e.b
/-- A row of events. -/
def RowOk (xs : List Value) (n : Nat) : Prop := ∃ l : List Ev, xs = l.flatMap Ev.cells ∧ l.length = n ∧ ∀ e ∈ l, EvOk e
theorem RowOk.snoc {xs : List Value} {n : Nat} (h : RowOk xs n) {e : Ev} (he : EvOk e) : RowOk (xs ++ e.cells) (n + 1) := by
  obtain ⟨l, rfl, hl, ho⟩ := h
  refine ⟨l ++ [e], by simp, by simp [hl], fun x hx => ?_⟩
  rcases List.mem_append.1 hx with h1 | h1
  · exact ho x h1
  · rw [List.mem_singleton.1 h1]; exact he
theorem enc_small {k w : Int} (hw : 0 ≤ w ∧ w < 64) (hk : k = 0 ∨ k = 2 ∨ k = 3) : EncOk k w 0 0 0 0 0 0 := by
  unfold EncOk; omega
theorem enc4 {w o : Int} (hw : 0 ≤ w ∧ w < 64) (ho : 0 ≤ o ∧ o < 64) : EncOk 4 w o 0 0 0 0 0 := by
  unfold EncOk; omega
theorem enc5 {w n : Int} (hw : 0 ≤ w ∧ w < 64) (hn : 1 ≤ n ∧ n ≤ 1000) : EncOk 5 w 0 n 0 0 0 0 := by
  unfold EncOk; omega
theorem evS_ok {A E P K S : Int} (h : Rt A E P K S) (s : Int) : EvOk (evS A P K S s) := by
  have ha1 := h.a1; have ha2 := h.a2; have hp1 := h.p1; have hp2 := h.p2; have hk1 := h.k1; have hk2 := h.k2
  have hw := thS_bnd s (n := A) (by omega)
  by_cases c1 : thS (nxS s) 100 < S
  · by_cases c2 : thS (nxS (nxS s)) 2 = 1
    · rw [ev4 c1 c2]
      have h1 := thS_bnd (nxS (nxS (nxS s))) (n := A) (by omega)
      show EncOk 4 (thS s A) (thS (nxS (nxS (nxS s))) A) 0 0 0 0 0
      exact enc4 ⟨by omega, by omega⟩ ⟨by omega, by omega⟩
    · rw [ev3 c1 c2]; show EncOk 3 (thS s A) 0 0 0 0 0 0; exact enc_small ⟨by omega, by omega⟩ (by omega)
  by_cases c3 : 98 ≤ thS (nxS s) 100
  · rw [ev2 c1 c3]; show EncOk 2 (thS s A) 0 0 0 0 0 0; exact enc_small ⟨by omega, by omega⟩ (by omega)
  by_cases c4 : 95 ≤ thS (nxS s) 100
  · rw [ev0 c1 c3 c4]; show EncOk 0 (thS s A) 0 0 0 0 0 0; exact enc_small ⟨by omega, by omega⟩ (by omega)
  by_cases c5 : 80 ≤ thS (nxS s) 100
  · have hc := thS_bnd (nxS (nxS s)) (n := 14) (by decide)
    rw [ev1 c1 c3 c4 c5 rfl rfl rfl rfl]
    have hcc : 1 ≤ 1 + thS (nxS (nxS s)) 14 ∧ 1 + thS (nxS (nxS s)) 14 ≤ 14 := by omega
    clear hc
    generalize 1 + thS (nxS (nxS s)) 14 = c at hcc ⊢
    generalize hs1 : nxS (nxS (nxS s)) = s1
    have y1 := thS_bnd s1 (n := K) (by omega)
    have b1 : ∀ x, 0 ≤ thS x 4 ∧ thS x 4 < 4 := fun x => thS_bnd x (by decide)
    refine ⟨by show 0 ≤ thS s A; omega, by show thS s A < 64; omega, by show (0 : Int) ≤ 1; omega, by show (1 : Int) ≤ 5; omega, .inl ⟨rfl, ?_, by show c ≠ 0; omega, rfl, rfl⟩⟩
    show rightB c (if useK c then thS s1 K else 0) (if useA c then thS (if useK c then nxS s1 else s1) 4 else 0) (if useB c then thS (if useA c then nxS (if useK c then nxS s1 else s1) else (if useK c then nxS s1 else s1)) 4 else 0) = true
    have q1 := b1 (if useK c then nxS s1 else s1)
    have q2 := b1 (if useA c then nxS (if useK c then nxS s1 else s1) else (if useK c then nxS s1 else s1))
    generalize thS (if useA c then nxS (if useK c then nxS s1 else s1) else (if useK c then nxS s1 else s1)) 4 = z2 at q2 ⊢
    generalize thS (if useK c then nxS s1 else s1) 4 = z1 at q1 ⊢
    generalize thS s1 K = z0 at y1 ⊢
    unfold rightB useK useA useB
    simp only [decide_eq_true_eq]
    omega
  · rw [ev5 c1 c5]
    have h1 := thS_bnd (nxS (nxS s)) (n := P) (by omega)
    show EncOk 5 (thS s A) 0 (1 + thS (nxS (nxS s)) P) 0 0 0 0
    exact enc5 ⟨by omega, by omega⟩ ⟨by omega, by omega⟩
theorem rowJ_ok : ∀ i : Nat, (i : Int) ≤ 64 → RowOk (rowJ i) (2 * i)
  | 0, _ => ⟨[], rfl, rfl, fun _ h => by cases h⟩
  | i + 1, h => by
    have h1 := (rowJ_ok i (by omega)).snoc (e := ⟨0, 0, i, 0, 0, 0, 0, 0, 0⟩) (show EncOk 0 (i : Int) 0 0 0 0 0 0 from enc_small ⟨by omega, by omega⟩ (by omega))
    have h2 := h1.snoc (e := ⟨0, 5, i, 0, 40, 0, 0, 0, 0⟩) (show EncOk 5 (i : Int) 0 40 0 0 0 0 from enc5 ⟨by omega, by omega⟩ ⟨by omega, by omega⟩)
    rw [List.append_assoc] at h2
    exact h2
theorem rowE_ok {A E P K S : Int} (h : Rt A E P K S) (s : Int) : ∀ i : Nat, RowOk (rowE A P K S s i) (2 * A.toNat + i)
  | 0 => by
    have h2 := h.a2
    have h1 := h.a1
    exact rowJ_ok A.toNat (by omega)
  | i + 1 => (rowE_ok h s i).snoc (evS_ok h _)
theorem flat_get : ∀ (l : List Ev) (i j : Nat), j < 8 → (l.flatMap Ev.cells)[i * 8 + j]? = (l[i]?).bind fun e => e.cells[j]?
  | [], i, j, _ => by simp
  | e :: l, 0, j, hj => by
    have : e.cells.length = 8 := rfl
    simp only [List.flatMap_cons, Nat.zero_mul, Nat.zero_add]
    rw [List.getElem?_append_left (by omega)]; rfl
  | e :: l, i + 1, j, hj => by
    have h8 : e.cells.length = 8 := rfl
    simp only [List.flatMap_cons]
    rw [List.getElem?_append_right (by omega), h8, show (i + 1) * 8 + j - 8 = i * 8 + j by omega, flat_get l i j hj]; rfl
theorem sel_ok {xs : List Value} {n : Nat} (h : RowOk xs n) {i : Nat} (hi : i < n) : EncOk (selI (.agg xs.toArray) (i * 8 + 0)) (selI (.agg xs.toArray) (i * 8 + 1)) (selI (.agg xs.toArray) (i * 8 + 2)) (selI (.agg xs.toArray) (i * 8 + 3)) (selI (.agg xs.toArray) (i * 8 + 4)) (selI (.agg xs.toArray) (i * 8 + 5)) (selI (.agg xs.toArray) (i * 8 + 6)) (selI (.agg xs.toArray) (i * 8 + 7)) := by
  obtain ⟨l, rfl, hl, ho⟩ := h
  obtain ⟨e, he⟩ : ∃ e, l[i]? = some e := ⟨l[i]'(by omega), List.getElem?_eq_getElem _⟩
  have hs : ∀ j z, j < 8 → e.cells[j]? = some (.int .i64 z) → selI (.agg (l.flatMap Ev.cells).toArray) (i * 8 + j) = z := fun j z hj hz => by
    unfold selI
    simp only [List.getElem?_toArray, flat_get l i j hj, he, Option.bind_some, hz]
  rw [hs 0 e.k (by omega) rfl, hs 1 e.w (by omega) rfl, hs 2 e.o (by omega) rfl, hs 3 e.n (by omega) rfl, hs 4 e.c (by omega) rfl, hs 5 e.y (by omega) rfl, hs 6 e.a (by omega) rfl, hs 7 e.b (by omega) rfl]
  exact ho e (List.mem_of_getElem? he)

-- WHAT IS KNOWN OF A PLAN's FUNCTIONS
def tabOf (tab : List (List IT × Nat)) (ts : List IT) : Option Nat := match tab with
  | [] => none
  | (us, k) :: r => cond (Nat.beq us.length ts.length && (us.zip ts).all fun p => IT.beq p.1 p.2) (some k) (tabOf r ts)
def intsOf : List AVal → Option (List IT)
  | [] => some []
  | .int .i64 t :: r => (intsOf r).map (t :: ·)
  | _ => none
def argK (tab : List (List IT × Nat)) : List AVal → Option Nat
  | [.agg l] => (intsOf l).bind (tabOf tab)
  | _ => none
def spRt (tab : List (List IT × Nat)) : SpG := fun args H nl cs => (argK tab args).map fun k => [.ret (.bool (.var k)) H nl cs]
def rowK (k : Nat) : HB := ⟨.arr (.var k) k8 42 (.var (70 + k)) (.lit 0) none, false⟩
def slK (nl k : Nat) : AVal := .slice nl (.lit 0) (.var (70 + k)) (.nv (nl + 1))
def spEvR (tab : List (List IT × Nat)) : SpG := fun args H nl cs => match argK tab args with
  | some k => match lookB cs (.var k) with
    | some true => some [.ret (slK nl k) (H.set nl (rowK k)) (nl + 2) cs]
    | _ => none
  | none => none
def spEvP (tab : List (List IT × Nat)) : SpG := fun args H nl cs => match argK tab args with
  | some k => some [.ret (.tuple [slK nl k, .int .i64 (.lit 0)]) (H.set nl (rowK k)) (nl + 2) ((.var k, true) :: cs), .ret (.tuple [.sliceNil, .int .i64 (.lit 2)]) H nl ((.var k, false) :: cs)]
  | none => none
def vs (b : Nat) (e : IT) : List IT := [.var (b), .var (b + 1), e, .var (b + 3), .var (b + 4), .var (b + 5)]
/-- A row of the table: the plan's numbers, and what stands under its names. -/
def TabOk (ρ : Env) (us : List IT) (k : Nat) : Prop := ∃ A E P K S s : Int, AVal.denL ρ (us.map (AVal.int .i64)) = some [.int .i64 s, .int .i64 A, .int .i64 E, .int .i64 P, .int .i64 K, .int .i64 S] ∧
  ρ.B k = RtB A E P K S ∧ (RtB A E P K S = true → ρ.V k = .agg (rowE A P K S s E.toNat).toArray ∧ ρ.I (70 + k) = 2 * A + E)
theorem zip_eq : ∀ {a b : List IT}, a.length = b.length → ((a.zip b).all fun p => IT.beq p.1 p.2) = true → a = b
  | [], [], _, _ => rfl
  | x :: a, y :: b, hl, h => by
    simp only [List.zip_cons_cons, List.all_cons, Bool.and_eq_true] at h
    rw [IT.beq_eq h.1, zip_eq (by simpa using hl) h.2]
  | [], _ :: _, hl, _ => by simp at hl
  | _ :: _, [], hl, _ => by simp at hl
theorem tabOf_mem : ∀ {tab : List (List IT × Nat)} {ts : List IT} {k : Nat}, tabOf tab ts = some k → (ts, k) ∈ tab
  | [], ts, k, h => by cases h
  | (us, j) :: r, ts, k, h => by
    simp only [tabOf] at h
    cases hb : (Nat.beq us.length ts.length && (us.zip ts).all fun p => IT.beq p.1 p.2) with
    | true =>
      rw [hb] at h; cases h
      simp only [Bool.and_eq_true] at hb
      rw [zip_eq (Nat.eq_of_beq_eq_true hb.1) hb.2]; exact List.mem_cons_self
    | false => rw [hb] at h; exact List.mem_cons_of_mem _ (tabOf_mem h)
theorem intsOf_eq : ∀ {l : List AVal} {ts : List IT}, intsOf l = some ts → l = ts.map (AVal.int .i64)
  | [], ts, h => by cases h; rfl
  | .int .i64 t :: r, ts, h => by
    simp only [intsOf] at h
    obtain ⟨q, hq, rfl⟩ := Option.map_eq_some_iff.1 h
    rw [intsOf_eq hq]; rfl
  | .int .i8 t :: r, ts, h => by simp [intsOf] at h
  | .int .i16 t :: r, ts, h => by simp [intsOf] at h
  | .int .i32 t :: r, ts, h => by simp [intsOf] at h
  | .int .u8 t :: r, ts, h => by simp [intsOf] at h
  | .int .u16 t :: r, ts, h => by simp [intsOf] at h
  | .int .u32 t :: r, ts, h => by simp [intsOf] at h
  | .int .u64 t :: r, ts, h => by simp [intsOf] at h
  | .bool _ :: _, ts, h => by simp [intsOf] at h
  | .str _ :: _, ts, h => by simp [intsOf] at h
  | .ptrNil :: _, ts, h => by simp [intsOf] at h
  | .ptr _ _ :: _, ts, h => by simp [intsOf] at h
  | .sliceNil :: _, ts, h => by simp [intsOf] at h
  | .slice _ _ _ _ :: _, ts, h => by simp [intsOf] at h
  | .mapNil :: _, ts, h => by simp [intsOf] at h
  | .map _ :: _, ts, h => by simp [intsOf] at h
  | .func _ _ _ :: _, ts, h => by simp [intsOf] at h
  | .nilFunc :: _, ts, h => by simp [intsOf] at h
  | .iface _ _ :: _, ts, h => by simp [intsOf] at h
  | .nilIface :: _, ts, h => by simp [intsOf] at h
  | .agg _ :: _, ts, h => by simp [intsOf] at h
  | .tuple _ :: _, ts, h => by simp [intsOf] at h
  | .var _ :: _, ts, h => by simp [intsOf] at h
theorem argK_ok {tab : List (List IT × Nat)} {args : List AVal} {k : Nat} {ρ : Env} {xs : List Value} (h : argK tab args = some k) (hT : ∀ us k, (us, k) ∈ tab → TabOk ρ us k) (hx : AVal.denL ρ args = some xs) :
    ∃ A E P K S s : Int, xs = [planV A E P K S s] ∧ ρ.B k = RtB A E P K S ∧ (RtB A E P K S = true → ρ.V k = .agg (rowE A P K S s E.toNat).toArray ∧ ρ.I (70 + k) = 2 * A + E) := by
  unfold argK at h
  split at h
  · rename_i l
    obtain ⟨ts, hts, hk⟩ := Option.bind_eq_some_iff.1 h
    obtain ⟨A, E, P, K, S, s, hd, hB, hR⟩ := hT _ _ (tabOf_mem hk)
    rw [← intsOf_eq hts] at hd
    simp only [AVal.denL, AVal.den, hd, Option.map_some, Option.some.injEq] at hx
    exact ⟨A, E, P, K, S, s, hx.symm, hB, hR⟩
  · cases h
theorem spRt_ok {β : Base} {tab : List (List IT × Nat)} (hT : ∀ ρ : Env, β.G ρ.I ρ.B ρ.S ρ.V ρ.F → ∀ us k, (us, k) ∈ tab → TabOk ρ us k) {g : FuncId} (hg : ∀ (w : World) (A E P K S s : Int), Calls Tryz.prog g #[planV A E P K S s] w (fun e w' => e = .returned (.bool (RtB A E P K S)) ∧ Framed w w')) : SpGOk Tryz.prog β g (spRt tab) := by
  intro args H nl cs ls ρ w xs hr hx hh hc
  obtain ⟨k, hk, rfl⟩ := Option.map_eq_some_iff.1 hr
  obtain ⟨A, E, P, K, S, s, rfl, hB, _⟩ := argK_ok hk (hT ρ hh.g) hx
  exact spV_ok (hg w A E P K S s) (by simp only [AVal.den, BT.den, hB, Option.map_some]) hh hc
/-- The row is taken over. -/
theorem row_adopt {β : Base} {ρ : Env} {H : Heap} {nl : Nat} {w w' : World} (hh : HRel β ρ H nl w) {A E P K S s : Int} {k : Nat} {z : Value} (h : Rt A E P K S) (hz : EvRow A E P K S s w z w') (hV : ρ.V k = .agg (rowE A P K S s E.toNat).toArray) (hI : ρ.I (70 + k) = 2 * A + E) :
    ∃ ρ', ρ.Le ρ' ∧ (slK nl k).den ρ' = some z ∧ HRel β ρ' (H.set nl (rowK k)) (nl + 2) w' := by
  obtain ⟨b, cap, rfl, hb, hrow, hf⟩ := hz
  have ha := h.a1
  have he := h.e1
  have hle1 : ρ.Le (ρ.put nl b) := Env.le_put (hh.fresh nl (Nat.le_refl _))
  have hn : (IT.var (70 + k)).den (ρ.put nl b) = some (((2 * A + E).toNat : Nat) : Int) := by
    show some (ρ.I (70 + k)) = _
    rw [hI]; congr 1; omega
  obtain ⟨ob, h1, h2⟩ := hrow.rel (ρ := ρ.put nl b) (a := k) (n := .var (70 + k)) (off := .lit 0) hV hn rfl 42
  have hA := hh.adopt hf hb h1 (k := .arr (.var k) k8 42 (.var (70 + k)) (.lit 0) none) (rw := false) h2
  have hC := hA.num cap
  have hle2 : (ρ.put nl b).Le ((ρ.put nl b).put (nl + 1) cap) := Env.le_put (hA.fresh _ (Nat.le_refl _))
  refine ⟨_, hle1.trans hle2, ?_, hC⟩
  refine den_slice_mk (o := 0) (n := (2 * A + E).toNat) (c := cap) (hle2.n _ _ (Env.put_same ..)) rfl (IT.den_mono hle2 hn) ?_
  simp only [IT.den, Env.put_same]; rfl
theorem spEvR_ok {β : Base} {tab : List (List IT × Nat)} (hT : ∀ ρ : Env, β.G ρ.I ρ.B ρ.S ρ.V ρ.F → ∀ us k, (us, k) ∈ tab → TabOk ρ us k) : SpGOk Tryz.prog β 23 (spEvR tab) := by
  intro args H nl cs ls ρ w xs hr hx hh hc
  unfold spEvR at hr
  split at hr
  rotate_left
  · cases hr
  rename_i k hk
  split at hr
  rotate_left
  · cases hr
  rename_i hl
  simp only [Option.some.injEq] at hr
  subst hr
  obtain ⟨A, E, P, K, S, s, rfl, hB, hR⟩ := argK_ok hk (hT ρ hh.g) hx
  have hb : RtB A E P K S = true := by
    have := lookB_ok hl hc
    rw [← hB]; simpa only [BT.den, Option.some.injEq] using this
  obtain ⟨hV, hI⟩ := hR hb
  refine (events23 w A E P K S s (RtB_iff.1 hb)).mono fun e w2 ⟨v, he, hv⟩ => ⟨v, he, ?_⟩
  obtain ⟨ρ', hle, hd, hH⟩ := row_adopt hh (RtB_iff.1 hb) hv hV hI
  exact ⟨_, _, _, _, ρ', List.mem_cons_self, hle, hd, hH, hc.mono hle⟩
