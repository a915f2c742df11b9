/-
  Stocks (3): Take and Give, over a stock's blocks.
-/
import Derived.Test.YtlcjgmehccopkaaLp2
namespace Go.Proofs.Ytlcjgmehccopkaa
open Go.Vm Go.Vm.Le
namespace Lp

-- THE LEAST FREE NUMBER, PLAINLY
def lf (most : Int) (K : List Int) : Int := (((List.range most.toNat).map fun (i : Nat) => (i : Int) + 1).find? fun x => decide (x ∉ K)).getD 0
theorem lf_find (K : List Int) : ∀ (m s : Nat) (n : Nat), s ≤ n → n < s + m → ((n : Int) + 1 ∉ K) → (∀ i : Nat, s ≤ i → i < n → (i : Int) + 1 ∈ K) → (((List.range' s m).map fun (i : Nat) => (i : Int) + 1).find? fun x => decide (x ∉ K)) = some ((n : Int) + 1)
  | 0, s, n, h1, h2, _, _ => by omega
  | m + 1, s, n, h1, h2, hn, ha => by
    rw [List.range'_succ, List.map_cons, List.find?_cons]
    rcases Nat.eq_or_lt_of_le h1 with rfl | hlt
    · simp [hn]
    · have : (s : Int) + 1 ∈ K := ha s (Nat.le_refl _) hlt
      simp only [this, not_true_eq_false, decide_false]
      exact lf_find K m (s + 1) n hlt (by omega) hn fun i hi => ha i (by omega)
theorem lf_eq {most n : Int} {K : List Int} (h1 : 1 ≤ n) (h2 : n ≤ most) (hn : n ∉ K) (ha : ∀ i, 1 ≤ i → i < n → i ∈ K) : lf most K = n := by
  unfold lf
  obtain ⟨k, rfl⟩ : ∃ k : Nat, n = (k : Int) + 1 := ⟨(n - 1).toNat, by omega⟩
  rw [List.range_eq_range', lf_find K _ 0 k (Nat.zero_le _) (by omega) hn fun i _ hi => ha _ (by omega) (by omega)]
  rfl
theorem lf_zero {most : Int} {K : List Int} (ha : ∀ i, 1 ≤ i → i ≤ most → i ∈ K) : lf most K = 0 := by
  unfold lf
  rw [List.find?_eq_none.2]
  · rfl
  · intro x hx
    obtain ⟨i, hi, rfl⟩ := List.mem_map.1 hx
    have hi := List.mem_range.1 hi
    simp [ha ((i : Int) + 1) (by omega) (by omega)]
-- THE RUNS
def Bk.pick {α : Type} : Bk → α → α → α → α
  | .nil, a, _, _ => a
  | .zero, _, b, _ => b
  | .row, _, _, c => c
def qz (z : Bk) : Nat := z.pick 1 2 0
def sg (z : Bk) (ans : List (Nat × IT)) (c3 c6 c4 c5 c7 : IT) : Sub := ⟨ans ++ [(0, .var 0), (3, c3)] ++ z.pick [] [] [(6, c6)] ++ [(4, c4)] ++ z.pick [] [] [(5, c5), (7, c7)], [], [], [], z.pick [(0, 0), (2, 2)] [(0, 0), (2, 2), (1, 1)] [(0, 0), (1, 1), (2, 2), (4, 4)]⟩
noncomputable def RunS (f : Nat) (b : Code) (a : List AVal) (u : AVal) (z : Bk) (c : Cs) (l : LM) : Prop := (run Try.prog [] sp8 4000 true f (entry (Try.prog.funcs.getD f default) b a (ofP (hB z)) 5 (c ++ csB z))).map (·.filterMap (sumMD gS (oL z) (eS u) [])) = some [l]
def me : AVal := .ptr 0 (.lit 0)
def qf (z : Bk) : Cs := z.pick [] [] (f6 false)
noncomputable def RunT (z : Bk) (c : Cs) (l : LM) : Prop := (run Try.prog [] sp8 4000 true 8 (entry Try.f8 (Try.f8.body.getD .ret) [me] (ofP (hB z)) 5 (c ++ csB z))).map (·.filterMap (sumMD gS (oL z) (eS tk) [])) = some [l]
noncomputable def RunV (z : Bk) (c : Cs) (l : LM) : Prop := (run Try.prog [] sp8 4000 true 11 (entry Try.f11 (Try.f11.body.getD .ret) [me, .int .i64 tN0] (ofP (hB z)) 5 (c ++ csB z))).map (·.filterMap (sumMD gS (oL z) (eS (iV 9)) [])) = some [l]
theorem t_next (z : Bk) : RunT z (qf z ++ fHi true ++ noH) (.done (qz z) [] (sg z [(8, h1), (9, .lit 0)] h1 (.var 6) (put (.var 4) h1) (.var 5) (.var 7))) := by cases z <;> (unfold RunT; kernel_rfl)
theorem t_full (z : Bk) : RunT z (qf z ++ fHi false) (.done (qz z) [] (sg z [(8, .lit 0), (9, .lit 20)] (.var 3) (.var 6) (.var 4) (.var 5) (.var 7))) := by cases z <;> (unfold RunT; kernel_rfl)
theorem t_pop : RunT .row (f6 true ++ fP ++ noX) (.done 0 [] (sg .row [(8, x5), (9, .lit 0)] (.var 3) n6 (put (.var 4) x5) dn5 (.var 7))) := by unfold RunT; kernel_rfl
theorem v_no (z : Bk) : RunV z (ze (.var 4) tN0 false) (.done (qz z) [] (sg z [(9, .lit 21)] (.var 3) (.var 6) (.var 4) (.var 5) (.var 7))) := by cases z <;> (unfold RunV; kernel_rfl)
def sgA : Sub := ⟨[(9, .lit 0), (0, .var 0), (3, .var 3), (6, .lit 1), (4, .un 8 (.var 4) tN0), (5, .un 3 (.lit 0) tN0), (7, .lit 1)], [], [], [], [(0, 0), (2, 2), (1, 7), (4, 6)]⟩
def sgB : Sub := ⟨[(9, .lit 0), (0, .var 0), (3, .var 3), (6, h6), (4, .un 8 (.var 4) tN0), (5, psh (.un 10 (.var 5) (.var 6)) j6), (7, h6)], [], [], [], [(0, 0), (1, 1), (2, 2), (3, 7), (4, 6)]⟩
theorem v_nil : RunV .nil (ze (.var 4) tN0 true) (.done 0 [] sgA) := by unfold RunV; kernel_rfl
theorem v_zero : RunV .zero (ze (.var 4) tN0 true) (.done 0 [] sgA) := by unfold RunV; kernel_rfl
theorem v_row : RunV .row (fQ ++ ze (.var 4) tN0 true) (.done 3 [] sgB) := by unfold RunV; kernel_rfl
-- THE ENDS
def βS (w : World) (z : Bk) : Base := ⟨w, oL z, GL⟩
def RS (w : World) (b : Nat) (F : Nat → Prop) (most : Int) (h : Nat) (K : List Int) (xv : Value) : Value → World → Prop := fun x w' => x = xv ∧ ∃ F', BigStep w w' F F' ∧ StockIn w' b F' most h K
theorem c0' {ρ : Env} : CRel ρ [] := CRel_nil.2 trivial
section
variable {w : World} {b : Nat} {F : Nat → Prop} {most : Int} {h h' : Nat} {B K B' K' : List Int} {ρ : Env} {z : Bk} {f : FuncId} {u : AVal} {v : Value}
theorem endS (hb : ρ.N 0 = some b) (ho : ∀ l ∈ oL z, ∃ y, ρ.N l = some y ∧ F y) (h1z : z = .zero → ∃ b1 o : Nat, ρ.N 1 = some b1 ∧ ρ.I 11 = (o : Int)) (s : S02 v 0 most 0 h B K ρ) {ans : List (Nat × IT)} {c3 c6 c4 c5 c7 : IT} {x4 x5' : Int} {xv : Value}
    (hans : ∀ k, (k = 0 ∨ k = 3 ∨ k = 4 ∨ k = 5 ∨ k = 6 ∨ k = 7 ∨ k = 11) → lk ans k = none) (s' : Stk most h' B' K') (hB' : z ≠ .row → B' = [])
    (d3 : ∀ ρ', ρ.Le ρ' → GL.at ρ' → c3.den ρ' = some (h' : Int)) (d4 : ∀ ρ', ρ.Le ρ' → GL.at ρ' → c4.den ρ' = some x4) (e4 : decL x4 = usedL K') (d6 : z = .row → ∀ ρ', ρ.Le ρ' → GL.at ρ' → c6.den ρ' = some (B'.length : Int)) (d5 : z = .row → ∀ ρ', ρ.Le ρ' → GL.at ρ' → c5.den ρ' = some x5') (e5 : z = .row → (decL x5').take B'.length = B')
    (hx : ∀ ρ', ρ.Le ρ' → GL.at ρ' → u.den ((sg z ans c3 c6 c4 c5 c7).app ρ') = some xv) : MGoodO Try.prog (βS w z) f (RS w b F most h' K' xv) (eS u) [] ρ (.done (qz z) [] (sg z ans c3 c6 c4 c5 c7)) := by
  have look : ∀ k t, (k = 0 ∨ k = 3 ∨ k = 4 ∨ k = 5 ∨ k = 6 ∨ k = 7 ∨ k = 11) → lk ((sg z [] c3 c6 c4 c5 c7).I) k = t → lk ((sg z ans c3 c6 c4 c5 c7).I) k = t := fun k t hk ht => by
    have app : ∀ (l r : List (Nat × IT)), lk l k = none → lk (l ++ r) k = lk r k := fun l r => by
      induction l with
      | nil => intro _; rfl
      | cons p l ih =>
        intro hl
        obtain ⟨i, x⟩ := p
        simp only [lk, List.cons_append] at hl ⊢
        cases hb : Nat.beq i k with
        | true => rw [hb] at hl; cases hl
        | false => rw [hb] at hl; simp only [cond_false] at hl ⊢; exact ih hl
    rw [← ht]
    show lk (ans ++ [(0, .var 0), (3, c3)] ++ z.pick [] [] [(6, c6)] ++ [(4, c4)] ++ z.pick [] [] [(5, c5), (7, c7)]) k = lk ([] ++ [(0, .var 0), (3, c3)] ++ z.pick [] [] [(6, c6)] ++ [(4, c4)] ++ z.pick [] [] [(5, c5), (7, c7)]) k
    simp only [List.append_assoc, List.nil_append]
    exact app ans _ (hans k hk)
  have own : ∀ l ∈ oL z, lk (sg z ans c3 c6 c4 c5 c7).N l = some l := fun l hl => by
    cases z <;> simp only [oL, List.mem_cons, List.not_mem_nil, or_false] at hl
    · rcases hl with rfl | rfl <;> rfl
    · rcases hl with rfl | rfl <;> rfl
    · rcases hl with rfl | rfl | rfl <;> rfl
  have hT : (eS u)[qz z]? = some ⟨[(0, u)], 1, hB z, 5, [], 0⟩ := by cases z <;> rfl
  refine doneR hT own fun ρ' hle hG => ⟨hG, c0', fun x w' r => ?_⟩
  obtain ⟨y, hy, he⟩ := r.t 0 u rfl
  obtain rfl : x = y := Option.some.inj he
  have hxy := hx ρ' hle hG
  rw [hy] at hxy
  refine ⟨Option.some.inj hxy, ?_⟩
  have i0 : ((sg z ans c3 c6 c4 c5 c7).app ρ').I 0 = most := sbI (look 0 (some (.var 0)) (.inl rfl) (by cases z <;> rfl)) (by show some (ρ'.I 0) = _; rw [hle.i, s.i0])
  have i3 : ((sg z ans c3 c6 c4 c5 c7).app ρ').I 3 = (h' : Int) := sbI (look 3 (some c3) (.inr (.inl rfl)) (by cases z <;> rfl)) (d3 ρ' hle hG)
  have i4 : decL (((sg z ans c3 c6 c4 c5 c7).app ρ').I 4) = usedL K' := by
    rw [sbI (look 4 (some c4) (.inr (.inr (.inl rfl))) (by cases z <;> rfl)) (d4 ρ' hle hG), e4]
  have hN0 : ((sg z ans c3 c6 c4 c5 c7).app ρ').N 0 = some b := by
    have : ((sg z ans c3 c6 c4 c5 c7).app ρ').N 0 = ρ'.N 0 := by cases z <;> rfl
    rw [this]; exact hle.n _ _ hb
  have hF : ∀ l ∈ (βS w z).own, ∀ y, ((sg z ans c3 c6 c4 c5 c7).app ρ').N l = some y → F y := fun l hl y hy => by
    obtain ⟨y0, hy0, hF0⟩ := ho l hl
    have e : ((sg z ans c3 c6 c4 c5 c7).app ρ').N l = ρ'.N l := by
      cases z <;> simp only [βS, oL, List.mem_cons, List.not_mem_nil, or_false] at hl
      · rcases hl with rfl | rfl <;> rfl
      · rcases hl with rfl | rfl <;> rfl
      · rcases hl with rfl | rfl | rfl <;> rfl
    rw [e, hle.n _ _ hy0] at hy
    cases hy; exact hF0
  have m0 := s.m0
  have m1 := s.m
  cases z with
  | nil =>
    obtain rfl := hB' (by simp)
    exact end_none (v := .sliceNil) r.h hF rfl rfl hN0 i0 i3 i4 (a := none) rfl (fun _ e => by cases e) s' m0 m1
  | zero =>
    obtain rfl := hB' (by simp)
    obtain ⟨b1, o, hb1, ho1⟩ := h1z rfl
    have e1 : ((sg .zero ans c3 c6 c4 c5 c7).app ρ').N 1 = some b1 := by
      show ρ'.N 1 = _; exact hle.n _ _ hb1
    have e11 : ((sg .zero ans c3 c6 c4 c5 c7).app ρ').I 11 = (o : Int) := by
      rw [app_I (look 11 none (.inr (.inr (.inr (.inr (.inr (.inr rfl)))))) rfl), hle.i, ho1]
    exact end_none (v := Bk.zero.v) r.h hF rfl rfl hN0 i0 i3 i4 (a := some ⟨b1, o, none⟩) (den_slice_of e1 (congrArg some e11) rfl rfl) (fun p e => by cases e; rfl) s' m0 m1
  | row =>
    have i6 : ((sg .row ans c3 c6 c4 c5 c7).app ρ').I 6 = (B'.length : Int) := sbI (look 6 (some c6) (.inr (.inr (.inr (.inr (.inl rfl))))) rfl) (d6 rfl ρ' hle hG)
    have i5 : ((sg .row ans c3 c6 c4 c5 c7).app ρ').I 5 = x5' := sbI (look 5 (some c5) (.inr (.inr (.inr (.inl rfl)))) rfl) (d5 rfl ρ' hle hG)
    exact end_row (r := 1) (by decide) (by decide) r.h hF rfl rfl rfl hN0 i0 i3 i4 i6 (by rw [i5]; exact e5 rfl) s' m0 m1
end
end Lp
end Go.Proofs.Ytlcjgmehccopkaa
