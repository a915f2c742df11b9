/-
  Bounds (3): for how many there is room.
-/
import Derived.Test.YthifhdckfcgbkaaGreatBd2
namespace Go.Proofs.YthifhdckfcgbkaaGreat
open Go.Vm

def roomD (c s : Int) : Nat → Int
  | 0 => if wordsF 0 s ≤ c then 0 else -1
  | m + 1 => if wordsF ((m + 1 : Nat) : Int) s ≤ c then ((m + 1 : Nat) : Int) else roomD c s m
def roomF (c s : Int) : Int := roomD c s 1000

theorem sq_mono {a b : Int} (h : 0 ≤ a) (h2 : a ≤ b) : 400 * a * a ≤ 400 * b * b :=
  Int.le_trans (Int.mul_le_mul_of_nonneg_left h2 (by omega)) (Int.mul_le_mul_of_nonneg_right (by omega) (by omega))
theorem cl_mono {a b m : Int} (h : a ≤ b) : cl a m ≤ cl b m := by unfold cl mn2 mx2; (repeat' split) <;> omega
theorem words_mono {a b s : Int} (h : a ≤ b) : wordsF a s ≤ wordsF b s := by
  have := sq_mono (cl_le (x := a) (m := 1000) (by decide)).1 (cl_mono (m := 1000) h)
  unfold wordsF; omega
/-- Where it is enough for 'm', and not for one more. -/
theorem roomD_eq {c s m : Int} (h0 : -1 ≤ m) (h1 : m ≥ 0 → wordsF m s ≤ c) (h2 : wordsF (m + 1) s > c) : ∀ k : Nat, m ≤ k → roomD c s k = m
  | 0, hk => by
    unfold roomD
    rcases Int.lt_or_le m 0 with h | h
    · obtain rfl : m = -1 := by omega
      rw [if_neg (by have := h2; simp at this; omega)]
    · obtain rfl : m = 0 := by omega
      rw [if_pos (h1 (by omega))]
  | k + 1, hk => by
    unfold roomD
    by_cases e : m = ((k + 1 : Nat) : Int)
    · rw [if_pos (by rw [← e]; exact h1 (by omega)), e]
    · have hk' : m ≤ (k : Int) := by omega
      have := words_mono (a := m + 1) (b := ((k + 1 : Nat) : Int)) (s := s) (by omega)
      rw [if_neg (by omega)]
      exact roomD_eq h0 h1 h2 k hk'
theorem room_top {c s : Int} (h : wordsF 1000 s ≤ c) : roomF c s = 1000 := by
  unfold roomF roomD; rw [if_pos (show wordsF ((999 + 1 : Nat) : Int) s ≤ c from h)]; rfl
theorem roomD_up {c s : Int} {k : Nat} (h : k ≤ 1000) (hn : ∀ j : Nat, k < j → j ≤ 1000 → wordsF j s > c) : roomF c s = roomD c s k := by
  suffices H : ∀ d, k + d ≤ 1000 → roomD c s (k + d) = roomD c s k by
    have := H (1000 - k) (by omega)
    rw [show k + (1000 - k) = 1000 by omega] at this; exact this
  intro d
  induction d with
  | zero => exact fun _ => rfl
  | succ d ih =>
    intro hd
    rw [← Nat.add_assoc]
    show (if wordsF ((k + d + 1 : Nat) : Int) s ≤ c then _ else _) = _
    rw [if_neg (by have := hn (k + d + 1) (by omega) (by omega); omega)]
    exact ih (by omega)

def iv (k : Nat) : AVal := .int .i64 (.var k)
def g10 : Gen := ⟨10, 0, 0, 0⟩
def T14 : Tpl := ⟨[(0, iv 10), (1, iv 11), (5, iv 0)], 19, [], 0, [(.cmp .geq (.var 0) (.lit (-1)), true), (.cmp .leq (.var 0) (.lit 1000), true)], 3⟩
def T15 : Tpl := ⟨[(0, iv 10), (1, iv 11), (5, iv 0)], 16, [], 0, [(.cmp .geq (.var 0) (.lit (-1)), true), (.cmp .leq (.var 0) (.lit 1000), true)], 3⟩
def spW : CallF := spL [(12, spI2 1), (13, spI2 1)]
def GW : GP := fun _ _ _ _ F => F 1 = wordsF
def βW (w : World) : Base := ⟨w, [], GW⟩
theorem spW_ok (w : World) : CallOk Tryz.prog (βW w) spW := by
  refine spL_ok fun p hp => ?_
  simp only [List.mem_cons, List.not_mem_nil, or_false] at hp
  rcases hp with rfl | rfl
  · exact spI2_ok words fun _ _ _ _ _ h => h
  · exact spI2_ok rwords fun _ _ _ _ _ h => h
def ρW (x y : Int) : Env := envOf [0, 0, 0, 0, 0, 0, 0, 0, 0, 0, x, y] [] fun _ => wordsF
/-- What a round of counting comes to. -/
theorem add1 {x : Int} (h : -1 ≤ x) (h2 : x ≤ 1000) : IntKind.i64.wrap (x + 1) = x + 1 := wrap_ok (by omega) (by omega)
theorem sub1 {x : Int} (h : -1 ≤ x) (h2 : x ≤ 1000) : IntKind.i64.wrap (x - 1) = x - 1 := wrap_ok (by omega) (by omega)

noncomputable def b14 : Code := ((loopsOf (Tryz.f14.body.getD .ret) []).getD 0 (.ret, [])).1
noncomputable def k14 : List Item := ((loopsOf (Tryz.f14.body.getD .ret) []).getD 0 (.ret, [])).2
noncomputable def sums14e : List LS := [.next 0 (.code (.loop b14) :: k14) [] ⟨[(0, (.lit (-1)))], [], [], [], []⟩]
noncomputable def sums14 : List LS := [.next 0 (.inLoop b14 :: k14) [((.cmp .leq (.fn 1 (.bin .add .i64 (.var 0) (.lit 1)) (.var 11)) (.var 10)), true), ((.cmp .lss (.var 0) (.lit 1000)), true), ((.cmp .geq (.var 0) (.lit (-1))), true), ((.cmp .leq (.var 0) (.lit 1000)), true)] ⟨[(0, (.bin .add .i64 (.var 0) (.lit 1)))], [], [], [], []⟩,
  .ret (.int .i64 (.var 0)) [((.cmp .leq (.fn 1 (.bin .add .i64 (.var 0) (.lit 1)) (.var 11)) (.var 10)), false), ((.cmp .lss (.var 0) (.lit 1000)), true), ((.cmp .geq (.var 0) (.lit (-1))), true), ((.cmp .leq (.var 0) (.lit 1000)), true)],
  .ret (.int .i64 (.var 0)) [((.cmp .lss (.var 0) (.lit 1000)), false), ((.cmp .geq (.var 0) (.lit (-1))), true), ((.cmp .leq (.var 0) (.lit 1000)), true)]]
theorem run14e : (run Tryz.prog [] spW 4000 true 14 (entry Tryz.f14 (Tryz.f14.body.getD .ret) [iv 10, iv 11] .leaf 0 [])).map (·.filterMap (sumL g10 [T14])) = some sums14e := by kernel_rfl
theorem run14 : (run Tryz.prog [] spW 4000 true 14 (T14.st (.code b14 :: .inLoop b14 :: k14))).map (·.filterMap (sumL g10 [T14])) = some sums14 := by kernel_rfl
/-- Enough for so many. -/
def J14 (x y : Int) : GP := fun I _ _ _ _ => I 10 = x ∧ I 11 = y ∧ (I 0 ≥ 0 → wordsF (I 0) y ≤ x)
theorem loop14 (w0 : World) (x y : Int) : ∀ ρ, (J14 x y).at ρ → ∀ todo a w, todo = .inLoop b14 :: k14 ∨ todo = .code (.loop b14) :: k14 → SRel (βW w0) ρ (T14.st todo) a w →
    Goes Tryz.prog 14 (fun v w' => v = .int .i64 (roomF x y) ∧ Framed w0 w') todo a w := by
  refine loop_goes (β := βW w0) noCount noExt (spW_ok w0) follows rfl run14 (J14 x y) (fun ρ => (1000 - ρ.I 0).toNat) (fun ρ hJ hcs hG ih s hs => ?_)
  simp only [sums14, List.mem_cons, List.not_mem_nil, or_false] at hs
  rcases hs with rfl | rfl | rfl
  · intro ρ' hle hc T hT hG'
    have hT : T14 = T := by simpa using hT
    subst hT
    obtain ⟨j1, j2, j3⟩ := GP.mono hle hJ
    have hF : ρ'.F 1 = wordsF := hG'
    simp only [CRel_cons, CRel_nil, and_true, BT.den, IT.den, intCmp, intBin, hF, j1, j2, Option.some.injEq, decide_eq_true_eq] at hc
    obtain ⟨c1, c2, c3, c4⟩ := hc
    have e0 : ((Go.Vm.Sub.mk [(0, (IT.bin .add .i64 (.var 0) (.lit 1)))] [] [] [] []).app ρ').I 0 = ρ'.I 0 + 1 := by
      show ((IT.bin .add .i64 (.var 0) (.lit 1)).den ρ').getD 0 = _
      simp only [IT.den, intBin, Option.getD_some]; exact add1 c3 c4
    refine ⟨hG', ?_, fun a w r => ih ((Go.Vm.Sub.mk [(0, (IT.bin .add .i64 (.var 0) (.lit 1)))] [] [] [] []).app ρ') ?_ ⟨j1, j2, fun h => ?_⟩ _ a w (.inl rfl) r⟩
    · simp only [T14, CRel_cons, CRel_nil, and_true, BT.den, IT.den, intCmp, e0, Option.some.injEq, decide_eq_true_eq]
      omega
    · rw [e0]; have : ρ'.I = ρ.I := hle.i
      rw [this] at c2 c3 ⊢; omega
    · rw [e0]
      rw [add1 c3 c4] at c1
      exact c1
  · intro ρ' hle hc u hu
    obtain ⟨j1, j2, j3⟩ := GP.mono hle hJ
    have hF : ρ'.F 1 = wordsF := GP.mono (J := GW) hle hG
    simp only [CRel_cons, CRel_nil, and_true, BT.den, IT.den, intCmp, intBin, hF, j1, j2, Option.some.injEq, decide_eq_true_eq, decide_eq_false_iff_not] at hc
    obtain ⟨c1, c2, c3, c4⟩ := hc
    rw [add1 c3 c4] at c1
    simp only [AVal.den, IT.den, Option.map_some, Option.some.injEq] at hu
    rw [← hu]
    exact congrArg _ (roomD_eq (by omega) j3 (by omega) 1000 (by omega)).symm
  · intro ρ' hle hc u hu
    obtain ⟨j1, j2, j3⟩ := GP.mono hle hJ
    simp only [CRel_cons, CRel_nil, and_true, BT.den, IT.den, intCmp, Option.some.injEq, decide_eq_true_eq, decide_eq_false_iff_not] at hc
    have e : ρ'.I 0 = 1000 := by omega
    rw [e] at j3
    simp only [AVal.den, IT.den, Option.map_some, Option.some.injEq, e] at hu
    rw [← hu, room_top (j3 (by omega))]
theorem room (w : World) (x y : Int) : Calls Tryz.prog 14 #[.int .i64 x, .int .i64 y] w (fun e w' => e = .returned (.int .i64 (roomF x y)) ∧ Framed w w') := by
  refine calls_eq (calls_sums (β := βW w) (ρ := ρW x y) (Q := fun v => v = .int .i64 (roomF x y)) noCount noExt (spW_ok w) follows rfl Tryz.func14 rfl run14e rfl (HRel.startG w _ (fun _ => rfl) rfl) (fun _ h => by cases h) (fun s hs => ?_))
  rcases List.mem_cons.1 hs with rfl | hs
  · intro ρ' hle hc T hT hG
    obtain rfl : T14 = T := by simpa using hT
    refine ⟨hG, ?_, fun a w' r => loop14 w x y _ ⟨?_, ?_, fun h => ?_⟩ _ a w' (.inr rfl) r⟩
    · simp [T14, CRel_cons, CRel_nil, BT.den, IT.den, intCmp, Go.Vm.Sub.app, lk]
    · show ρ'.I 10 = x; rw [hle.i]; rfl
    · show ρ'.I 11 = y; rw [hle.i]; rfl
    · exact absurd (show (-1 : Int) ≥ 0 from h) (by decide)
  · cases hs

noncomputable def b15 : Code := ((loopsOf (Tryz.f15.body.getD .ret) []).getD 0 (.ret, [])).1
noncomputable def k15 : List Item := ((loopsOf (Tryz.f15.body.getD .ret) []).getD 0 (.ret, [])).2
noncomputable def sums15e : List LS := [.next 0 (.code (.loop b15) :: k15) [] ⟨[(0, (.lit 1000))], [], [], [], []⟩]
noncomputable def sums15 : List LS := [.ret (.int .i64 (.var 0)) [((.cmp .leq (.fn 1 (.var 0) (.var 11)) (.var 10)), true), ((.cmp .geq (.var 0) (.lit 0)), true), ((.cmp .geq (.var 0) (.lit (-1))), true), ((.cmp .leq (.var 0) (.lit 1000)), true)],
  .next 0 (.inLoop b15 :: k15) [((.cmp .leq (.fn 1 (.var 0) (.var 11)) (.var 10)), false), ((.cmp .geq (.var 0) (.lit 0)), true), ((.cmp .geq (.var 0) (.lit (-1))), true), ((.cmp .leq (.var 0) (.lit 1000)), true)] ⟨[(0, (.bin .sub .i64 (.var 0) (.lit 1)))], [], [], [], []⟩,
  .ret (.int .i64 (.lit (-1))) [((.cmp .geq (.var 0) (.lit 0)), false), ((.cmp .geq (.var 0) (.lit (-1))), true), ((.cmp .leq (.var 0) (.lit 1000)), true)]]
theorem run15e : (run Tryz.prog [] spW 4000 true 15 (entry Tryz.f15 (Tryz.f15.body.getD .ret) [iv 10, iv 11] .leaf 0 [])).map (·.filterMap (sumL g10 [T15])) = some sums15e := by kernel_rfl
theorem run15 : (run Tryz.prog [] spW 4000 true 15 (T15.st (.code b15 :: .inLoop b15 :: k15))).map (·.filterMap (sumL g10 [T15])) = some sums15 := by kernel_rfl
/-- Not enough for more. -/
def J15 (x y : Int) : GP := fun I _ _ _ _ => I 10 = x ∧ I 11 = y ∧ ∀ j : Nat, I 0 < j → j ≤ 1000 → wordsF j y > x
theorem loop15 (w0 : World) (x y : Int) : ∀ ρ, (J15 x y).at ρ → ∀ todo a w, todo = .inLoop b15 :: k15 ∨ todo = .code (.loop b15) :: k15 → SRel (βW w0) ρ (T15.st todo) a w →
    Goes Tryz.prog 15 (fun v w' => v = .int .i64 (roomF x y) ∧ Framed w0 w') todo a w := by
  refine loop_goes (β := βW w0) noCount noExt (spW_ok w0) follows rfl run15 (J15 x y) (fun ρ => (ρ.I 0 + 1).toNat) (fun ρ hJ hcs hG ih s hs => ?_)
  simp only [sums15, List.mem_cons, List.not_mem_nil, or_false] at hs
  rcases hs with rfl | rfl | rfl
  · intro ρ' hle hc u hu
    obtain ⟨j1, j2, j3⟩ := GP.mono hle hJ
    have hF : ρ'.F 1 = wordsF := GP.mono (J := GW) hle hG
    simp only [CRel_cons, CRel_nil, and_true, BT.den, IT.den, intCmp, hF, j1, j2, Option.some.injEq, decide_eq_true_eq] at hc
    obtain ⟨c1, c2, c3, c4⟩ := hc
    simp only [AVal.den, IT.den, Option.map_some, Option.some.injEq] at hu
    rw [← hu]
    obtain ⟨k, hk⟩ : ∃ k : Nat, ρ'.I 0 = k := ⟨(ρ'.I 0).toNat, by omega⟩
    rw [hk] at c1 c4 j3 ⊢
    rw [roomD_up (k := k) (by omega) (fun j h1 h2 => j3 j (by omega) h2)]
    cases k with
    | zero => unfold roomD; rw [if_pos (by simpa using c1)]; rfl
    | succ k => unfold roomD; rw [if_pos c1]
  · intro ρ' hle hc T hT hG'
    have hT : T15 = T := by simpa using hT
    subst hT
    obtain ⟨j1, j2, j3⟩ := GP.mono hle hJ
    have hF : ρ'.F 1 = wordsF := hG'
    simp only [CRel_cons, CRel_nil, and_true, BT.den, IT.den, intCmp, hF, j1, j2, Option.some.injEq, decide_eq_true_eq, decide_eq_false_iff_not] at hc
    obtain ⟨c1, c2, c3, c4⟩ := hc
    have e0 : ((Go.Vm.Sub.mk [(0, (IT.bin .sub .i64 (.var 0) (.lit 1)))] [] [] [] []).app ρ').I 0 = ρ'.I 0 - 1 := by
      show ((IT.bin .sub .i64 (.var 0) (.lit 1)).den ρ').getD 0 = _
      simp only [IT.den, intBin, Option.getD_some]; exact sub1 c3 c4
    refine ⟨hG', ?_, fun a w r => ih ((Go.Vm.Sub.mk [(0, (IT.bin .sub .i64 (.var 0) (.lit 1)))] [] [] [] []).app ρ') ?_ ⟨j1, j2, fun j h1 h2 => ?_⟩ _ a w (.inl rfl) r⟩
    · simp only [T15, CRel_cons, CRel_nil, and_true, BT.den, IT.den, intCmp, e0, Option.some.injEq, decide_eq_true_eq]
      omega
    · rw [e0]; have : ρ'.I = ρ.I := hle.i
      rw [this] at c2 c3 ⊢; omega
    · rw [e0] at h1
      by_cases e : ρ'.I 0 = j
      · rw [← e]; omega
      · exact j3 j (by omega) h2
  · intro ρ' hle hc u hu
    obtain ⟨j1, j2, j3⟩ := GP.mono hle hJ
    simp only [CRel_cons, CRel_nil, and_true, BT.den, IT.den, intCmp, Option.some.injEq, decide_eq_true_eq, decide_eq_false_iff_not] at hc
    simp only [AVal.den, IT.den, Option.map_some, Option.some.injEq] at hu
    rw [← hu, roomD_up (k := 0) (by omega) (fun j h1 h2 => j3 j (by omega) h2)]
    have := j3 0 (by omega) (by omega)
    unfold roomD; rw [if_neg (by simp at this; omega)]
theorem rroom (w : World) (x y : Int) : Calls Tryz.prog 15 #[.int .i64 x, .int .i64 y] w (fun e w' => e = .returned (.int .i64 (roomF x y)) ∧ Framed w w') := by
  refine calls_eq (calls_sums (β := βW w) (ρ := ρW x y) (Q := fun v => v = .int .i64 (roomF x y)) noCount noExt (spW_ok w) follows rfl Tryz.func15 rfl run15e rfl (HRel.startG w _ (fun _ => rfl) rfl) (fun _ h => by cases h) (fun s hs => ?_))
  rcases List.mem_cons.1 hs with rfl | hs
  · intro ρ' hle hc T hT hG
    obtain rfl : T15 = T := by simpa using hT
    refine ⟨hG, ?_, fun a w' r => loop15 w x y _ ⟨?_, ?_, fun j h1 h2 => ?_⟩ _ a w' (.inr rfl) r⟩
    · simp [T15, CRel_cons, CRel_nil, BT.den, IT.den, intCmp, Go.Vm.Sub.app, lk]
    · show ρ'.I 10 = x; rw [hle.i]; rfl
    · show ρ'.I 11 = y; rw [hle.i]; rfl
    · exact absurd (show (1000 : Int) < j from h1) (by omega)
  · cases hs

end Go.Proofs.YthifhdckfcgbkaaGreat
