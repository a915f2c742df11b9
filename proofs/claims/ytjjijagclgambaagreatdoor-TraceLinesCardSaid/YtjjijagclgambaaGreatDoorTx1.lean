/-
  Texts (1): the reference's digits and numbers.
-/
import Derived.Test.YtjjijagclgambaaGreatDoorTx0
namespace Go.Proofs.YtjjijagclgambaaGreatDoor
open Go.Vm
namespace Txt
def noSp : CallF := spL []
theorem noSp_ok {β : Base} : CallOk Tryz.prog β noSp := spL_ok fun _ h => by cases h

theorem wrap_ok {x : Int} (h : -9223372036854775808 ≤ x) (h2 : x < 9223372036854775808) : IntKind.i64.wrap x = x := by
  rw [IntKind.wrap_i64]; omega
theorem wrap8 {x : Int} (h : 0 ≤ x) (h2 : x < 256) : IntKind.u8.wrap x = x := by
  rw [IntKind.wrap_u8]; omega
theorem calls_eq {f : FuncId} {args : Array Value} {w : World} {x : Value} (h : Calls Tryz.prog f args w (fun e w' => ∃ v, e = .returned v ∧ v = x ∧ Framed w w')) : Calls Tryz.prog f args w (fun e w' => e = .returned x ∧ Framed w w') :=
  h.mono fun _ _ ⟨_, he, hv, hf⟩ => ⟨by rw [he, hv], hf⟩
def dgI (n : Int) : UInt8 := UInt8.ofNat (IntKind.u8.wrap (IntKind.i64.wrap (48 + n.tmod 10))).toNat
theorem dgI_nat (m : Nat) : dgI m = UInt8.ofNat (48 + m % 10) := by
  unfold dgI
  rw [Int.tmod_eq_emod_of_nonneg (by omega), wrap_ok (by omega) (by omega), wrap8 (by omega) (by omega)]
  congr 1
/-- The digits of a number, ahead of others. -/
def digD (n : Int) (t : List UInt8) : List UInt8 := if n < 10 then dgI n :: t else Lib.decDigits n.toNat ++ t
theorem digD_dec {n : Int} (h : 0 ≤ n) (t : List UInt8) : digD n t = Lib.decDigits n.toNat ++ t := by
  obtain ⟨m, rfl⟩ := Int.eq_ofNat_of_zero_le h
  unfold digD
  split
  · rename_i hlt
    rw [dgI_nat, Int.toNat_natCast, Lib.decDigits, dif_pos (by omega)]
    rw [show m % 10 = m by omega]; rfl
  · rfl
theorem digD_step {n : Int} (h : 9 < n) (t : List UInt8) : digD n t = digD (n / 10) (dgI n :: t) := by
  obtain ⟨m, rfl⟩ := Int.eq_ofNat_of_zero_le (show 0 ≤ n by omega)
  rw [digD_dec (by omega), digD_dec (by omega), Int.toNat_natCast, show ((m : Int) / 10).toNat = m / 10 by omega, dgI_nat]
  rw [Lib.decDigits, dif_neg (by omega)]
  simp
def iv (j : Nat) : AVal := .int .i64 (.var j)
def D0 : Tpl := ⟨[(0, iv 0), (3, .str (.var 0))], 23, [], 0, [(.cmp .leq (.slen (.var 0)) (.lit 100), true)], 3⟩
def gD : Gen := ⟨1, 0, 1, 0⟩
noncomputable def gb0 : Code := ((loopsOf (Tryz.f54.body.getD .ret) []).getD 0 (.ret, [])).1
noncomputable def gk0 : List Item := ((loopsOf (Tryz.f54.body.getD .ret) []).getD 0 (.ret, [])).2
noncomputable def sumsDe : List LS := [.next 0 (.code (.loop gb0) :: gk0) [] ⟨[(0, (.var 0))], [], [(0, (.byt (.cv .u8 (.bin .add .i64 (.lit 48) (.bin .rem .i64 (.var 0) (.lit 10))))))], [], []⟩]
noncomputable def sumsD0 : List LS := [.next 0 (.inLoop gb0 :: gk0) [((.cmp .leq (.slen (.cat (.byt (.cv .u8 (.bin .add .i64 (.lit 48) (.bin .rem .i64 (.bin .quo .i64 (.var 0) (.lit 10)) (.lit 10))))) (.var 0))) (.lit 9223372036854775807)), true), ((.cmp .gtr (.var 0) (.lit 9)), true), ((.cmp .leq (.slen (.var 0)) (.lit 100)), true)] ⟨[(0, (.bin .quo .i64 (.var 0) (.lit 10)))], [], [(0, (.cat (.byt (.cv .u8 (.bin .add .i64 (.lit 48) (.bin .rem .i64 (.bin .quo .i64 (.var 0) (.lit 10)) (.lit 10))))) (.var 0)))], [], []⟩,
  .stop [((.cmp .leq (.slen (.cat (.byt (.cv .u8 (.bin .add .i64 (.lit 48) (.bin .rem .i64 (.bin .quo .i64 (.var 0) (.lit 10)) (.lit 10))))) (.var 0))) (.lit 9223372036854775807)), false), ((.cmp .gtr (.var 0) (.lit 9)), true), ((.cmp .leq (.slen (.var 0)) (.lit 100)), true)],
  .ret (.str (.var 0)) [((.cmp .gtr (.var 0) (.lit 9)), false), ((.cmp .leq (.slen (.var 0)) (.lit 100)), true)]]
theorem runDe : (run Tryz.prog [] noSp 4000 true 54 (entry Tryz.f54 (Tryz.f54.body.getD .ret) [iv 0] .leaf 0 [])).map (·.filterMap (sumL gD [D0])) = some sumsDe := by kernel_rfl
theorem runD0 : (run Tryz.prog [] noSp 4000 true 54 (D0.st (.code gb0 :: .inLoop gb0 :: gk0))).map (·.filterMap (sumL gD [D0])) = some sumsD0 := by kernel_rfl
/-- So far it has come. -/
def JD (N : Int) : GP := fun I _ S _ _ => ∃ t : List UInt8, ∃ k : Nat, S 0 = ⟨(dgI (I 0) :: t).toArray⟩ ∧ digD N [] = digD (I 0) t ∧ I 0 < 10 ^ k ∧ t.length + k ≤ 20
theorem sz_cons (a : UInt8) (t : List UInt8) : (ByteArray.mk (a :: t).toArray).size = t.length + 1 := by
  show (a :: t).toArray.size = _; simp
theorem app_cons (a : UInt8) (t : List UInt8) : (ByteArray.mk #[a]) ++ (ByteArray.mk t.toArray) = ByteArray.mk (a :: t).toArray := by
  apply ByteArray.ext
  simp
theorem quo10 {n : Int} (h : 9 < n) (h2 : n < 10 ^ 20) : IntKind.i64.wrap (n.tdiv 10) = n / 10 ∨ 9223372036854775808 ≤ n / 10 := by
  rw [Int.tdiv_eq_ediv_of_nonneg (by omega)]
  by_cases hb : n / 10 < 9223372036854775808
  · exact .inl (wrap_ok (by omega) hb)
  · exact .inr (by omega)
theorem loopD (w0 : World) (N : Int) (_hN : N < 9223372036854775808) : ∀ ρ, GP.at (fun I B S V F => JD N I B S V F ∧ I 0 < 9223372036854775808) ρ → ∀ todo a w, todo = .inLoop gb0 :: gk0 ∨ todo = .code (.loop gb0) :: gk0 → SRel (.plain w0) ρ (D0.st todo) a w →
    Goes Tryz.prog 54 (fun x w' => x = .string ⟨(digD N []).toArray⟩ ∧ Framed w0 w') todo a w := by
  refine loop_goes (β := .plain w0) noCount noExt noSp_ok follows rfl runD0 (fun I B S V F => JD N I B S V F ∧ I 0 < 9223372036854775808) (fun ρ => (ρ.I 0).toNat) (fun ρ hJ hcs hG ih q hq => ?_)
  obtain ⟨⟨t, k, hS, hD, hk, ht⟩, hI⟩ := hJ
  have hS : ρ.S 0 = ⟨(dgI (ρ.I 0) :: t).toArray⟩ := hS
  simp only [sumsD0, List.mem_cons, List.not_mem_nil, or_false] at hq
  have qd : ∀ ρ' : Env, ρ.Le ρ' → 9 < ρ.I 0 → (IT.bin .quo .i64 (.var 0) (.lit 10)).den ρ' = some (ρ.I 0 / 10) := fun ρ' hle h9 => by
    simp only [IT.den, hle.i, intBin]
    rw [if_neg (show ¬ ((10 : Int) = 0) by decide), Int.tdiv_eq_ediv_of_nonneg (by omega), wrap_ok (by omega) (by omega)]
  have bd : ∀ ρ' : Env, ρ.Le ρ' → 9 < ρ.I 0 → (ST.byt (.cv .u8 (.bin .add .i64 (.lit 48) (.bin .rem .i64 (.bin .quo .i64 (.var 0) (.lit 10)) (.lit 10))))).den ρ' = ⟨#[dgI (ρ.I 0 / 10)]⟩ := fun ρ' hle h9 => by
    simp only [ST.den, PT.den, hle.i, intBin]
    rw [if_neg (show ¬ ((10 : Int) = 0) by decide), Int.tdiv_eq_ediv_of_nonneg (by omega), Option.getD_some, wrap_ok (x := ρ.I 0 / 10) (by omega) (by omega)]
    rfl
  rcases hq with rfl | rfl | rfl
  · intro ρ' hle hc T hT hG'
    obtain rfl : D0 = T := by simpa using hT
    have h9 := hc (.cmp .gtr (.var 0) (.lit 9), true) (by simp)
    simp only [BT.den, IT.den, hle.i, intCmp, Option.some.injEq, decide_eq_true_eq] at h9
    have hq := qd ρ' hle (by omega)
    have hS2 : (ST.cat (.byt (.cv .u8 (.bin .add .i64 (.lit 48) (.bin .rem .i64 (.bin .quo .i64 (.var 0) (.lit 10)) (.lit 10))))) (.var 0)).den ρ' = ⟨(dgI (ρ.I 0 / 10) :: dgI (ρ.I 0) :: t).toArray⟩ := by
      show (ST.byt _).den ρ' ++ ρ'.S 0 = _
      rw [bd ρ' hle (by omega), hle.s, hS, app_cons]
    have hk1 : 2 ≤ k := by
      rcases k with _ | _ | k
      · simp at hk; omega
      · simp at hk; omega
      · omega
    obtain ⟨j, rfl⟩ : ∃ j, k = j + 1 := ⟨k - 1, by omega⟩
    have hp : (10 : Int) ^ (j + 1) = 10 * 10 ^ j := by rw [Int.pow_succ]; omega
    have e0 : ((IT.bin .quo .i64 (.var 0) (.lit 10)).den ρ').getD 0 = ρ.I 0 / 10 := by rw [hq]; rfl
    refine ⟨trivial, CRel_cons.2 ⟨?_, CRel_nil.2 trivial⟩, fun a w r => ih _ ?_ ?_ _ a w (.inl rfl) r⟩
    · show some (decide (((ST.cat (.byt (.cv .u8 (.bin .add .i64 (.lit 48) (.bin .rem .i64 (.bin .quo .i64 (.var 0) (.lit 10)) (.lit 10))))) (.var 0)).den ρ').size ≤ (100 : Int))) = some true
      rw [hS2, sz_cons]
      simp only [List.length_cons, Option.some.injEq, decide_eq_true_eq]; omega
    · show (((IT.bin .quo .i64 (.var 0) (.lit 10)).den ρ').getD 0).toNat < (ρ.I 0).toNat
      rw [e0]; omega
    · refine ⟨⟨dgI (ρ.I 0) :: t, j, ?_, ?_, ?_, by simp only [List.length_cons]; omega⟩, ?_⟩
      · show (ST.cat (.byt (.cv .u8 (.bin .add .i64 (.lit 48) (.bin .rem .i64 (.bin .quo .i64 (.var 0) (.lit 10)) (.lit 10))))) (.var 0)).den ρ' = ⟨(dgI (((IT.bin .quo .i64 (.var 0) (.lit 10)).den ρ').getD 0) :: dgI (ρ.I 0) :: t).toArray⟩
        rw [hS2, e0]
      · show digD N [] = digD (((IT.bin .quo .i64 (.var 0) (.lit 10)).den ρ').getD 0) (dgI (ρ.I 0) :: t)
        rw [e0, ← digD_step (by omega)]; exact hD
      · show ((IT.bin .quo .i64 (.var 0) (.lit 10)).den ρ').getD 0 < 10 ^ j
        have hk' : ρ.I 0 < 10 ^ (j + 1) := hk
        rw [e0]; rw [hp] at hk'; omega
      · show ((IT.bin .quo .i64 (.var 0) (.lit 10)).den ρ').getD 0 < _
        rw [e0]; omega
  · intro ρ' hle hc
    have h9 := hc (.cmp .gtr (.var 0) (.lit 9), true) (by simp)
    simp only [BT.den, IT.den, hle.i, intCmp, Option.some.injEq, decide_eq_true_eq] at h9
    have hl := (CRel_cons.1 hc).1
    have hS2 : (ST.cat (.byt (.cv .u8 (.bin .add .i64 (.lit 48) (.bin .rem .i64 (.bin .quo .i64 (.var 0) (.lit 10)) (.lit 10))))) (.var 0)).den ρ' = ⟨(dgI (ρ.I 0 / 10) :: dgI (ρ.I 0) :: t).toArray⟩ := by
      show (ST.byt _).den ρ' ++ ρ'.S 0 = _
      rw [bd ρ' hle (by omega), hle.s, hS, app_cons]
    simp only [BT.den, IT.den, hS2, sz_cons, List.length_cons, intCmp, Option.some.injEq, decide_eq_false_iff_not] at hl
    omega
  · intro ρ' hle hc u hu
    have h9 := hc (.cmp .gtr (.var 0) (.lit 9), false) (by simp)
    simp only [BT.den, IT.den, hle.i, intCmp, Option.some.injEq, decide_eq_false_iff_not] at h9
    simp only [AVal.den, ST.den, hle.s, hS, Option.some.injEq] at hu
    have hD' : digD N [] = digD (ρ.I 0) t := hD
    rw [← hu, hD']
    unfold digD
    rw [if_pos (by omega)]
/-- ref Digits, at any int. -/
theorem digits54 (w : World) (n : Int) (h : n < 9223372036854775808) : Calls Tryz.prog 54 #[.int .i64 n] w (fun e w' => e = .returned (.string ⟨(digD n []).toArray⟩) ∧ Framed w w') := by
  refine calls_eq (calls_sums (β := .plain w) (ρ := envOf [n] [] F0) noCount noExt noSp_ok follows rfl Tryz.func54 rfl runDe (xs := [.int .i64 n]) rfl (HRel.start w _ fun _ => rfl) (fun _ h => by cases h) (fun q hq => ?_))
  simp only [sumsDe, List.mem_cons, List.not_mem_nil, or_false] at hq
  obtain rfl := hq
  intro ρ' hle hc T hT hG'
  obtain rfl : D0 = T := by simpa using hT
  have e0 : ρ'.I 0 = n := by rw [hle.i]; rfl
  have hb : (ST.byt (.cv .u8 (.bin .add .i64 (.lit 48) (.bin .rem .i64 (.var 0) (.lit 10))))).den ρ' = ⟨#[dgI n]⟩ := by
    simp only [ST.den, PT.den, e0, intBin]
    rw [if_neg (show ¬ ((10 : Int) = 0) by decide)]; rfl
  refine ⟨trivial, CRel_cons.2 ⟨?_, CRel_nil.2 trivial⟩, fun a w' r => loopD w n h _ ?_ _ a w' (.inr rfl) r⟩
  · show some (decide ((((ST.byt (.cv .u8 (.bin .add .i64 (.lit 48) (.bin .rem .i64 (.var 0) (.lit 10))))).den ρ').size : Int) ≤ 100)) = some true
    rw [hb]; rfl
  · refine ⟨⟨[], 19, ?_, ?_, ?_, by simp⟩, ?_⟩
    · show (ST.byt (.cv .u8 (.bin .add .i64 (.lit 48) (.bin .rem .i64 (.var 0) (.lit 10))))).den ρ' = ⟨(dgI ((IT.var 0).den ρ' |>.getD 0) :: []).toArray⟩
      rw [hb]; simp only [IT.den, e0, Option.getD_some]
    · show digD n [] = digD ((IT.var 0).den ρ' |>.getD 0) []
      simp only [IT.den, e0, Option.getD_some]
    · show ((IT.var 0).den ρ' |>.getD 0) < 10 ^ 19
      simp only [IT.den, e0, Option.getD_some]; omega
    · show ((IT.var 0).den ρ' |>.getD 0) < _
      simp only [IT.den, e0, Option.getD_some]; exact h
end Txt
end Go.Proofs.YtjjijagclgambaaGreatDoor
