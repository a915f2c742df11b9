/-
  Reports (0): names of texts are told apart.
-/
import Derived.Test.YtgiomdniafpjnaaGreatDoorBa
import Derived.Test.YtgiomdniafpjnaaGreatDoorVm24
import Derived.Lib.ItoaNum
section
namespace Go.Proofs.YtgiomdniafpjnaaGreatDoor
open Go.Vm
namespace Txt

theorem zigN_inj {a b : Int} (h : zigN a = zigN b) : a = b := by
  cases a <;> cases b <;> simp only [zigN] at h
  · rename_i m n; rw [show m = n by omega]
  · omega
  · omega
  · rename_i m n; rw [show m = n by omega]
theorem two_step (j t : Nat) : 2 ^ (j + 1) * t = 2 * (2 ^ j * t) := by rw [Nat.pow_succ, Nat.mul_comm (2 ^ j) 2, Nat.mul_assoc]
theorem two_inj : ∀ {i j u v : Nat}, 2 ^ i * (2 * u + 1) = 2 ^ j * (2 * v + 1) → i = j ∧ u = v
  | 0, 0, u, v, h => by simp only [Nat.pow_zero, Nat.one_mul] at h; omega
  | 0, j + 1, u, v, h => by
    rw [two_step, Nat.pow_zero, Nat.one_mul] at h
    generalize 2 ^ j * (2 * v + 1) = t at h
    omega
  | i + 1, 0, u, v, h => by
    rw [two_step, Nat.pow_zero, Nat.one_mul] at h
    generalize 2 ^ i * (2 * u + 1) = t at h
    omega
  | i + 1, j + 1, u, v, h => by
    rw [two_step, two_step] at h
    have := two_inj (Nat.eq_of_mul_eq_mul_left (by omega) h)
    omega
end Txt
end Go.Proofs.YtgiomdniafpjnaaGreatDoor
end

/-
  Reports (1): the reference's digits and numbers.
-/
section
namespace Go.Proofs.YtgiomdniafpjnaaGreatDoor
open Go.Vm
namespace Txt
def noSp : CallF := spL []
theorem noSp_ok {β : Base} : CallOk Tryz.prog β noSp := spL_ok fun _ h => by cases h

theorem wrap_ok {x : Int} (h : -9223372036854775808 ≤ x) (h2 : x < 9223372036854775808) : IntKind.i64.wrap x = x := by
  rw [IntKind.wrap_i64]; omega
theorem wrap8 {x : Int} (h : 0 ≤ x) (h2 : x < 256) : IntKind.u8.wrap x = x := by
  rw [IntKind.wrap_u8]; omega
theorem calls_eq {f : FuncId} {args : Array Value} {w : World} {x : Value} (h : Calls Tryz.prog f args w (fun e w' => ∃ v, e = .returned v ∧ v = x ∧ Framed w w')) : Calls Tryz.prog f args w (fun e w' => e = .returned x ∧ Framed w w') :=
  h.mono fun _ _ ⟨_, he, hv, hf⟩ => ⟨by rw [he, hv], hf⟩
def dgI (n : Int) : UInt8 := UInt8.ofNat (IntKind.u8.wrap (IntKind.i64.wrap (48 + n.tmod 10))).toNat
theorem dgI_nat (m : Nat) : dgI m = UInt8.ofNat (48 + m % 10) := by
  unfold dgI
  rw [Int.tmod_eq_emod_of_nonneg (by omega), wrap_ok (by omega) (by omega), wrap8 (by omega) (by omega)]
  congr 1
/-- The digits of a number, ahead of others. -/
def digD (n : Int) (t : List UInt8) : List UInt8 := if n < 10 then dgI n :: t else Lib.decDigits n.toNat ++ t
theorem digD_dec {n : Int} (h : 0 ≤ n) (t : List UInt8) : digD n t = Lib.decDigits n.toNat ++ t := by
  obtain ⟨m, rfl⟩ := Int.eq_ofNat_of_zero_le h
  unfold digD
  split
  · rename_i hlt
    rw [dgI_nat, Int.toNat_natCast, Lib.decDigits, dif_pos (by omega)]
    rw [show m % 10 = m by omega]; rfl
  · rfl
theorem digD_step {n : Int} (h : 9 < n) (t : List UInt8) : digD n t = digD (n / 10) (dgI n :: t) := by
  obtain ⟨m, rfl⟩ := Int.eq_ofNat_of_zero_le (show 0 ≤ n by omega)
  rw [digD_dec (by omega), digD_dec (by omega), Int.toNat_natCast, show ((m : Int) / 10).toNat = m / 10 by omega, dgI_nat]
  rw [Lib.decDigits, dif_neg (by omega)]
  simp
def iv (j : Nat) : AVal := .int .i64 (.var j)
def D0 : Tpl := ⟨[(0, iv 0), (3, .str (.var 0))], 23, [], 0, [(.cmp .leq (.slen (.var 0)) (.lit 100), true)], 3⟩
def gD : Gen := ⟨1, 0, 1, 0⟩
noncomputable def gb0 : Code := ((loopsOf (Tryz.f41.body.getD .ret) []).getD 0 (.ret, [])).1
noncomputable def gk0 : List Item := ((loopsOf (Tryz.f41.body.getD .ret) []).getD 0 (.ret, [])).2
noncomputable def sumsDe : List LS := [.next 0 (.code (.loop gb0) :: gk0) [] ⟨[(0, (.var 0))], [], [(0, (.byt (.cv .u8 (.bin .add .i64 (.lit 48) (.bin .rem .i64 (.var 0) (.lit 10))))))], [], []⟩]
noncomputable def sumsD0 : List LS := [.next 0 (.inLoop gb0 :: gk0) [((.cmp .leq (.slen (.cat (.byt (.cv .u8 (.bin .add .i64 (.lit 48) (.bin .rem .i64 (.bin .quo .i64 (.var 0) (.lit 10)) (.lit 10))))) (.var 0))) (.lit 9223372036854775807)), true), ((.cmp .gtr (.var 0) (.lit 9)), true), ((.cmp .leq (.slen (.var 0)) (.lit 100)), true)] ⟨[(0, (.bin .quo .i64 (.var 0) (.lit 10)))], [], [(0, (.cat (.byt (.cv .u8 (.bin .add .i64 (.lit 48) (.bin .rem .i64 (.bin .quo .i64 (.var 0) (.lit 10)) (.lit 10))))) (.var 0)))], [], []⟩,
  .stop [((.cmp .leq (.slen (.cat (.byt (.cv .u8 (.bin .add .i64 (.lit 48) (.bin .rem .i64 (.bin .quo .i64 (.var 0) (.lit 10)) (.lit 10))))) (.var 0))) (.lit 9223372036854775807)), false), ((.cmp .gtr (.var 0) (.lit 9)), true), ((.cmp .leq (.slen (.var 0)) (.lit 100)), true)],
  .ret (.str (.var 0)) [((.cmp .gtr (.var 0) (.lit 9)), false), ((.cmp .leq (.slen (.var 0)) (.lit 100)), true)]]
theorem runDe : (run Tryz.prog [] noSp 4000 true 41 (entry Tryz.f41 (Tryz.f41.body.getD .ret) [iv 0] .leaf 0 [])).map (·.filterMap (sumL gD [D0])) = some sumsDe := by kernel_rfl
theorem runD0 : (run Tryz.prog [] noSp 4000 true 41 (D0.st (.code gb0 :: .inLoop gb0 :: gk0))).map (·.filterMap (sumL gD [D0])) = some sumsD0 := by kernel_rfl
/-- So far it has come. -/
def JD (N : Int) : GP := fun I _ S _ _ => ∃ t : List UInt8, ∃ k : Nat, S 0 = ⟨(dgI (I 0) :: t).toArray⟩ ∧ digD N [] = digD (I 0) t ∧ I 0 < 10 ^ k ∧ t.length + k ≤ 20
theorem sz_cons (a : UInt8) (t : List UInt8) : (ByteArray.mk (a :: t).toArray).size = t.length + 1 := by
  show (a :: t).toArray.size = _; simp
theorem app_cons (a : UInt8) (t : List UInt8) : (ByteArray.mk #[a]) ++ (ByteArray.mk t.toArray) = ByteArray.mk (a :: t).toArray := by
  apply ByteArray.ext
  simp
theorem quo10 {n : Int} (h : 9 < n) (h2 : n < 10 ^ 20) : IntKind.i64.wrap (n.tdiv 10) = n / 10 ∨ 9223372036854775808 ≤ n / 10 := by
  rw [Int.tdiv_eq_ediv_of_nonneg (by omega)]
  by_cases hb : n / 10 < 9223372036854775808
  · exact .inl (wrap_ok (by omega) hb)
  · exact .inr (by omega)
theorem loopD (w0 : World) (N : Int) (_hN : N < 9223372036854775808) : ∀ ρ, GP.at (fun I B S V F => JD N I B S V F ∧ I 0 < 9223372036854775808) ρ → ∀ todo a w, todo = .inLoop gb0 :: gk0 ∨ todo = .code (.loop gb0) :: gk0 → SRel (.plain w0) ρ (D0.st todo) a w →
    Goes Tryz.prog 41 (fun x w' => x = .string ⟨(digD N []).toArray⟩ ∧ Framed w0 w') todo a w := by
  refine loop_goes (β := .plain w0) noCount noExt noSp_ok follows rfl runD0 (fun I B S V F => JD N I B S V F ∧ I 0 < 9223372036854775808) (fun ρ => (ρ.I 0).toNat) (fun ρ hJ hcs hG ih q hq => ?_)
  obtain ⟨⟨t, k, hS, hD, hk, ht⟩, hI⟩ := hJ
  have hS : ρ.S 0 = ⟨(dgI (ρ.I 0) :: t).toArray⟩ := hS
  simp only [sumsD0, List.mem_cons, List.not_mem_nil, or_false] at hq
  have qd : ∀ ρ' : Env, ρ.Le ρ' → 9 < ρ.I 0 → (IT.bin .quo .i64 (.var 0) (.lit 10)).den ρ' = some (ρ.I 0 / 10) := fun ρ' hle h9 => by
    simp only [IT.den, hle.i, intBin]
    rw [if_neg (show ¬ ((10 : Int) = 0) by decide), Int.tdiv_eq_ediv_of_nonneg (by omega), wrap_ok (by omega) (by omega)]
  have bd : ∀ ρ' : Env, ρ.Le ρ' → 9 < ρ.I 0 → (ST.byt (.cv .u8 (.bin .add .i64 (.lit 48) (.bin .rem .i64 (.bin .quo .i64 (.var 0) (.lit 10)) (.lit 10))))).den ρ' = ⟨#[dgI (ρ.I 0 / 10)]⟩ := fun ρ' hle h9 => by
    simp only [ST.den, PT.den, hle.i, intBin]
    rw [if_neg (show ¬ ((10 : Int) = 0) by decide), Int.tdiv_eq_ediv_of_nonneg (by omega), Option.getD_some, wrap_ok (x := ρ.I 0 / 10) (by omega) (by omega)]
    rfl
  rcases hq with rfl | rfl | rfl
  · intro ρ' hle hc T hT hG'
    obtain rfl : D0 = T := by simpa using hT
    have h9 := hc (.cmp .gtr (.var 0) (.lit 9), true) (by simp)
    simp only [BT.den, IT.den, hle.i, intCmp, Option.some.injEq, decide_eq_true_eq] at h9
    have hq := qd ρ' hle (by omega)
    have hS2 : (ST.cat (.byt (.cv .u8 (.bin .add .i64 (.lit 48) (.bin .rem .i64 (.bin .quo .i64 (.var 0) (.lit 10)) (.lit 10))))) (.var 0)).den ρ' = ⟨(dgI (ρ.I 0 / 10) :: dgI (ρ.I 0) :: t).toArray⟩ := by
      show (ST.byt _).den ρ' ++ ρ'.S 0 = _
      rw [bd ρ' hle (by omega), hle.s, hS, app_cons]
    have hk1 : 2 ≤ k := by
      rcases k with _ | _ | k
      · simp at hk; omega
      · simp at hk; omega
      · omega
    obtain ⟨j, rfl⟩ : ∃ j, k = j + 1 := ⟨k - 1, by omega⟩
    have hp : (10 : Int) ^ (j + 1) = 10 * 10 ^ j := by rw [Int.pow_succ]; omega
    have e0 : ((IT.bin .quo .i64 (.var 0) (.lit 10)).den ρ').getD 0 = ρ.I 0 / 10 := by rw [hq]; rfl
    refine ⟨trivial, CRel_cons.2 ⟨?_, CRel_nil.2 trivial⟩, fun a w r => ih _ ?_ ?_ _ a w (.inl rfl) r⟩
    · show some (decide (((ST.cat (.byt (.cv .u8 (.bin .add .i64 (.lit 48) (.bin .rem .i64 (.bin .quo .i64 (.var 0) (.lit 10)) (.lit 10))))) (.var 0)).den ρ').size ≤ (100 : Int))) = some true
      rw [hS2, sz_cons]
      simp only [List.length_cons, Option.some.injEq, decide_eq_true_eq]; omega
    · show (((IT.bin .quo .i64 (.var 0) (.lit 10)).den ρ').getD 0).toNat < (ρ.I 0).toNat
      rw [e0]; omega
    · refine ⟨⟨dgI (ρ.I 0) :: t, j, ?_, ?_, ?_, by simp only [List.length_cons]; omega⟩, ?_⟩
      · show (ST.cat (.byt (.cv .u8 (.bin .add .i64 (.lit 48) (.bin .rem .i64 (.bin .quo .i64 (.var 0) (.lit 10)) (.lit 10))))) (.var 0)).den ρ' = ⟨(dgI (((IT.bin .quo .i64 (.var 0) (.lit 10)).den ρ').getD 0) :: dgI (ρ.I 0) :: t).toArray⟩
        rw [hS2, e0]
      · show digD N [] = digD (((IT.bin .quo .i64 (.var 0) (.lit 10)).den ρ').getD 0) (dgI (ρ.I 0) :: t)
        rw [e0, ← digD_step (by omega)]; exact hD
      · show ((IT.bin .quo .i64 (.var 0) (.lit 10)).den ρ').getD 0 < 10 ^ j
        have hk' : ρ.I 0 < 10 ^ (j + 1) := hk
        rw [e0]; rw [hp] at hk'; omega
      · show ((IT.bin .quo .i64 (.var 0) (.lit 10)).den ρ').getD 0 < _
        rw [e0]; omega
  · intro ρ' hle hc
    have h9 := hc (.cmp .gtr (.var 0) (.lit 9), true) (by simp)
    simp only [BT.den, IT.den, hle.i, intCmp, Option.some.injEq, decide_eq_true_eq] at h9
    have hl := (CRel_cons.1 hc).1
    have hS2 : (ST.cat (.byt (.cv .u8 (.bin .add .i64 (.lit 48) (.bin .rem .i64 (.bin .quo .i64 (.var 0) (.lit 10)) (.lit 10))))) (.var 0)).den ρ' = ⟨(dgI (ρ.I 0 / 10) :: dgI (ρ.I 0) :: t).toArray⟩ := by
      show (ST.byt _).den ρ' ++ ρ'.S 0 = _
      rw [bd ρ' hle (by omega), hle.s, hS, app_cons]
    simp only [BT.den, IT.den, hS2, sz_cons, List.length_cons, intCmp, Option.some.injEq, decide_eq_false_iff_not] at hl
    omega
  · intro ρ' hle hc u hu
    have h9 := hc (.cmp .gtr (.var 0) (.lit 9), false) (by simp)
    simp only [BT.den, IT.den, hle.i, intCmp, Option.some.injEq, decide_eq_false_iff_not] at h9
    simp only [AVal.den, ST.den, hle.s, hS, Option.some.injEq] at hu
    have hD' : digD N [] = digD (ρ.I 0) t := hD
    rw [← hu, hD']
    unfold digD
    rw [if_pos (by omega)]
/-- ref Digits, at any int. -/
theorem digits41 (w : World) (n : Int) (h : n < 9223372036854775808) : Calls Tryz.prog 41 #[.int .i64 n] w (fun e w' => e = .returned (.string ⟨(digD n []).toArray⟩) ∧ Framed w w') := by
  refine calls_eq (calls_sums (β := .plain w) (ρ := envOf [n] [] F0) noCount noExt noSp_ok follows rfl Tryz.func41 rfl runDe (xs := [.int .i64 n]) rfl (HRel.start w _ fun _ => rfl) (fun _ h => by cases h) (fun q hq => ?_))
  simp only [sumsDe, List.mem_cons, List.not_mem_nil, or_false] at hq
  obtain rfl := hq
  intro ρ' hle hc T hT hG'
  obtain rfl : D0 = T := by simpa using hT
  have e0 : ρ'.I 0 = n := by rw [hle.i]; rfl
  have hb : (ST.byt (.cv .u8 (.bin .add .i64 (.lit 48) (.bin .rem .i64 (.var 0) (.lit 10))))).den ρ' = ⟨#[dgI n]⟩ := by
    simp only [ST.den, PT.den, e0, intBin]
    rw [if_neg (show ¬ ((10 : Int) = 0) by decide)]; rfl
  refine ⟨trivial, CRel_cons.2 ⟨?_, CRel_nil.2 trivial⟩, fun a w' r => loopD w n h _ ?_ _ a w' (.inr rfl) r⟩
  · show some (decide ((((ST.byt (.cv .u8 (.bin .add .i64 (.lit 48) (.bin .rem .i64 (.var 0) (.lit 10))))).den ρ').size : Int) ≤ 100)) = some true
    rw [hb]; rfl
  · refine ⟨⟨[], 19, ?_, ?_, ?_, by simp⟩, ?_⟩
    · show (ST.byt (.cv .u8 (.bin .add .i64 (.lit 48) (.bin .rem .i64 (.var 0) (.lit 10))))).den ρ' = ⟨(dgI ((IT.var 0).den ρ' |>.getD 0) :: []).toArray⟩
      rw [hb]; simp only [IT.den, e0, Option.getD_some]
    · show digD n [] = digD ((IT.var 0).den ρ' |>.getD 0) []
      simp only [IT.den, e0, Option.getD_some]
    · show ((IT.var 0).den ρ' |>.getD 0) < 10 ^ 19
      simp only [IT.den, e0, Option.getD_some]; omega
    · show ((IT.var 0).den ρ' |>.getD 0) < _
      simp only [IT.den, e0, Option.getD_some]; exact h
end Txt
end Go.Proofs.YtgiomdniafpjnaaGreatDoor
end

/-
  Reports (2): texts under functions' names; the reference's text of a number.
-/
section
namespace Go.Proofs.YtgiomdniafpjnaaGreatDoor
open Go.Vm
namespace Txt

-- NAMES
theorem codN_inj {k k' : Nat} {x y x' y' : Int} (h : codN k x y = codN k' x' y') : k = k' ∧ x = x' ∧ y = y' := by
  unfold codN at h
  obtain ⟨h1, h2⟩ := two_inj (Nat.add_left_cancel h)
  obtain ⟨h3, h4⟩ := two_inj h2
  exact ⟨h1, zigN_inj h3, zigN_inj h4⟩
/-- What the named functions answer: 1 the text of a number, 2 its digits. -/
noncomputable def textF (k : Nat) (x y : Int) : List UInt8 := if k = 1 then Lib.itoa x else if k = 2 then digD x [] else []
open Classical in
noncomputable def Sx : Nat → ByteArray := fun n => if h : ∃ q : Nat × Int × Int, n = codN q.1 q.2.1 q.2.2 then ⟨(textF h.choose.1 h.choose.2.1 h.choose.2.2).toArray⟩ else default
theorem Sx_cod (k : Nat) (x y : Int) : Sx (codN k x y) = ⟨(textF k x y).toArray⟩ := by
  have h : ∃ q : Nat × Int × Int, codN k x y = codN q.1 q.2.1 q.2.2 := ⟨(k, x, y), rfl⟩
  unfold Sx
  rw [dif_pos h]
  obtain ⟨h1, h2, h3⟩ := codN_inj h.choose_spec
  rw [← h1, ← h2, ← h3]
def SxOk (S : Nat → ByteArray) : Prop := ∀ k x y, S (codN k x y) = ⟨(textF k x y).toArray⟩
theorem SxOk.of {S : Nat → ByteArray} (h : S = Sx) : SxOk S := fun k x y => by rw [h, Sx_cod]
theorem nDigits_le : ∀ (k u : Nat), u < 10 ^ (k + 1) → Lib.nDigits u ≤ k + 1
  | 0, u, h => by rw [Lib.nDigits_small (by simpa using h)]; exact Nat.le_refl _
  | k + 1, u, h => by
    by_cases h1 : u < 10
    · rw [Lib.nDigits_small h1]; omega
    · rw [Lib.nDigits_big h1]
      have : u / 10 < 10 ^ (k + 1) := by
        rw [Nat.pow_succ] at h; omega
      have := nDigits_le k (u / 10) this
      omega
theorem dec_len {u : Nat} (h : u < 9223372036854775809) : (Lib.decDigits u).length ≤ 19 := by
  rw [Lib.decDigits_length]
  exact nDigits_le 18 u (by omega)
theorem dig_len {n : Int} (h : n < 9223372036854775808) : (digD n []).length ≤ 19 := by
  by_cases h0 : 0 ≤ n
  · rw [digD_dec h0]
    have := dec_len (u := n.toNat) (by omega)
    simpa using this
  · unfold digD
    rw [if_pos (by omega)]; simp
theorem itoa_len {n : Int} (h : -9223372036854775808 ≤ n) (h2 : n < 9223372036854775808) : (Lib.itoa n).length ≤ 20 := by
  unfold Lib.itoa
  split
  · have := dec_len (u := n.natAbs) (by omega)
    simp only [List.length_cons]; omega
  · have := dec_len (u := n.toNat) (by omega)
    omega
theorem fn_den {ρ : Env} (hS : SxOk ρ.S) {k : Nat} {p q : PT} {x y : Int} (hp : p.den ρ = x) (hq : q.den ρ = y) (hl : (textF k x y).length ≤ 1000000) : (ST.fn k p q).den ρ = ⟨(textF k x y).toArray⟩ := by
  simp only [ST.den, hp, hq, hS k x y]
  refine cutM_eq ?_
  show (textF k x y).toArray.size ≤ _
  simpa using hl
-- DIGITS, UNDER THEIR NAME
def ltB (t : IT) : BT := .cmp .lss t (.lit 9223372036854775808)
def spDig : SpG := fun args H nl cs => match args with
  | [.int .i64 t] => match t.toP, lookB cs (ltB t) with
    | some p, some true => some [.ret (.str (.fn 2 p (.lit 0))) H nl cs]
    | _, _ => none
  | _ => none
theorem spDig_ok {β : Base} (hG : ∀ I B S V F, β.G I B S V F → SxOk S) : SpGOk Tryz.prog β 41 spDig := by
  intro args H nl cs ls ρ w xs hr hx hh hc
  unfold spDig at hr
  split at hr
  rotate_left
  · cases hr
  rename_i t
  split at hr
  rotate_left
  · cases hr
  rename_i p hp hl
  cases hr
  have hd := IT.toP_den (ρ := ρ) hp
  simp only [AVal.denL, AVal.den, hd, Option.map_some, Option.some.injEq] at hx
  subst hx
  have hlt := lookB_ok hl hc
  simp only [ltB, BT.den, hd, IT.den, intCmp, Option.some.injEq, decide_eq_true_eq] at hlt
  have hS : SxOk ρ.S := hG _ _ _ _ _ hh.g
  have hf := fn_den hS (k := 2) (p := p) (q := .lit 0) rfl rfl (by show (digD (p.den ρ) []).length ≤ _; have := dig_len hlt; omega)
  exact spV_ok (digits41 w _ hlt) (by simp only [AVal.den, hf]; rfl) hh hc
-- THE TEXT OF A NUMBER
def nt0 : IT := .bin .sub .i64 (.lit 0) (.var 0)
def nt1 : IT := .bin .sub .i64 (.lit 0) (.bin .quo .i64 (.var 0) (.lit 10))
def nt2 : IT := .bin .sub .i64 (.lit 0) (.bin .rem .i64 (.var 0) (.lit 10))
def csN : Cs := [(ltB (.var 0), true), (ltB nt0, true), (ltB nt1, true), (ltB nt2, true)]
def spN : CallF := spL [(41, spDig)]
def sumsN : List LS := [.ret (.str (.fn 2 (.var 0) (.lit 0))) ((.cmp .geq (.var 0) (.lit 0), true) :: csN),
  .ret (.str (.cat (.lit [45]) (.fn 2 (.bin .sub .i64 (.lit 0) (.var 0)) (.lit 0)))) ([((.cmp .gtr (.var 0) (.lit (-10))), true), ((.cmp .geq (.var 0) (.lit 0)), false)] ++ csN),
  .ret (.str (.cat (.cat (.lit [45]) (.fn 2 (.bin .sub .i64 (.lit 0) (.bin .quo .i64 (.var 0) (.lit 10))) (.lit 0))) (.fn 2 (.bin .sub .i64 (.lit 0) (.bin .rem .i64 (.var 0) (.lit 10))) (.lit 0)))) ([((.cmp .gtr (.var 0) (.lit (-10))), false), ((.cmp .geq (.var 0) (.lit 0)), false)] ++ csN)]
theorem runN : (run Tryz.prog [] spN 4000 true 15 (entry Tryz.f15 (Tryz.f15.body.getD .ret) [iv 0] .leaf 0 csN)).map (·.filterMap (sumL ⟨0, 0, 0, 0⟩ [])) = some sumsN := by kernel_rfl
theorem wrap_lt (x : Int) : IntKind.i64.wrap x < 9223372036854775808 := by rw [IntKind.wrap_i64]; omega
def GS : GP := fun _ _ S _ _ => SxOk S
noncomputable def envS (n : Int) : Env := ⟨fun i => [n].getD i 0, fun _ => false, Sx, fun _ => undef, fun _ => none, F0, fun _ => none⟩
theorem tdiv_neg {u : Nat} : (-(u : Int)).tdiv 10 = -((u / 10 : Nat) : Int) := by
  rw [Int.neg_tdiv]; rfl
theorem tmod_neg {u : Nat} : (-(u : Int)).tmod 10 = -((u % 10 : Nat) : Int) := by
  rw [Int.neg_tmod]; rfl
theorem num15 (w : World) (n : Int) (h1 : -9223372036854775808 ≤ n) (h2 : n < 9223372036854775808) : Calls Tryz.prog 15 #[.int .i64 n] w (fun e w' => e = .returned (.string ⟨(Lib.itoa n).toArray⟩) ∧ Framed w w') := by
  refine calls_eq (calls_sums (β := ⟨w, noO, GS⟩) (ρ := envS n) noCount noExt (spL_ok fun p hp => ?_) follows rfl Tryz.func15 rfl runN (xs := [.int .i64 n]) rfl (HRel.startG w _ (fun _ => rfl) (SxOk.of rfl)) ?_ (fun q hq => ?_))
  · simp only [List.mem_cons, List.not_mem_nil, or_false] at hp
    obtain rfl := hp
    exact spDig_ok fun _ _ _ _ _ h => h
  · have e0 : (envS n).I 0 = n := rfl
    have ht := fun x => wrap_lt x
    simp only [csN, ltB, nt0, nt1, nt2, CRel_cons, CRel_nil, and_true, BT.den, IT.den, e0, intBin, intCmp, if_neg (show ¬ ((10 : Int) = 0) by decide), wrap_lt, Option.some.injEq, decide_eq_true_eq]
    exact h2
  · simp only [sumsN, List.mem_cons, List.not_mem_nil, or_false] at hq
    have c10 : ¬ ((10 : Int) = 0) := by decide
    rcases hq with rfl | rfl | rfl
    · intro ρ' hle hc u hu
      have e0 : ρ'.I 0 = n := by rw [hle.i]; rfl
      have hS : SxOk ρ'.S := .of hle.s
      have hg := (CRel_cons.1 hc).1
      simp only [BT.den, IT.den, e0, intCmp, Option.some.injEq, decide_eq_true_eq] at hg
      have hf := fn_den hS (k := 2) (p := .var 0) (q := .lit 0) (x := n) e0 rfl (by show (digD n []).length ≤ _; have := dig_len h2; omega)
      simp only [AVal.den, hf, Option.some.injEq] at hu
      rw [← hu]
      show Value.string ⟨(digD n []).toArray⟩ = _
      rw [digD_dec hg, Lib.itoa, if_neg (by omega)]; simp
    · intro ρ' hle hc u hu
      have e0 : ρ'.I 0 = n := by rw [hle.i]; rfl
      have hS : SxOk ρ'.S := .of hle.s
      have hg1 := (CRel_cons.1 hc).1
      have hg2 := (CRel_cons.1 (CRel_cons.1 hc).2).1
      simp only [BT.den, IT.den, e0, intCmp, Option.some.injEq, decide_eq_true_eq, decide_eq_false_iff_not] at hg1 hg2
      have hp : PT.den ρ' (.bin .sub .i64 (.lit 0) (.var 0)) = -n := by
        simp only [PT.den, e0, intBin, Option.getD_some]
        rw [wrap_ok (by omega) (by omega)]; omega
      have hf := fn_den hS (k := 2) (q := .lit 0) hp rfl (by show (digD (-n) []).length ≤ _; have := dig_len (n := -n) (by omega); omega)
      simp only [AVal.den, ST.den.eq_3, hf, Option.some.injEq] at hu
      rw [← hu]
      have hi : Lib.itoa n = 45 :: digD (-n) [] := by
        rw [digD_dec (by omega), Lib.itoa, if_pos (by omega), show (-n).toNat = n.natAbs by omega]; simp
      rw [hi]
      show Value.string ((ByteArray.mk #[45]) ++ (ByteArray.mk (digD (-n) []).toArray)) = _
      rw [app_cons]
    · intro ρ' hle hc u hu
      have e0 : ρ'.I 0 = n := by rw [hle.i]; rfl
      have hS : SxOk ρ'.S := .of hle.s
      have hg1 := (CRel_cons.1 hc).1
      simp only [BT.den, IT.den, e0, intCmp, Option.some.injEq, decide_eq_false_iff_not] at hg1
      obtain ⟨m, rfl⟩ : ∃ m : Nat, n = -(m : Int) := ⟨n.natAbs, by omega⟩
      have hp1 : PT.den ρ' (.bin .sub .i64 (.lit 0) (.bin .quo .i64 (.var 0) (.lit 10))) = ((m / 10 : Nat) : Int) := by
        simp only [PT.den, e0, intBin, if_neg c10, tdiv_neg, Option.getD_some]
        rw [wrap_ok (x := -((m / 10 : Nat) : Int)) (by omega) (by omega), wrap_ok (by omega) (by omega)]; omega
      have hp2 : PT.den ρ' (.bin .sub .i64 (.lit 0) (.bin .rem .i64 (.var 0) (.lit 10))) = ((m % 10 : Nat) : Int) := by
        simp only [PT.den, e0, intBin, if_neg c10, tmod_neg, Option.getD_some]
        rw [wrap_ok (by omega) (by omega)]; omega
      have hf1 := fn_den hS (k := 2) (q := .lit 0) hp1 rfl (by show (digD ((m / 10 : Nat) : Int) []).length ≤ _; have := dig_len (n := ((m / 10 : Nat) : Int)) (by omega); omega)
      have hf2 := fn_den hS (k := 2) (q := .lit 0) hp2 rfl (by show (digD ((m % 10 : Nat) : Int) []).length ≤ _; have := dig_len (n := ((m % 10 : Nat) : Int)) (by omega); omega)
      simp only [AVal.den, ST.den.eq_3, hf1, hf2, Option.some.injEq] at hu
      rw [← hu]
      have hi : Lib.itoa (-(m : Int)) = 45 :: (digD ((m / 10 : Nat) : Int) [] ++ digD ((m % 10 : Nat) : Int) []) := by
        rw [digD_dec (by omega), digD_dec (by omega), Lib.itoa, if_pos (by omega)]
        simp only [Int.natAbs_neg, Int.natAbs_natCast, Int.toNat_natCast, List.append_nil]
        rw [Lib.decDigits, dif_neg (by omega), Lib.decDigits_one (i := m % 10) (by omega)]
      rw [hi]
      apply congrArg Value.string
      apply ByteArray.ext
      show ((ByteArray.mk #[45]) ++ (ByteArray.mk (textF 2 ((m / 10 : Nat) : Int) 0).toArray) ++ (ByteArray.mk (textF 2 ((m % 10 : Nat) : Int) 0).toArray)).data = _
      simp [textF]
end Txt
end Go.Proofs.YtgiomdniafpjnaaGreatDoor
end
