/-
  LeastPlays: one round: which way it goes, and what it makes.
-/
import Derived.Test.YtlcjgmehccopkaaLb3
namespace Go.Proofs.Ytlcjgmehccopkaa
open Go.Vm Go.Vm.Le
namespace La
open Lp

theorem remD {ρ : Env} {t : IT} {x : Int} (ht : t.den ρ = some x) (m : Nat) (hm : 1 ≤ m) : ∃ r : Nat, (IT.bin .rem .u64 (.cv .u64 t) (.lit (.ofNat m))).den ρ = some (r : Int) ∧ r < m := by
  have h0 : 0 ≤ IntKind.u64.wrap x := by rw [IntKind.wrap_u64]; omega
  obtain ⟨z, hz⟩ := Int.eq_ofNat_of_zero_le h0
  refine ⟨z % m, ?_, Nat.mod_lt _ (by omega)⟩
  rw [binD (cvD ht) (litD _)]
  show (if (Int.ofNat m) = 0 then none else some ((IntKind.u64.wrap x).tmod (Int.ofNat m))) = _
  rw [if_neg (by show ¬ ((m : Int) = 0); omega), hz]
  rfl
theorem selV {ρ : Env} {i j : Nat} (h : ρ.I 1 = (i : Int)) : (IT.sel 0 3 j (.var 1)).den ρ = some (selI (ρ.V 0) (i * 3 + j)) := selD (varD h)
theorem bq_ne {a b : Nat} (h : a ≠ b) : Nat.beq a b = false := by
  cases hb : Nat.beq a b with
  | true => exact absurd (Nat.eq_of_beq_eq_true hb) h
  | false => rfl
theorem set_self {p : Pat} {j : Nat} {b : Bool} (h : j < p.length) : (p.set j b).getD j false = b := by
  rw [List.getD_eq_getElem?_getD, List.getElem?_set_self h]; rfl
theorem set_ne {p : Pat} {j a : Nat} {b : Bool} (h : a ≠ j) : (p.set j b).getD a false = p.getD a false := by
  rw [List.getD_eq_getElem?_getD, List.getElem?_set_ne (Ne.symm h), ← List.getD_eq_getElem?_getD]
section
variable {n : Nat} {most : Int} {p : Pat} {Ks : Nat → List Int} {i : Nat} {ρ : Env}
/-- What is told of a stock after a round. -/
def Told (most : Int) (c : Nat) (y : Bool) (K : List Int) (ρ : Env) (tx tk th tl : IT) : Prop :=
  ∃ x k h l, tx.den ρ = some x ∧ th.den ρ = some h ∧ (y = true → tk.den ρ = some k ∧ tl.den ρ = some l) ∧ Sv most c y K x k h l
theorem Jw.next (j : Jw n most p Ks i ρ) {q : Pat} {w : Wy} {σ : Sub} (hσ : canS ksW σ = ⟨newI p q w, [], [], [], []⟩) (hi : i < n) (q1 : 1 ≤ q.length) (q4 : q.length ≤ 4) (Ks' : Nat → List Int)
    (st : ∀ a, a < q.length → Told most (i + 1) (q.getD a false) (Ks' a) ρ (nBig p w a) (nRow p w a) (nHigh p w a) (nLen p w a)) : Jw n most q Ks' (i + 1) (σ.app ρ) := by
  have look : ∀ k ∈ ksW, lk σ.I k = lk (newI p q w) k := fun k hk => by
    have := lk_can σ.I ksW k hk
    rw [← this]
    exact congrArg (fun s : Sub => lk s.I k) hσ
  have mem : ∀ b, b = 40 ∨ b = 44 ∨ b = 48 ∨ b = 52 → ∀ a, a < 4 → b + a ∈ ksW := fun b hb a ha => by
    have : a = 0 ∨ a = 1 ∨ a = 2 ∨ a = 3 := by omega
    rcases hb with rfl | rfl | rfl | rfl <;> rcases this with rfl | rfl | rfl | rfl <;> decide
  have h100 := j.n100
  refine ⟨sbI ((look 1 (by decide)).trans new_1) (upD (varD j.i1) (by omega)), hi, j.n100, ?_, ?_, j.m0, j.m1, j.n1, q1, q4, fun a ha => ?_⟩
  · rw [app_I ((look 60 (by decide)).trans (new_no q4 (by omega)))]; exact j.r60
  · rw [app_I ((look 61 (by decide)).trans (new_no q4 (by omega)))]; exact j.r61
  · obtain ⟨x, k, h, l, dx, dh, dk, s⟩ := st a ha
    have e40 : (σ.app ρ).I (40 + a) = x := sbI ((look _ (mem 40 (.inl rfl) a (by omega))).trans (new_big ha)) dx
    have e48 : (σ.app ρ).I (48 + a) = h := sbI ((look _ (mem 48 (.inr (.inr (.inl rfl))) a (by omega))).trans (new_high q4 ha)) dh
    rw [e40, e48]
    refine ⟨s.x, fun hy => ?_, s.nil, s.nd, s.le, s.h0⟩
    obtain ⟨d1, d2⟩ := dk hy
    rw [sbI ((look _ (mem 44 (.inr (.inl rfl)) a (by omega))).trans (new_row q4 ha hy)) d1, sbI ((look _ (mem 52 (.inr (.inr (.inr rfl))) a (by omega))).trans (new_len q4 ha hy)) d2]
    exact s.row hy
/-- A stock that stays, under its own names or as a copy. -/
theorem Jw.stays (j : Jw n most p Ks i ρ) {b : Nat} (hb : b < p.length) {y : Bool} (hy : y = p.getD b false) : Told most (i + 1) y (Ks b) ρ (.var (40 + b)) (.var (44 + b)) (.var (48 + b)) (.var (52 + b)) := by
  subst hy
  exact ⟨_, _, _, _, varD rfl, varD rfl, fun _ => ⟨varD rfl, varD rfl⟩, (j.st b hb).mono (Nat.le_succ _)⟩
theorem Jw.f89 (j : Jw n most p Ks i ρ) (hG : GW.at ρ) {a : Nat} (ha : a < p.length) : (IT.fn 89 (La.rowT p a) (.var 60)).den ρ = some (lf most (Ks a)) := by
  obtain ⟨z, hz, hd⟩ := j.rowT ha
  obtain ⟨_, _, g89, _, _⟩ := hG
  rw [fnD hz (varD j.r60), g89, lfF, hd]
theorem Jw.takeS (j : Jw n most p Ks i ρ) (hG : GW.at ρ) {a : Nat} (ha : a < p.length) (hl : lf most (Ks a) ≠ 0) : Told most (i + 1) true (Ks a ++ [lf most (Ks a)]) ρ (nBig p (.take a true) a) (nRow p (.take a true) a) (nHigh p (.take a true) a) (nLen p (.take a true) a) := by
  have s := j.st a ha
  have h100 := j.n100; have hle := s.le; have hil := j.il
  obtain ⟨z, hz, hd⟩ := j.rowT ha
  have e81 := hG.1.2.1
  refine ⟨_, _, _, _, ?_, ?_, fun _ => ⟨?_, ?_⟩, s.take hl⟩
  · simp only [nBig, Nat.beq_refl, cond_true]
    rw [fnD (varD rfl) (litD 0), e81]
  · simp only [nHigh, Nat.beq_refl, cond_true]
    rw [mxD (varD rfl) (j.f89 hG ha)]
  · simp only [nRow, Nat.beq_refl, cond_true]
    rw [unD hz (j.f89 hG ha)]
    show some (encL (decL z ++ [lf most (Ks a)])) = _
    rw [hd]
  · simp only [nLen, Nat.beq_refl, cond_true]
    exact upD (j.lenT ha) (by omega)
theorem Jw.fullS (j : Jw n most p Ks i ρ) (hG : GW.at ρ) {a : Nat} (ha : a < p.length) (hl : lf most (Ks a) = 0) : Told most (i + 1) (p.getD a false) (Ks a) ρ (nBig p (.take a false) a) (nRow p (.take a false) a) (nHigh p (.take a false) a) (nLen p (.take a false) a) := by
  have e81 := hG.1.2.1
  refine ⟨_, _, _, _, ?_, varD rfl, fun _ => ⟨varD rfl, varD rfl⟩, (j.st a ha).full hl⟩
  simp only [nBig, Nat.beq_refl, cond_true]
  rw [fnD (varD rfl) (litD 0), e81]
theorem Jw.giveS (j : Jw n most p Ks i ρ) (hG : GW.at ρ) {a : Nat} (ha : a < p.length) {zz : Int} (hz : numT.den ρ = some zz) {ok sm : Bool} (hsm : sm = decide (rest zz (Ks a) ≠ [])) : Told most (i + 1) sm (rest zz (Ks a)) ρ (nBig p (.give a ok sm) a) (nRow p (.give a ok sm) a) (nHigh p (.give a ok sm) a) (nLen p (.give a ok sm) a) := by
  obtain ⟨z, hr, hd⟩ := j.rowT ha
  obtain ⟨⟨_, _, e82, _⟩, _, _, e91, e92⟩ := hG
  refine ⟨_, _, _, _, ?_, varD rfl, fun _ => ⟨?_, ?_⟩, (j.st a ha).give zz sm hsm⟩
  · simp only [nBig, Nat.beq_refl, cond_true]
    rw [fnD (varD rfl) hz, e82]
  · simp only [nRow, Nat.beq_refl, cond_true]
    rw [fnD hr hz, e91, restF, hd]
  · simp only [nLen, Nat.beq_refl, cond_true]
    rw [fnD hr hz, e92, restN, hd]
end
end La
end Go.Proofs.Ytlcjgmehccopkaa
