/-
  Texts (8): a numeral is read back (in plain Lean).
-/
import Derived.Test.YtagdcclpibjfoaaDoorTx7
import Derived.Lib.Atoi
namespace Go.Proofs.YtagdcclpibjfoaaDoor
open Go.Vm
namespace Txt

theorem digitVal_dec {d : Nat} (h : d < 10) : Lib.digitVal (UInt8.ofNat (48 + d)) = some d := by
  rcases (show d = 0 ∨ d = 1 ∨ d = 2 ∨ d = 3 ∨ d = 4 ∨ d = 5 ∨ d = 6 ∨ d = 7 ∨ d = 8 ∨ d = 9 by omega) with rfl | rfl | rfl | rfl | rfl | rfl | rfl | rfl | rfl | rfl <;> decide
theorem decFrom_append : ∀ (l : List UInt8) (acc m : Nat) (b : UInt8) (d : Nat), Lib.decFrom acc l = some m → Lib.digitVal b = some d → Lib.decFrom acc (l ++ [b]) = some (m * 10 + d)
  | [], acc, m, b, d, h, hb => by
    simp only [Lib.decFrom, Option.some.injEq] at h
    subst h
    simp [Lib.decFrom, hb]
  | a :: l, acc, m, b, d, h, hb => by
    simp only [List.cons_append, Lib.decFrom] at h ⊢
    cases ha : Lib.digitVal a with
    | none => rw [ha] at h; simp at h
    | some x =>
      rw [ha] at h
      simp only at h ⊢
      exact decFrom_append l _ m b d h hb
theorem decFrom_dec : ∀ u : Nat, Lib.decFrom 0 (Lib.decDigits u) = some u := by
  intro u
  induction u using Nat.strongRecOn with
  | _ u ih =>
    rw [Lib.decDigits]
    by_cases h : u < 10
    · rw [dif_pos h]
      simp only [Lib.decFrom, digitVal_dec h, Nat.zero_mul, Nat.zero_add]
    · rw [dif_neg h, decFrom_append _ 0 (u / 10) _ (u % 10) (ih (u / 10) (by omega)) (digitVal_dec (by omega))]
      congr 1; omega
theorem decDigits_ne (u : Nat) : Lib.decDigits u ≠ [] := by
  rw [Lib.decDigits]
  split
  · simp
  · simp
/-- Every byte of a numeral is a digit. -/
theorem decDigits_dig : ∀ (u : Nat) (b : UInt8), b ∈ Lib.decDigits u → 48 ≤ b.toNat ∧ b.toNat ≤ 57 := by
  intro u
  induction u using Nat.strongRecOn with
  | _ u ih =>
    intro b hb
    rw [Lib.decDigits] at hb
    have key : ∀ d : Nat, d < 10 → 48 ≤ (UInt8.ofNat (48 + d)).toNat ∧ (UInt8.ofNat (48 + d)).toNat ≤ 57 := fun d hd => by
      rw [UInt8.toNat_ofNat']; omega
    by_cases h : u < 10
    · rw [dif_pos h] at hb
      rw [List.mem_singleton.1 hb]; exact key u h
    · rw [dif_neg h] at hb
      rcases List.mem_append.1 hb with h1 | h1
      · exact ih (u / 10) (by omega) b h1
      · rw [List.mem_singleton.1 h1]; exact key _ (by omega)
theorem atoi_itoa {n : Int} (h : 0 ≤ n) : Lib.atoi (Lib.itoa n) = some n := by
  unfold Lib.itoa
  rw [if_neg (by omega)]
  have hd := decDigits_dig n.toNat
  have hf := decFrom_dec n.toNat
  cases hl : Lib.decDigits n.toNat with
  | nil => exact absurd hl (decDigits_ne _)
  | cons b r =>
    rw [hl] at hd hf
    have hb := hd b List.mem_cons_self
    have h45 : (b == 45) = false := by
      rw [beq_eq_false_iff_ne]; intro e; rw [e] at hb; simp at hb
    have h43 : (b == 43) = false := by
      rw [beq_eq_false_iff_ne]; intro e; rw [e] at hb; simp at hb
    have hn : Lib.decNat (b :: r) = some n.toNat := by
      unfold Lib.decNat
      rw [if_neg (by simp)]; exact hf
    unfold Lib.atoi
    simp only [h45, h43, Bool.false_eq_true, if_false, hn, Option.map_some]
    congr 1; omega
/-- No blank in a numeral. -/
theorem itoa_blank {n : Int} (h : 0 ≤ n) : (32 : UInt8) ∉ Lib.itoa n := by
  unfold Lib.itoa
  rw [if_neg (by omega)]
  intro hb
  have := decDigits_dig _ _ hb
  simp at this
end Txt
end Go.Proofs.YtagdcclpibjfoaaDoor
