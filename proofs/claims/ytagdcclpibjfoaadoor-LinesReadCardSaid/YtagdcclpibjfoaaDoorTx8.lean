/-
  Texts (8): a numeral is read back (in plain Lean).
-/
import Derived.Test.YtagdcclpibjfoaaDoorTx7
import Derived.Lib.Atoi
namespace Go.Proofs.YtagdcclpibjfoaaDoor
open Go.Vm
namespace Txt

/-- Every byte of a numeral is a digit. -/
theorem decDigits_dig : ∀ (u : Nat) (b : UInt8), b ∈ Lib.decDigits u → 48 ≤ b.toNat ∧ b.toNat ≤ 57 := by
  intro u
  induction u using Nat.strongRecOn with
  | _ u ih =>
    intro b hb
    rw [Lib.decDigits] at hb
    have key : ∀ d : Nat, d < 10 → 48 ≤ (UInt8.ofNat (48 + d)).toNat ∧ (UInt8.ofNat (48 + d)).toNat ≤ 57 := fun d hd => by
      rw [UInt8.toNat_ofNat']; omega
    by_cases h : u < 10
    · rw [dif_pos h] at hb
      rw [List.mem_singleton.1 hb]; exact key u h
    · rw [dif_neg h] at hb
      rcases List.mem_append.1 hb with h1 | h1
      · exact ih (u / 10) (by omega) b h1
      · rw [List.mem_singleton.1 h1]; exact key _ (by omega)
/-- No blank in a numeral. -/
theorem itoa_blank {n : Int} (h : 0 ≤ n) : (32 : UInt8) ∉ Lib.itoa n := by
  unfold Lib.itoa
  rw [if_neg (by omega)]
  intro hb
  have := decDigits_dig _ _ hb
  simp at this
end Txt
end Go.Proofs.YtagdcclpibjfoaaDoor
