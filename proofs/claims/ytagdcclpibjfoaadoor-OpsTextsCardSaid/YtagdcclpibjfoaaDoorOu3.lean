/-
  Ops (3): parts of numbers.
-/
import Derived.Test.YtagdcclpibjfoaaDoorVm21
import Derived.Laws.BitsLemmas
import Derived.Laws.Bits64
namespace Go.Proofs.YtagdcclpibjfoaaDoor
open Go.Vm

theorem emod_small (a : Nat) (h : a < 18446744073709551616) : ((a : Int) % 18446744073709551616) = a := by omega
theorem shr_den (m c : Nat) (hc : c ≤ 64) : intBin .shr .u64 (m : Int) (c : Int) = some ((m / 2 ^ c : Nat) : Int) := by
  simp only [intBin]
  rw [if_neg (by omega)]
  have : min (Int.toNat (c : Int)) IntKind.u64.bits = c := by
    have hb : IntKind.u64.bits = 64 := rfl
    rw [hb]; simp; omega
  rw [this]
  have h2 : ((2 : Int) ^ c) = ((2 ^ c : Nat) : Int) := by simp
  rw [h2, Int.fdiv_eq_ediv_of_nonneg _ (Int.natCast_nonneg _)]
  rfl
theorem quo_den (m k : Nat) (hk : k ≠ 0) (hm : m < 2 ^ 64) : intBin .quo .u64 (m : Int) (k : Int) = some ((m / k : Nat) : Int) := by
  simp only [intBin]
  rw [if_neg (by omega), IntKind.wrap_u64]
  have h1 : (m : Int).tdiv (k : Int) = ((m / k : Nat) : Int) := rfl
  have h2 : m / k ≤ m := Nat.div_le_self _ _
  rw [h1]
  rw [emod_small _ (by omega)]
theorem rem_den (m k : Nat) (hk : k ≠ 0) : intBin .rem .u64 (m : Int) (k : Int) = some ((m % k : Nat) : Int) := by
  simp only [intBin]
  rw [if_neg (by omega)]
  rfl
theorem and_den (m c : Nat) (hm : m < 2 ^ 64) (hc : c ≤ 63) : intBin .and .u64 (m : Int) ((2 ^ c - 1 : Nat) : Int) = some ((m % 2 ^ c : Nat) : Int) := by
  simp only [intBin, IntKind.wrap_u64]
  have hb : IntKind.u64.bits = 64 := rfl
  have hp : 2 ^ c ≤ 2 ^ 63 := Nat.pow_le_pow_right (by omega) hc
  have e1 : (BitVec.ofInt 64 (m : Int)).toNat = m := by
    simp; omega
  have e2 : (BitVec.ofInt 64 ((2 ^ c - 1 : Nat) : Int)).toNat = 2 ^ c - 1 := by
    rw [BitVec.toNat_ofInt]; omega
  rw [hb, BitVec.toNat_and, e1, e2, Nat.and_two_pow_sub_one_eq_mod]
  have : m % 2 ^ c < 2 ^ c := Nat.mod_lt _ (Nat.two_pow_pos c)
  rw [emod_small _ (by omega)]

end Go.Proofs.YtagdcclpibjfoaaDoor
