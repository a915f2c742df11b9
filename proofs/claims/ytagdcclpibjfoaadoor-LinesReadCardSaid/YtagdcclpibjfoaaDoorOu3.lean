/-
  Ops (2): right operations and responses.
-/
import Derived.Test.YtagdcclpibjfoaaDoorOu1
import Derived.Test.YtagdcclpibjfoaaDoorVm21
import Derived.Laws.BitsLemmas
import Derived.Laws.Bits64
section
namespace Go.Proofs.YtagdcclpibjfoaaDoor
open Go.Vm

def orT (a b : BT) : BT := .not (.and (.not a) (.not b))
def eqT (a : IT) (n : Int) : BT := .cmp .eql a (.lit n)
def inT (a : IT) (lo hi : Int) : BT := .and (.cmp .geq a (.lit lo)) (.cmp .leq a (.lit hi))
/-- An operation is right. -/
def tRight (c k a b : IT) : BT :=
  .and (inT c 0 14) (.and (inT k 0 255) (.and (inT a 0 1023) (.and (inT b 0 1023)
    (.and (orT (eqT k 0) (.and (.cmp .geq c (.lit 4)) (.not (eqT c 8))))
      (.and (orT (eqT a 0) (orT (eqT c 1) (orT (eqT c 5) (orT (eqT c 7) (eqT c 10))))) (orT (eqT b 0) (eqT c 7)))))))
/-- A response is right. -/
def tResp (k v : IT) : BT := .and (inT k 0 5) (.and (inT v 0 268435455) (orT (eqT v 0) (orT (eqT k 0) (eqT k 4))))
def opA : AVal := .agg [.int .i64 (.var 0), .int .i64 (.var 1), .int .i64 (.var 2), .int .i64 (.var 3)]
def respA : AVal := .agg [.int .i64 (.var 0), .int .i64 (.var 1)]
noncomputable def body45 : Code := Tryd.f45.body.getD .ret
noncomputable def body36 : Code := Tryd.f36.body.getD .ret
noncomputable def body46 : Code := Tryd.f46.body.getD .ret
noncomputable def body47 : Code := Tryd.f47.body.getD .ret
theorem run46 : (run Tryd.prog exts05 (spOf noSpecs) 4000 false 46 (entry Tryd.f46 body46 [respA] .leaf 0 [])).map (·.all (leafB (tResp (.var 0) (.var 1)))) = some true := by kernel_rfl
theorem run47 : (run Tryd.prog exts05 (spOf noSpecs) 4000 false 47 (entry Tryd.f47 body47 [respA] .leaf 0 [])).map (·.all (leafB (tResp (.var 0) (.var 1)))) = some true := by kernel_rfl
/-- Is an operation of this code walked through? -/
noncomputable def runR (f : FuncId) (fn : Func) (b : Code) (c : Nat) : Option Bool :=
  (run Tryd.prog exts05 (spOf noSpecs) 4000 false f (entry fn b [.agg [.int .i64 (.lit (.ofNat c)), .int .i64 (.var 1), .int .i64 (.var 2), .int .i64 (.var 3)]] .leaf 0 [])).map (·.all (leafB (tRight (.lit (.ofNat c)) (.var 1) (.var 2) (.var 3))))
/-- .. and of one that is none? -/
def codeCs (low : Bool) : Cs := [(.cmp .lss (.var 0) (.lit 0), low), (.cmp .geq (.var 0) (.lit 15), !low), (.cmp .gtr (.var 0) (.lit 14), !low)]
noncomputable def runN (f : FuncId) (fn : Func) (b : Code) (low : Bool) : Option Bool :=
  (run Tryd.prog exts05 (spOf noSpecs) 4000 false f (entry fn b [opA] .leaf 0 (codeCs low))).map (·.all (leafB (tRight (.var 0) (.var 1) (.var 2) (.var 3))))
theorem run45_0 : runR 45 Tryd.f45 body45 0 = some true := by kernel_rfl
theorem run45_1 : runR 45 Tryd.f45 body45 1 = some true := by kernel_rfl
theorem run45_2 : runR 45 Tryd.f45 body45 2 = some true := by kernel_rfl
theorem run45_3 : runR 45 Tryd.f45 body45 3 = some true := by kernel_rfl
theorem run45_4 : runR 45 Tryd.f45 body45 4 = some true := by kernel_rfl
theorem run45_5 : runR 45 Tryd.f45 body45 5 = some true := by kernel_rfl
theorem run45_6 : runR 45 Tryd.f45 body45 6 = some true := by kernel_rfl
theorem run45_7 : runR 45 Tryd.f45 body45 7 = some true := by kernel_rfl
theorem run45_8 : runR 45 Tryd.f45 body45 8 = some true := by kernel_rfl
theorem run45_9 : runR 45 Tryd.f45 body45 9 = some true := by kernel_rfl
theorem run45_10 : runR 45 Tryd.f45 body45 10 = some true := by kernel_rfl
theorem run45_11 : runR 45 Tryd.f45 body45 11 = some true := by kernel_rfl
theorem run45_12 : runR 45 Tryd.f45 body45 12 = some true := by kernel_rfl
theorem run45_13 : runR 45 Tryd.f45 body45 13 = some true := by kernel_rfl
theorem run45_14 : runR 45 Tryd.f45 body45 14 = some true := by kernel_rfl
theorem run45_low : runN 45 Tryd.f45 body45 true = some true := by kernel_rfl
theorem run45_high : runN 45 Tryd.f45 body45 false = some true := by kernel_rfl
theorem run45_all : ∀ c, c < 15 → runR 45 Tryd.f45 body45 c = some true := by
  intro c hc
  match c, hc with
  | 0, _ => exact run45_0
  | 1, _ => exact run45_1
  | 2, _ => exact run45_2
  | 3, _ => exact run45_3
  | 4, _ => exact run45_4
  | 5, _ => exact run45_5
  | 6, _ => exact run45_6
  | 7, _ => exact run45_7
  | 8, _ => exact run45_8
  | 9, _ => exact run45_9
  | 10, _ => exact run45_10
  | 11, _ => exact run45_11
  | 12, _ => exact run45_12
  | 13, _ => exact run45_13
  | 14, _ => exact run45_14
theorem run45_none : ∀ low, runN 45 Tryd.f45 body45 low = some true := by
  intro low
  cases low
  · exact run45_high
  · exact run45_low
theorem run36_0 : runR 36 Tryd.f36 body36 0 = some true := by kernel_rfl
theorem run36_1 : runR 36 Tryd.f36 body36 1 = some true := by kernel_rfl
theorem run36_2 : runR 36 Tryd.f36 body36 2 = some true := by kernel_rfl
theorem run36_3 : runR 36 Tryd.f36 body36 3 = some true := by kernel_rfl
theorem run36_4 : runR 36 Tryd.f36 body36 4 = some true := by kernel_rfl
theorem run36_5 : runR 36 Tryd.f36 body36 5 = some true := by kernel_rfl
theorem run36_6 : runR 36 Tryd.f36 body36 6 = some true := by kernel_rfl
theorem run36_7 : runR 36 Tryd.f36 body36 7 = some true := by kernel_rfl
theorem run36_8 : runR 36 Tryd.f36 body36 8 = some true := by kernel_rfl
theorem run36_9 : runR 36 Tryd.f36 body36 9 = some true := by kernel_rfl
theorem run36_10 : runR 36 Tryd.f36 body36 10 = some true := by kernel_rfl
theorem run36_11 : runR 36 Tryd.f36 body36 11 = some true := by kernel_rfl
theorem run36_12 : runR 36 Tryd.f36 body36 12 = some true := by kernel_rfl
theorem run36_13 : runR 36 Tryd.f36 body36 13 = some true := by kernel_rfl
theorem run36_14 : runR 36 Tryd.f36 body36 14 = some true := by kernel_rfl
theorem run36_low : runN 36 Tryd.f36 body36 true = some true := by kernel_rfl
theorem run36_high : runN 36 Tryd.f36 body36 false = some true := by kernel_rfl
theorem run36_all : ∀ c, c < 15 → runR 36 Tryd.f36 body36 c = some true := by
  intro c hc
  match c, hc with
  | 0, _ => exact run36_0
  | 1, _ => exact run36_1
  | 2, _ => exact run36_2
  | 3, _ => exact run36_3
  | 4, _ => exact run36_4
  | 5, _ => exact run36_5
  | 6, _ => exact run36_6
  | 7, _ => exact run36_7
  | 8, _ => exact run36_8
  | 9, _ => exact run36_9
  | 10, _ => exact run36_10
  | 11, _ => exact run36_11
  | 12, _ => exact run36_12
  | 13, _ => exact run36_13
  | 14, _ => exact run36_14
theorem run36_none : ∀ low, runN 36 Tryd.f36 body36 low = some true := by
  intro low
  cases low
  · exact run36_high
  · exact run36_low
end Go.Proofs.YtagdcclpibjfoaaDoor
end

/-
  Ops (3): parts of numbers.
-/
section
namespace Go.Proofs.YtagdcclpibjfoaaDoor
open Go.Vm

theorem emod_small (a : Nat) (h : a < 18446744073709551616) : ((a : Int) % 18446744073709551616) = a := by omega
theorem shr_den (m c : Nat) (hc : c ≤ 64) : intBin .shr .u64 (m : Int) (c : Int) = some ((m / 2 ^ c : Nat) : Int) := by
  simp only [intBin]
  rw [if_neg (by omega)]
  have : min (Int.toNat (c : Int)) IntKind.u64.bits = c := by
    have hb : IntKind.u64.bits = 64 := rfl
    rw [hb]; simp; omega
  rw [this]
  have h2 : ((2 : Int) ^ c) = ((2 ^ c : Nat) : Int) := by simp
  rw [h2, Int.fdiv_eq_ediv_of_nonneg _ (Int.natCast_nonneg _)]
  rfl
theorem quo_den (m k : Nat) (hk : k ≠ 0) (hm : m < 2 ^ 64) : intBin .quo .u64 (m : Int) (k : Int) = some ((m / k : Nat) : Int) := by
  simp only [intBin]
  rw [if_neg (by omega), IntKind.wrap_u64]
  have h1 : (m : Int).tdiv (k : Int) = ((m / k : Nat) : Int) := rfl
  have h2 : m / k ≤ m := Nat.div_le_self _ _
  rw [h1]
  rw [emod_small _ (by omega)]
theorem rem_den (m k : Nat) (hk : k ≠ 0) : intBin .rem .u64 (m : Int) (k : Int) = some ((m % k : Nat) : Int) := by
  simp only [intBin]
  rw [if_neg (by omega)]
  rfl
theorem and_den (m c : Nat) (hm : m < 2 ^ 64) (hc : c ≤ 63) : intBin .and .u64 (m : Int) ((2 ^ c - 1 : Nat) : Int) = some ((m % 2 ^ c : Nat) : Int) := by
  simp only [intBin, IntKind.wrap_u64]
  have hb : IntKind.u64.bits = 64 := rfl
  have hp : 2 ^ c ≤ 2 ^ 63 := Nat.pow_le_pow_right (by omega) hc
  have e1 : (BitVec.ofInt 64 (m : Int)).toNat = m := by
    simp; omega
  have e2 : (BitVec.ofInt 64 ((2 ^ c - 1 : Nat) : Int)).toNat = 2 ^ c - 1 := by
    rw [BitVec.toNat_ofInt]; omega
  rw [hb, BitVec.toNat_and, e1, e2, Nat.and_two_pow_sub_one_eq_mod]
  have : m % 2 ^ c < 2 ^ c := Nat.mod_lt _ (Nat.two_pow_pos c)
  rw [emod_small _ (by omega)]
end Go.Proofs.YtagdcclpibjfoaaDoor
end
