/-
  Texts (13): unlike right operations have unlike texts; numbers of operations, taken apart again.
-/
import Derived.Test.YtagdcclpibjfoaaDoorTx12
import Derived.Test.YtagdcclpibjfoaaDoorOu6
namespace Go.Proofs.YtagdcclpibjfoaaDoor
open Go.Vm
namespace Txt

set_option maxRecDepth 10000 in
theorem opName_inj : ∀ c : Fin 15, ∀ d : Fin 15, opName c.1 = opName d.1 → c.1 = d.1 := by decide +kernel
theorem opWords_head {c : Nat} (hc : c < 15) (k a b : Int) : ∃ r, opWords c k a b = opName c :: r := by
  rcases (show c = 0 ∨ c = 1 ∨ c = 2 ∨ c = 3 ∨ c = 4 ∨ c = 5 ∨ c = 6 ∨ c = 7 ∨ c = 8 ∨ c = 9 ∨ c = 10 ∨ c = 11 ∨ c = 12 ∨ c = 13 ∨ c = 14 by omega) with rfl | rfl | rfl | rfl | rfl | rfl | rfl | rfl | rfl | rfl | rfl | rfl | rfl | rfl | rfl <;> exact ⟨_, rfl⟩
/-- Texts of right operations are one-to-one. -/
theorem opText_inj {c k a b d l e f : Int} (h1 : rightB c k a b = true) (h2 : rightB d l e f = true) (h : opTextR c k a b = opTextR d l e f) : c = d ∧ k = l ∧ a = e ∧ b = f := by
  unfold opTextR at h
  rw [h1, h2] at h
  simp only [if_true] at h
  simp only [rightB, decide_eq_true_eq] at h1 h2
  obtain ⟨c, rfl⟩ := Int.eq_ofNat_of_zero_le h1.1
  obtain ⟨d, rfl⟩ := Int.eq_ofNat_of_zero_le h2.1
  have hc : c < 15 := by omega
  have hd : d < 15 := by omega
  simp only [Int.toNat_natCast] at h
  rw [opText_join, opText_join] at h
  obtain ⟨r, hr⟩ := opWords_head hc k a b
  obtain ⟨s, hs⟩ := opWords_head hd l e f
  have hw := join_inj (by rw [hr]; simp) (by rw [hs]; simp) (opWords_blank c k a b) (opWords_blank d l e f) h
  have hcd : c = d := by
    have hh := hw
    rw [hr, hs] at hh
    exact opName_inj ⟨c, hc⟩ ⟨d, hd⟩ (List.cons.inj hh).1
  subst hcd
  refine ⟨rfl, ?_⟩
  have ik := fun h => itoa_inj (x := k) (y := l) (by omega) (by omega) h
  have ia := fun h => itoa_inj (x := a) (y := e) (by omega) (by omega) h
  have ib := fun h => itoa_inj (x := b) (y := f) (by omega) (by omega) h
  rcases (show c = 0 ∨ c = 1 ∨ c = 2 ∨ c = 3 ∨ c = 4 ∨ c = 5 ∨ c = 6 ∨ c = 7 ∨ c = 8 ∨ c = 9 ∨ c = 10 ∨ c = 11 ∨ c = 12 ∨ c = 13 ∨ c = 14 by omega) with rfl | rfl | rfl | rfl | rfl | rfl | rfl | rfl | rfl | rfl | rfl | rfl | rfl | rfl | rfl
  all_goals
    simp only [opWords, List.cons.injEq, and_true, true_and] at hw
  all_goals first
    | (have := ik hw.1; have := ia hw.2.1; have := ib hw.2.2; omega)
    | (have := ik hw.1; have := ia hw.2; omega)
    | (have := ia hw; have : k = 0 ∧ l = 0 := by omega
       omega)
    | (have := ik hw; omega)
    | omega

-- NUMBERS
theorem emodI {m : Nat} (h : m < 4294967296) : IntKind.i64.wrap (m : Int) = (m : Int) := wrap_ok (by omega) (by omega)
def uTn (i : Nat) : IT := .cv .u64 (.var i)
def shlN (i : Nat) (c : Int) : IT := .bin .shl .u64 (uTn i) (.lit c)
def opN (i : Nat) : IT := orI (orI (orI (shlN i 28) (shlN (i + 1) 20)) (shlN (i + 2) 10)) (uTn (i + 3))
def respN (i : Nat) : IT := orI (shlN i 28) (uTn (i + 1))
def shrN (n : IT) (c : Int) : IT := .bin .shr .u64 n (.lit c)
def andN (n : IT) (c : Int) : IT := .bin .and .u64 n (.lit c)
def oC (n : IT) : IT := .cv .i64 (shrN n 28)
def oK (n : IT) : IT := .cv .i64 (andN (shrN n 20) 255)
def oA (n : IT) : IT := .cv .i64 (andN (shrN n 10) 1023)
def oB (n : IT) : IT := .cv .i64 (andN n 1023)
def oV (n : IT) : IT := .cv .i64 (andN n 268435455)
def wide (n : IT) : BT := .cmp .neq (shrN n 32) (.lit 0)
theorem uTn_den {ρ : Env} {i n : Nat} (h : ρ.I i = (n : Int)) (hn : n < 2 ^ 64) : (uTn i).den ρ = some (n : Int) := by
  simp only [uTn, IT.den, h, Option.map_some, cv_den n hn]
theorem shlN_den {ρ : Env} {i n : Nat} (h : ρ.I i = (n : Int)) (c : Nat) (hc : c ≤ 64) (hn : n * 2 ^ c < 2 ^ 64) : (shlN i (c : Int)).den ρ = some ((n * 2 ^ c : Nat) : Int) := by
  have h1 : n < 2 ^ 64 := Nat.lt_of_le_of_lt (Nat.le_mul_of_pos_right n (Nat.two_pow_pos c)) hn
  simp only [shlN, IT.den, uTn_den h h1]
  exact shl_den n c hc hn
def packNat (c k a b : Nat) : Nat := ((c * 256 + k) * 1024 + a) * 1024 + b
theorem opN_den {ρ : Env} {i c k a b : Nat} (h0 : ρ.I i = (c : Int)) (h1 : ρ.I (i + 1) = (k : Int)) (h2 : ρ.I (i + 2) = (a : Int)) (h3 : ρ.I (i + 3) = (b : Int)) (hc : c ≤ 14) (hk : k ≤ 255) (ha : a ≤ 1023) (hb : b ≤ 1023) : (opN i).den ρ = some ((packNat c k a b : Nat) : Int) := by
  have s0 := shlN_den h0 28 (by omega) (by omega)
  have s1 := shlN_den h1 20 (by omega) (by omega)
  have s2 := shlN_den h2 10 (by omega) (by omega)
  have u3 := uTn_den h3 (by omega)
  have o1 : (orI (shlN i ((28 : Nat) : Int)) (shlN (i + 1) ((20 : Nat) : Int))).den ρ = some (((c * 256 + k) * 2 ^ 20 : Nat) : Int) := by
    simp only [orI, IT.den, s0, s1]
    rw [or_den c (k * 2 ^ 20) 28 (by omega) (by omega), show c * 2 ^ 28 + k * 2 ^ 20 = (c * 256 + k) * 2 ^ 20 by omega]
  have o2 : (orI (orI (shlN i ((28 : Nat) : Int)) (shlN (i + 1) ((20 : Nat) : Int))) (shlN (i + 2) ((10 : Nat) : Int))).den ρ = some ((((c * 256 + k) * 1024 + a) * 2 ^ 10 : Nat) : Int) := by
    rw [orI]
    simp only [IT.den, o1, s2]
    rw [or_den (c * 256 + k) (a * 2 ^ 10) 20 (by omega) (by omega), show (c * 256 + k) * 2 ^ 20 + a * 2 ^ 10 = ((c * 256 + k) * 1024 + a) * 2 ^ 10 by omega]
  show (orI (orI (orI (shlN i ((28 : Nat) : Int)) (shlN (i + 1) ((20 : Nat) : Int))) (shlN (i + 2) ((10 : Nat) : Int))) (uTn (i + 3))).den ρ = _
  rw [orI]
  simp only [IT.den, o2, u3]
  exact or_den ((c * 256 + k) * 1024 + a) b 10 (by omega) (by omega)
theorem respN_den {ρ : Env} {i k v : Nat} (h0 : ρ.I i = (k : Int)) (h1 : ρ.I (i + 1) = (v : Int)) (hk : k ≤ 5) (hv : v ≤ 268435455) : (respN i).den ρ = some ((k * 2 ^ 28 + v : Nat) : Int) := by
  have s0 := shlN_den h0 28 (by omega) (by omega)
  have u1 := uTn_den h1 (by omega)
  show (orI (shlN i ((28 : Nat) : Int)) (uTn (i + 1))).den ρ = _
  simp only [orI, IT.den, s0, u1]
  exact or_den k v 28 (by omega) (by omega)
theorem parts_of {ρ : Env} {n : IT} {m : Nat} (hn : n.den ρ = some (m : Int)) (hm : m < 4294967296) : (wide n).den ρ = some false ∧ (oC n).den ρ = some ((m / 2 ^ 28 : Nat) : Int) ∧ (oK n).den ρ = some ((m / 2 ^ 20 % 2 ^ 8 : Nat) : Int) ∧
    (oA n).den ρ = some ((m / 2 ^ 10 % 2 ^ 10 : Nat) : Int) ∧ (oB n).den ρ = some ((m % 2 ^ 10 : Nat) : Int) ∧ (oV n).den ρ = some ((m % 2 ^ 28 : Nat) : Int) := by
  have s (c : Nat) (hc : c ≤ 64) : (shrN n (c : Int)).den ρ = some ((m / 2 ^ c : Nat) : Int) := by simp only [shrN, IT.den, hn, shr_den m c hc]
  have a {t : IT} {x : Nat} (ht : t.den ρ = some (x : Int)) (hx : x < 2 ^ 64) (c : Nat) (hc : c ≤ 63) : (andN t ((2 ^ c - 1 : Nat) : Int)).den ρ = some ((x % 2 ^ c : Nat) : Int) := by simp only [andN, IT.den, ht, and_den x c hx hc]
  have cv {t : IT} {x : Nat} (ht : t.den ρ = some (x : Int)) (hx : x < 4294967296) : (IT.cv .i64 t).den ρ = some (x : Int) := by simp only [IT.den, ht, Option.map_some, emodI hx]
  have d (c : Nat) : m / c ≤ m := Nat.div_le_self _ _
  have d1 := d (2 ^ 28)
  have d2 := d (2 ^ 20)
  have d3 := d (2 ^ 10)
  refine ⟨?_, cv (s 28 (by omega)) (by omega), cv (a (s 20 (by omega)) (by omega) 8 (by omega)) (by omega), cv (a (s 10 (by omega)) (by omega) 10 (by omega)) (by omega), cv (a hn (by omega) 10 (by omega)) (by omega), cv (a hn (by omega) 28 (by omega)) (by omega)⟩
  have h32 := s 32 (by omega)
  show (BT.cmp .neq (shrN n ((32 : Nat) : Int)) (.lit 0)).den ρ = _
  simp only [BT.den, IT.den, h32, intCmp]
  have : m / 2 ^ 32 = 0 := by omega
  rw [this]; rfl
end Txt
end Go.Proofs.YtagdcclpibjfoaaDoor
