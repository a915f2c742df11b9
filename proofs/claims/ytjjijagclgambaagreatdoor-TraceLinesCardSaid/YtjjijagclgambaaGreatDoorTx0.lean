/-
  Texts (0): what texts operations and responses have; pairs of numbers as numbers.
-/
import Derived.Test.YtjjijagclgambaaGreatDoorBa
import Derived.Test.YtjjijagclgambaaGreatDoorVm24
import Derived.Lib.ItoaNum
import Derived.Test.YtjjijagclgambaaGreatDoorTl0
namespace Go.Proofs.YtjjijagclgambaaGreatDoor
open Go.Vm
namespace Txt

theorem zigN_inj {a b : Int} (h : zigN a = zigN b) : a = b := by
  cases a <;> cases b <;> simp only [zigN] at h
  · rename_i m n; rw [show m = n by omega]
  · omega
  · omega
  · rename_i m n; rw [show m = n by omega]
theorem two_step (j t : Nat) : 2 ^ (j + 1) * t = 2 * (2 ^ j * t) := by rw [Nat.pow_succ, Nat.mul_comm (2 ^ j) 2, Nat.mul_assoc]
theorem two_inj : ∀ {i j u v : Nat}, 2 ^ i * (2 * u + 1) = 2 ^ j * (2 * v + 1) → i = j ∧ u = v
  | 0, 0, u, v, h => by simp only [Nat.pow_zero, Nat.one_mul] at h; omega
  | 0, j + 1, u, v, h => by
    rw [two_step, Nat.pow_zero, Nat.one_mul] at h
    generalize 2 ^ j * (2 * v + 1) = t at h
    omega
  | i + 1, 0, u, v, h => by
    rw [two_step, Nat.pow_zero, Nat.one_mul] at h
    generalize 2 ^ i * (2 * u + 1) = t at h
    omega
  | i + 1, j + 1, u, v, h => by
    rw [two_step, two_step] at h
    have := two_inj (Nat.eq_of_mul_eq_mul_left (by omega) h)
    omega
/-- A pair, as a number. -/
def prI (a b : Int) : Int := ((2 ^ zigN a * (2 * zigN b + 1) : Nat) : Int)
theorem prI_inj {a b c d : Int} (h : prI a b = prI c d) : a = c ∧ b = d := by
  have h1 : 2 ^ zigN a * (2 * zigN b + 1) = 2 ^ zigN c * (2 * zigN d + 1) := Int.ofNat.inj h
  obtain ⟨h2, h3⟩ := two_inj h1
  exact ⟨zigN_inj h2, zigN_inj h3⟩
open Classical in
noncomputable def unP (x : Int) : Int × Int := if h : ∃ q : Int × Int, x = prI q.1 q.2 then h.choose else (0, 0)
theorem unP_prI (a b : Int) : unP (prI a b) = (a, b) := by
  have h : ∃ q : Int × Int, prI a b = prI q.1 q.2 := ⟨(a, b), rfl⟩
  unfold unP
  rw [dif_pos h]
  obtain ⟨h1, h2⟩ := prI_inj h.choose_spec
  exact Prod.ext h1.symm h2.symm
def rightB (c k a b : Int) : Bool := decide (0 ≤ c ∧ c ≤ 14 ∧ 0 ≤ k ∧ k ≤ 255 ∧ 0 ≤ a ∧ a ≤ 1023 ∧ 0 ≤ b ∧ b ≤ 1023 ∧ (k = 0 ∨ (4 ≤ c ∧ c ≠ 8)) ∧ (a = 0 ∨ c = 1 ∨ c = 5 ∨ c = 7 ∨ c = 10) ∧ (b = 0 ∨ c = 7))
def opText (c : Nat) (k a b : Int) : List UInt8 := match c with
  | 0 => [110, 111, 110, 101]
  | 1 => ([101, 110, 113, 117, 101, 117, 101] ++ ([32] ++ Lib.itoa a))
  | 2 => [100, 101, 113, 117, 101, 117, 101]
  | 3 => [108, 101, 110, 103, 116, 104]
  | 4 => ([103, 101, 116] ++ ([32] ++ Lib.itoa k))
  | 5 => (([112, 117, 116] ++ ([32] ++ Lib.itoa k)) ++ ([32] ++ Lib.itoa a))
  | 6 => ([100, 101, 108, 101, 116, 101] ++ ([32] ++ Lib.itoa k))
  | 7 => ((([115, 119, 97, 112] ++ ([32] ++ Lib.itoa k)) ++ ([32] ++ Lib.itoa a)) ++ ([32] ++ Lib.itoa b))
  | 8 => [115, 105, 122, 101]
  | 9 => ([102, 108, 111, 111, 114] ++ ([32] ++ Lib.itoa k))
  | 10 => (([115, 101, 116] ++ ([32] ++ Lib.itoa k)) ++ ([32] ++ Lib.itoa a))
  | 11 => ([97, 99, 113, 117, 105, 114, 101] ++ ([32] ++ Lib.itoa k))
  | 12 => ([114, 101, 108, 101, 97, 115, 101] ++ ([32] ++ Lib.itoa k))
  | 13 => ([118, 97, 108, 117, 101] ++ ([32] ++ Lib.itoa k))
  | 14 => ([100, 114, 111, 112] ++ ([32] ++ Lib.itoa k))
  | _ => []
/-- The text of an operation; of one that isn't right it is empty. -/
def opTextR (c k a b : Int) : List UInt8 := if rightB c k a b then opText c.toNat k a b else []
def respB (k v : Int) : Bool := decide (0 ≤ k ∧ k ≤ 5 ∧ 0 ≤ v ∧ v ≤ 268435455 ∧ (v = 0 ∨ k = 0 ∨ k = 4))
def respText (k : Nat) (v : Int) : List UInt8 := match k with
  | 0 => ([100, 111, 110, 101, 32] ++ Lib.itoa v)
  | 1 => [110, 111, 110, 101]
  | 2 => [102, 117, 108, 108]
  | 3 => [98, 117, 115, 121]
  | 4 => ([117, 110, 108, 105, 107, 101, 32] ++ Lib.itoa v)
  | 5 => [110, 111, 109, 101, 109, 111, 114, 121]
  | _ => []
/-- The text of a response; of one that isn't right it is empty. -/
def respTextR (k v : Int) : List UInt8 := if respB k v then respText k.toNat v else []
noncomputable def textG (k : Nat) (x y : Int) : List UInt8 := if k = 3 then opTextR (unP x).1 (unP x).2 (unP y).1 (unP y).2 else if k = 4 then respTextR x y else if k = 5 then Lib.decDigits x.toNat else if k = 6 then TraceP.turn 32 95 (opTextR (unP x).1 (unP x).2 (unP y).1 (unP y).2) else if k = 7 then TraceP.turn 32 95 (respTextR x y) else []
end Txt
end Go.Proofs.YtjjijagclgambaaGreatDoor
