/-
  Scripts (5): pairs as numbers; what encoding and decoding are called; the reference decoder.
-/
import Derived.Test.YtagdcclpibjfoaaDoorLk3
namespace Go.Proofs.YtagdcclpibjfoaaDoor
open Go.Vm Txt
namespace Sc

def zig : Int → Nat
  | .ofNat n => 2 * n
  | .negSucc n => 2 * n + 1
theorem two_step (j t : Nat) : 2 ^ (j + 1) * t = 2 * (2 ^ j * t) := by rw [Nat.pow_succ, Nat.mul_comm (2 ^ j) 2, Nat.mul_assoc]
theorem two_inj : ∀ {i j u v : Nat}, 2 ^ i * (2 * u + 1) = 2 ^ j * (2 * v + 1) → i = j ∧ u = v
  | 0, 0, u, v, h => by simp only [Nat.pow_zero, Nat.one_mul] at h; omega
  | 0, j + 1, u, v, h => by
    rw [two_step, Nat.pow_zero, Nat.one_mul] at h
    generalize 2 ^ j * (2 * v + 1) = t at h
    omega
  | i + 1, 0, u, v, h => by
    rw [two_step, Nat.pow_zero, Nat.one_mul] at h
    generalize 2 ^ i * (2 * u + 1) = t at h
    omega
  | i + 1, j + 1, u, v, h => by
    rw [two_step, two_step] at h
    have := two_inj (Nat.eq_of_mul_eq_mul_left (by omega) h)
    omega
def pr (a b : Int) : Int := ((2 ^ zig a * (2 * zig b + 1) : Nat) : Int)
/-- Eight numbers under one name. -/
def IsEv (u v : Int) (q : Int × Int × Int × Int × Int × Int × Int × Int) : Prop := u = pr (pr q.1 q.2.1) (pr q.2.2.1 q.2.2.2.1) ∧ v = pr (pr q.2.2.2.2.1 q.2.2.2.2.2.1) (pr q.2.2.2.2.2.2.1 q.2.2.2.2.2.2.2)
open Classical in
noncomputable def evOf (u v : Int) : Int × Int × Int × Int × Int × Int × Int × Int := if h : ∃ q, IsEv u v q then h.choose else (0, 0, 0, 0, 0, 0, 0, 0)
def DecOk (x : Int) : Prop := 0 ≤ x ∧ (x % 6 = 1 → x / 384 ≤ 4294967295 ∧ rightB (partC (x / 384).toNat) (partK (x / 384).toNat) (partA (x / 384).toNat) (partB (x / 384).toNat) = true ∧ partC (x / 384).toNat ≠ 0) ∧ (x % 6 = 4 → x / 384 ≤ 63) ∧ (x % 6 = 5 → x / 384 ≤ 999) ∧ (x % 6 ≠ 1 → x % 6 ≠ 4 → x % 6 ≠ 5 → x / 384 ≤ 0)
instance (x : Int) : Decidable (DecOk x) := by unfold DecOk; exact inferInstance
def decI (x : Int) (j : Nat) : Int := if DecOk x then (match j with
  | 0 => x % 6
  | 1 => x / 6 % 64
  | 2 => if x % 6 = 4 then x / 384 else 0
  | 3 => if x % 6 = 5 then x / 384 + 1 else 0
  | 4 => if x % 6 = 1 then partC (x / 384).toNat else 0
  | 5 => if x % 6 = 1 then partK (x / 384).toNat else 0
  | 6 => if x % 6 = 1 then partA (x / 384).toNat else 0
  | 7 => if x % 6 = 1 then partB (x / 384).toNat else 0
  | _ => 1) else 0
def decU (x : Int) : Value := .tuple #[evV (decI x 0) (decI x 1) (decI x 2) (decI x 3) (decI x 4) (decI x 5) (decI x 6) (decI x 7), .bool (decide (decI x 8 = 1))]
theorem dec_no {x : Int} (h : ¬ DecOk x) : decU x = .tuple #[evV 0 0 0 0 0 0 0 0, .bool false] := by
  simp only [decU, decI, if_neg h]; rfl
theorem dec_one {X : Nat} (hk : X % 6 = 1) (hl : X / 384 ≤ 4294967295) (hr : rightB (partC (X / 384)) (partK (X / 384)) (partA (X / 384)) (partB (X / 384)) = true) (hc : partC (X / 384) ≠ 0) :
    decU (X : Int) = .tuple #[evV ((X % 6 : Nat) : Int) ((X / 6 % 64 : Nat) : Int) 0 0 (partC (X / 384)) (partK (X / 384)) (partA (X / 384)) (partB (X / 384)), .bool true] := by
  have e : ((X : Int) / 384).toNat = X / 384 := by omega
  have k1 : (X : Int) % 6 = 1 := by omega
  have h : DecOk (X : Int) := ⟨by omega, fun _ => by rw [e]; exact ⟨by omega, hr, hc⟩, fun _ => by omega, fun _ => by omega, fun _ _ _ => by omega⟩
  simp only [decU, decI, if_pos h, k1, e, if_true]
  rw [show X % 6 = 1 from hk]; rfl
theorem dec_four {X : Nat} (hk : X % 6 = 4) (hl : X / 384 ≤ 63) : decU (X : Int) = .tuple #[evV ((X % 6 : Nat) : Int) ((X / 6 % 64 : Nat) : Int) ((X / 384 : Nat) : Int) 0 0 0 0 0, .bool true] := by
  have k1 : (X : Int) % 6 = 4 := by omega
  have h : DecOk (X : Int) := ⟨by omega, fun _ => by omega, fun _ => by omega, fun _ => by omega, fun _ _ _ => by omega⟩
  simp only [decU, decI, if_pos h, k1, if_true]
  rw [show X % 6 = 4 from hk]; rfl
theorem dec_five {X : Nat} (hk : X % 6 = 5) (hl : X / 384 ≤ 999) : decU (X : Int) = .tuple #[evV ((X % 6 : Nat) : Int) ((X / 6 % 64 : Nat) : Int) 0 (((X / 384 : Nat) : Int) + 1) 0 0 0 0, .bool true] := by
  have k1 : (X : Int) % 6 = 5 := by omega
  have h : DecOk (X : Int) := ⟨by omega, fun _ => by omega, fun _ => by omega, fun _ => by omega, fun _ _ _ => by omega⟩
  simp only [decU, decI, if_pos h, k1, if_true]
  rw [show X % 6 = 5 from hk]; rfl
theorem dec_else {X : Nat} (h1 : X % 6 ≠ 1) (h4 : X % 6 ≠ 4) (h5 : X % 6 ≠ 5) (hl : X / 384 ≤ 0) : decU (X : Int) = .tuple #[evV ((X % 6 : Nat) : Int) ((X / 6 % 64 : Nat) : Int) 0 0 0 0 0 0, .bool true] := by
  have k1 : (X : Int) % 6 ≠ 1 := by omega
  have k4 : (X : Int) % 6 ≠ 4 := by omega
  have k5 : (X : Int) % 6 ≠ 5 := by omega
  have h : DecOk (X : Int) := ⟨by omega, fun _ => by omega, fun _ => by omega, fun _ => by omega, fun _ _ _ => by omega⟩
  simp only [decU, decI, if_pos h, if_neg k1, if_neg k4, if_neg k5]
  rfl
open Classical in
noncomputable def F1 : Nat → Int → Int → Int := fun k u v => if k = 9 then pr u v else if k = 20 then (let q := evOf u v; if EncOk q.1 q.2.1 q.2.2.1 q.2.2.2.1 q.2.2.2.2.1 q.2.2.2.2.2.1 q.2.2.2.2.2.2.1 q.2.2.2.2.2.2.2 then encX q.1 q.2.1 q.2.2.1 q.2.2.2.1 q.2.2.2.2.1 q.2.2.2.2.2.1 q.2.2.2.2.2.2.1 q.2.2.2.2.2.2.2 else 0)
  else if k = 21 then (let q := evOf u v; if EncOk q.1 q.2.1 q.2.2.1 q.2.2.2.1 q.2.2.2.2.1 q.2.2.2.2.2.1 q.2.2.2.2.2.2.1 q.2.2.2.2.2.2.2 then 1 else 0)
  else decI u (k - 30)
theorem F1_d (x : Int) (j : Nat) : F1 (30 + j) x 0 = decI x j := by
  unfold F1
  rw [if_neg (by omega), if_neg (by omega), if_neg (by omega), Nat.add_sub_cancel_left]
theorem den_lit {ρ : Env} (n : Int) : (IT.lit n).den ρ = some n := rfl
theorem den_fn {ρ : Env} {k : Nat} {a b : IT} {x y : Int} (ha : a.den ρ = some x) (hb : b.den ρ = some y) : (IT.fn k a b).den ρ = some (ρ.F k x y) := by simp only [IT.den, ha, hb]
/-- Under these names. -/
abbrev Named (β : Base) : Prop := ∀ I B S V F, β.G I B S V F → F = F1
end Sc
end Go.Proofs.YtagdcclpibjfoaaDoor
