/-
  Scripts (5): pairs as numbers; what encoding and decoding are called; the reference decoder.
-/
import Derived.Test.YtagdcclpibjfoaaDoorLk3
namespace Go.Proofs.YtagdcclpibjfoaaDoor
open Go.Vm Txt
namespace Sc

def zig : Int → Nat
  | .ofNat n => 2 * n
  | .negSucc n => 2 * n + 1
theorem zig_inj {a b : Int} (h : zig a = zig b) : a = b := by
  cases a <;> cases b <;> simp only [zig] at h
  · rename_i m n; rw [show m = n by omega]
  · omega
  · omega
  · rename_i m n; rw [show m = n by omega]
theorem two_step (j t : Nat) : 2 ^ (j + 1) * t = 2 * (2 ^ j * t) := by rw [Nat.pow_succ, Nat.mul_comm (2 ^ j) 2, Nat.mul_assoc]
theorem two_inj : ∀ {i j u v : Nat}, 2 ^ i * (2 * u + 1) = 2 ^ j * (2 * v + 1) → i = j ∧ u = v
  | 0, 0, u, v, h => by simp only [Nat.pow_zero, Nat.one_mul] at h; omega
  | 0, j + 1, u, v, h => by
    rw [two_step, Nat.pow_zero, Nat.one_mul] at h
    generalize 2 ^ j * (2 * v + 1) = t at h
    omega
  | i + 1, 0, u, v, h => by
    rw [two_step, Nat.pow_zero, Nat.one_mul] at h
    generalize 2 ^ i * (2 * u + 1) = t at h
    omega
  | i + 1, j + 1, u, v, h => by
    rw [two_step, two_step] at h
    have := two_inj (Nat.eq_of_mul_eq_mul_left (by omega) h)
    omega
def pr (a b : Int) : Int := ((2 ^ zig a * (2 * zig b + 1) : Nat) : Int)
theorem pr_inj {a b c d : Int} (h : pr a b = pr c d) : a = c ∧ b = d := by
  have h1 : 2 ^ zig a * (2 * zig b + 1) = 2 ^ zig c * (2 * zig d + 1) := Int.ofNat.inj h
  obtain ⟨h2, h3⟩ := two_inj h1
  exact ⟨zig_inj h2, zig_inj h3⟩
/-- Eight numbers under one name. -/
def IsEv (u v : Int) (q : Int × Int × Int × Int × Int × Int × Int × Int) : Prop := u = pr (pr q.1 q.2.1) (pr q.2.2.1 q.2.2.2.1) ∧ v = pr (pr q.2.2.2.2.1 q.2.2.2.2.2.1) (pr q.2.2.2.2.2.2.1 q.2.2.2.2.2.2.2)
open Classical in
noncomputable def evOf (u v : Int) : Int × Int × Int × Int × Int × Int × Int × Int := if h : ∃ q, IsEv u v q then h.choose else (0, 0, 0, 0, 0, 0, 0, 0)
theorem evOf_eq (k w o n c y a b : Int) : evOf (pr (pr k w) (pr o n)) (pr (pr c y) (pr a b)) = (k, w, o, n, c, y, a, b) := by
  have h : ∃ q, IsEv (pr (pr k w) (pr o n)) (pr (pr c y) (pr a b)) q := ⟨(k, w, o, n, c, y, a, b), rfl, rfl⟩
  unfold evOf
  rw [dif_pos h]
  obtain ⟨h1, h2⟩ := h.choose_spec
  generalize h.choose = q at h1 h2
  obtain ⟨q0, q1, q2, q3, q4, q5, q6, q7⟩ := q
  obtain ⟨g1, g2⟩ := pr_inj h1
  obtain ⟨g3, g4⟩ := pr_inj h2
  obtain ⟨rfl, rfl⟩ := pr_inj g1
  obtain ⟨rfl, rfl⟩ := pr_inj g2
  obtain ⟨rfl, rfl⟩ := pr_inj g3
  obtain ⟨rfl, rfl⟩ := pr_inj g4
  rfl
def DecOk (x : Int) : Prop := 0 ≤ x ∧ (x % 6 = 1 → x / 384 ≤ 4294967295 ∧ rightB (partC (x / 384).toNat) (partK (x / 384).toNat) (partA (x / 384).toNat) (partB (x / 384).toNat) = true ∧ partC (x / 384).toNat ≠ 0) ∧ (x % 6 = 4 → x / 384 ≤ 63) ∧ (x % 6 = 5 → x / 384 ≤ 999) ∧ (x % 6 ≠ 1 → x % 6 ≠ 4 → x % 6 ≠ 5 → x / 384 ≤ 0)
instance (x : Int) : Decidable (DecOk x) := by unfold DecOk; exact inferInstance
def decI (x : Int) (j : Nat) : Int := if DecOk x then (match j with
  | 0 => x % 6
  | 1 => x / 6 % 64
  | 2 => if x % 6 = 4 then x / 384 else 0
  | 3 => if x % 6 = 5 then x / 384 + 1 else 0
  | 4 => if x % 6 = 1 then partC (x / 384).toNat else 0
  | 5 => if x % 6 = 1 then partK (x / 384).toNat else 0
  | 6 => if x % 6 = 1 then partA (x / 384).toNat else 0
  | 7 => if x % 6 = 1 then partB (x / 384).toNat else 0
  | _ => 1) else 0
def decU (x : Int) : Value := .tuple #[evV (decI x 0) (decI x 1) (decI x 2) (decI x 3) (decI x 4) (decI x 5) (decI x 6) (decI x 7), .bool (decide (decI x 8 = 1))]
theorem dec_no {x : Int} (h : ¬ DecOk x) : decU x = .tuple #[evV 0 0 0 0 0 0 0 0, .bool false] := by
  simp only [decU, decI, if_neg h]; rfl
theorem dec_one {X : Nat} (hk : X % 6 = 1) (hl : X / 384 ≤ 4294967295) (hr : rightB (partC (X / 384)) (partK (X / 384)) (partA (X / 384)) (partB (X / 384)) = true) (hc : partC (X / 384) ≠ 0) :
    decU (X : Int) = .tuple #[evV ((X % 6 : Nat) : Int) ((X / 6 % 64 : Nat) : Int) 0 0 (partC (X / 384)) (partK (X / 384)) (partA (X / 384)) (partB (X / 384)), .bool true] := by
  have e : ((X : Int) / 384).toNat = X / 384 := by omega
  have k1 : (X : Int) % 6 = 1 := by omega
  have h : DecOk (X : Int) := ⟨by omega, fun _ => by rw [e]; exact ⟨by omega, hr, hc⟩, fun _ => by omega, fun _ => by omega, fun _ _ _ => by omega⟩
  simp only [decU, decI, if_pos h, k1, e, if_true]
  rw [show X % 6 = 1 from hk]; rfl
theorem dec_four {X : Nat} (hk : X % 6 = 4) (hl : X / 384 ≤ 63) : decU (X : Int) = .tuple #[evV ((X % 6 : Nat) : Int) ((X / 6 % 64 : Nat) : Int) ((X / 384 : Nat) : Int) 0 0 0 0 0, .bool true] := by
  have k1 : (X : Int) % 6 = 4 := by omega
  have h : DecOk (X : Int) := ⟨by omega, fun _ => by omega, fun _ => by omega, fun _ => by omega, fun _ _ _ => by omega⟩
  simp only [decU, decI, if_pos h, k1, if_true]
  rw [show X % 6 = 4 from hk]; rfl
theorem dec_five {X : Nat} (hk : X % 6 = 5) (hl : X / 384 ≤ 999) : decU (X : Int) = .tuple #[evV ((X % 6 : Nat) : Int) ((X / 6 % 64 : Nat) : Int) 0 (((X / 384 : Nat) : Int) + 1) 0 0 0 0, .bool true] := by
  have k1 : (X : Int) % 6 = 5 := by omega
  have h : DecOk (X : Int) := ⟨by omega, fun _ => by omega, fun _ => by omega, fun _ => by omega, fun _ _ _ => by omega⟩
  simp only [decU, decI, if_pos h, k1, if_true]
  rw [show X % 6 = 5 from hk]; rfl
theorem dec_else {X : Nat} (h1 : X % 6 ≠ 1) (h4 : X % 6 ≠ 4) (h5 : X % 6 ≠ 5) (hl : X / 384 ≤ 0) : decU (X : Int) = .tuple #[evV ((X % 6 : Nat) : Int) ((X / 6 % 64 : Nat) : Int) 0 0 0 0 0 0, .bool true] := by
  have k1 : (X : Int) % 6 ≠ 1 := by omega
  have k4 : (X : Int) % 6 ≠ 4 := by omega
  have k5 : (X : Int) % 6 ≠ 5 := by omega
  have h : DecOk (X : Int) := ⟨by omega, fun _ => by omega, fun _ => by omega, fun _ => by omega, fun _ _ _ => by omega⟩
  simp only [decU, decI, if_pos h, if_neg k1, if_neg k4, if_neg k5]
  rfl
open Classical in
noncomputable def F1 : Nat → Int → Int → Int := fun k u v => if k = 9 then pr u v else if k = 20 then (let q := evOf u v; if EncOk q.1 q.2.1 q.2.2.1 q.2.2.2.1 q.2.2.2.2.1 q.2.2.2.2.2.1 q.2.2.2.2.2.2.1 q.2.2.2.2.2.2.2 then encX q.1 q.2.1 q.2.2.1 q.2.2.2.1 q.2.2.2.2.1 q.2.2.2.2.2.1 q.2.2.2.2.2.2.1 q.2.2.2.2.2.2.2 else 0)
  else if k = 21 then (let q := evOf u v; if EncOk q.1 q.2.1 q.2.2.1 q.2.2.2.1 q.2.2.2.2.1 q.2.2.2.2.2.1 q.2.2.2.2.2.2.1 q.2.2.2.2.2.2.2 then 1 else 0)
  else decI u (k - 30)
theorem F1_pr (u v : Int) : F1 9 u v = pr u v := rfl
theorem F1_x (k w o n c y a b : Int) : F1 20 (pr (pr k w) (pr o n)) (pr (pr c y) (pr a b)) = if EncOk k w o n c y a b then encX k w o n c y a b else 0 := by
  unfold F1
  rw [if_neg (by decide), if_pos rfl, evOf_eq]
theorem F1_t (k w o n c y a b : Int) : F1 21 (pr (pr k w) (pr o n)) (pr (pr c y) (pr a b)) = if EncOk k w o n c y a b then 1 else 0 := by
  unfold F1
  rw [if_neg (by decide), if_neg (by decide), if_pos rfl, evOf_eq]
theorem F1_d (x : Int) (j : Nat) : F1 (30 + j) x 0 = decI x j := by
  unfold F1
  rw [if_neg (by omega), if_neg (by omega), if_neg (by omega), Nat.add_sub_cancel_left]

theorem den_lit {ρ : Env} (n : Int) : (IT.lit n).den ρ = some n := rfl
theorem den_fn {ρ : Env} {k : Nat} {a b : IT} {x y : Int} (ha : a.den ρ = some x) (hb : b.den ρ = some y) : (IT.fn k a b).den ρ = some (ρ.F k x y) := by simp only [IT.den, ha, hb]
theorem den_ints8 {ρ : Env} {k w o n c y a b : IT} {xs : List Value} (h : AVal.denL ρ [.agg [.int .i64 k, .int .i64 w, .int .i64 o, .int .i64 n, .int .i64 c, .int .i64 y, .int .i64 a, .int .i64 b]] = some xs) :
    ∃ k' w' o' n' c' y' a' b' : Int, k.den ρ = some k' ∧ w.den ρ = some w' ∧ o.den ρ = some o' ∧ n.den ρ = some n' ∧ c.den ρ = some c' ∧ y.den ρ = some y' ∧ a.den ρ = some a' ∧ b.den ρ = some b' ∧ xs = [evV k' w' o' n' c' y' a' b'] := by
  simp only [AVal.denL, AVal.den] at h
  cases h0 : k.den ρ <;> rw [h0] at h <;> simp only [Option.map_none, Option.map_some, reduceCtorEq] at h
  cases h1 : w.den ρ <;> rw [h1] at h <;> simp only [Option.map_none, Option.map_some, reduceCtorEq] at h
  cases h2 : o.den ρ <;> rw [h2] at h <;> simp only [Option.map_none, Option.map_some, reduceCtorEq] at h
  cases h3 : n.den ρ <;> rw [h3] at h <;> simp only [Option.map_none, Option.map_some, reduceCtorEq] at h
  cases h4 : c.den ρ <;> rw [h4] at h <;> simp only [Option.map_none, Option.map_some, reduceCtorEq] at h
  cases h5 : y.den ρ <;> rw [h5] at h <;> simp only [Option.map_none, Option.map_some, reduceCtorEq] at h
  cases h6 : a.den ρ <;> rw [h6] at h <;> simp only [Option.map_none, Option.map_some, reduceCtorEq] at h
  cases h7 : b.den ρ <;> rw [h7] at h <;> simp only [Option.map_none, Option.map_some, reduceCtorEq, Option.some.injEq] at h
  exact ⟨_, _, _, _, _, _, _, _, rfl, rfl, rfl, rfl, rfl, rfl, rfl, rfl, h.symm⟩
/-- Under these names. -/
abbrev Named (β : Base) : Prop := ∀ I B S V F, β.G I B S V F → F = F1
theorem spEnc_ok {β : Base} (hG : Named β) {g : FuncId} (h : ∀ W k w o n c y a b, Calls Tryd.prog g #[evV k w o n c y a b] W (fun e w' => ∃ v, e = .returned v ∧ v = encU k w o n c y a b ∧ Framed W w')) : SpGOk Tryd.prog β g (spA spEnc) := by
  intro args H nl cs ls ρ w xs hr hx hh hc
  unfold spA spEnc at hr
  split at hr
  · obtain ⟨k', w', o', n', c', y', a', b', h0, h1, h2, h3, h4, h5, h6, h7, rfl⟩ := den_ints8 hx
    obtain rfl := Option.some.inj hr
    have hF : ρ.F = F1 := hG _ _ _ _ _ hh.g
    have p (a b : IT) (x y : Int) (ha : a.den ρ = some x) (hb : b.den ρ = some y) : (prT a b).den ρ = some (pr x y) := by
      rw [prT, den_fn ha hb, hF]; rfl
    have hX := den_fn (k := 20) (p _ _ _ _ (p _ _ _ _ h0 h1) (p _ _ _ _ h2 h3)) (p _ _ _ _ (p _ _ _ _ h4 h5) (p _ _ _ _ h6 h7))
    have hT := den_fn (k := 21) (p _ _ _ _ (p _ _ _ _ h0 h1) (p _ _ _ _ h2 h3)) (p _ _ _ _ (p _ _ _ _ h4 h5) (p _ _ _ _ h6 h7))
    rw [hF, F1_x] at hX
    rw [hF, F1_t] at hT
    refine (h w k' w' o' n' c' y' a' b').mono fun e w2 ⟨v, hv, hq, hf⟩ => ⟨v, hv, ?_⟩
    rw [hq]
    by_cases hE : EncOk k' w' o' n' c' y' a' b'
    · rw [if_pos hE] at hX hT
      refine ⟨_, _, _, _, ρ, List.mem_cons_self, Env.Le.refl ρ, ?_, hh.framed hf, CRel_cons.2 ⟨?_, hc⟩⟩
      · simp only [encV, AVal.den, AVal.denL, BT.den, codeU, hX, Option.map_some]
        unfold encU; rw [if_pos hE]
      · simp only [codeU, BT.den, hT, den_lit, intCmp]; rfl
    · rw [if_neg hE] at hX hT
      refine ⟨_, _, _, _, ρ, List.mem_cons_of_mem _ List.mem_cons_self, Env.Le.refl ρ, ?_, hh.framed hf, CRel_cons.2 ⟨?_, hc⟩⟩
      · simp only [encV, AVal.den, AVal.denL, BT.den, codeU, hX, Option.map_some]
        unfold encU; rw [if_neg hE]
      · simp only [codeU, BT.den, hT, den_lit, intCmp]; rfl
  · cases hr

end Sc
end Go.Proofs.YtagdcclpibjfoaaDoor
