/-
  Ops (6): OpsPack's walk.
-/
import Derived.Test.YtagdcclpibjfoaaDoorOu4
namespace Go.Proofs.YtagdcclpibjfoaaDoor
open Go.Vm

theorem shl_den (x c : Nat) (hc : c ≤ 64) (h : x * 2 ^ c < 2 ^ 64) : intBin .shl .u64 (x : Int) (c : Int) = some ((x * 2 ^ c : Nat) : Int) := by
  simp only [intBin, IntKind.wrap_u64]
  rw [if_neg (by omega)]
  have : min (Int.toNat (c : Int)) IntKind.u64.bits = c := by
    have hb : IntKind.u64.bits = 64 := rfl
    rw [hb]; simp; omega
  rw [this]
  have h2 : (x : Int) * (2 : Int) ^ c = ((x * 2 ^ c : Nat) : Int) := by simp
  rw [h2, emod_small _ (by omega)]
theorem mul_den (x c : Nat) (h : x * c < 2 ^ 64) : intBin .mul .u64 (x : Int) (c : Int) = some ((x * c : Nat) : Int) := by
  simp only [intBin, IntKind.wrap_u64]
  have h2 : (x : Int) * (c : Int) = ((x * c : Nat) : Int) := by simp
  rw [h2, emod_small _ (by omega)]
theorem add_den (x y : Nat) (h : x + y < 2 ^ 64) : intBin .add .u64 (x : Int) (y : Int) = some ((x + y : Nat) : Int) := by
  simp only [intBin, IntKind.wrap_u64]
  have h2 : (x : Int) + (y : Int) = ((x + y : Nat) : Int) := by simp
  rw [h2, emod_small _ (by omega)]
theorem or_den (x y c : Nat) (hy : y < 2 ^ c) (h : x * 2 ^ c + y < 2 ^ 64) : intBin .or .u64 ((x * 2 ^ c : Nat) : Int) (y : Int) = some ((x * 2 ^ c + y : Nat) : Int) := by
  simp only [intBin, IntKind.wrap_u64]
  have hb : IntKind.u64.bits = 64 := rfl
  have e1 : (BitVec.ofInt 64 ((x * 2 ^ c : Nat) : Int)).toNat = x * 2 ^ c := by
    rw [BitVec.toNat_ofInt]; omega
  have e2 : (BitVec.ofInt 64 (y : Int)).toNat = y := by
    rw [BitVec.toNat_ofInt]; omega
  rw [hb, BitVec.toNat_or, e1, e2, ← Nat.shiftLeft_eq, ← Nat.shiftLeft_add_eq_or_of_lt hy, Nat.shiftLeft_eq, emod_small _ (by omega)]
theorem cv_den (x : Nat) (h : x < 2 ^ 64) : IntKind.u64.wrap (x : Int) = (x : Int) := by
  rw [IntKind.wrap_u64, emod_small _ (by omega)]

def uT (i : Nat) : IT := .cv .u64 (.var i)
def orI (a b : IT) : IT := .bin .or .u64 a b
def addI (a b : IT) : IT := .bin .add .u64 a b
def shlI (i : Nat) (c : Int) : IT := .bin .shl .u64 (uT i) (.lit c)
def mulI (i : Nat) (c : Int) : IT := .bin .mul .u64 (uT i) (.lit c)
def packOp : BT := .cmp .eql (orI (orI (orI (shlI 0 28) (shlI 1 20)) (shlI 2 10)) (uT 3)) (addI (addI (addI (mulI 0 268435456) (mulI 1 1048576)) (mulI 2 1024)) (uT 3))
def packResp : BT := .cmp .eql (orI (shlI 10 28) (uT 11)) (addI (mulI 10 268435456) (uT 11))
def packCs (x y : Bool) : Cs := (tRight (.var 0) (.var 1) (.var 2) (.var 3), x) :: (tResp (.var 10) (.var 11), y) :: (cond x [(packOp, true)] [] ++ cond y [(packResp, true)] [])
def respB : AVal := .agg [.int .i64 (.var 10), .int .i64 (.var 11)]
noncomputable def body9 : Code := Tryd.f9.body.getD .ret
noncomputable def run9 (x y : Bool) : Option Bool := (run Tryd.prog exts05 (spOf specs05) 4000 false 9 (entry Tryd.f9 body9 [opA, respB] .leaf 0 (packCs x y))).map (·.all (leafB (.lit true)))
theorem run9_0 : run9 false false = some true := by kernel_rfl
theorem run9_1 : run9 false true = some true := by kernel_rfl
theorem run9_2 : run9 true false = some true := by kernel_rfl
theorem run9_3 : run9 true true = some true := by kernel_rfl
theorem run9_all (x y : Bool) : run9 x y = some true := by
  cases x <;> cases y
  · exact run9_0
  · exact run9_1
  · exact run9_2
  · exact run9_3

theorem right_bounds {c k a b : Int} {ρ : Env} (h : (tRight (.lit c) (.lit k) (.lit a) (.lit b)).den ρ = some true) : 0 ≤ c ∧ c ≤ 14 ∧ 0 ≤ k ∧ k ≤ 255 ∧ 0 ≤ a ∧ a ≤ 1023 ∧ 0 ≤ b ∧ b ≤ 1023 := by
  simp only [tRight, inT, orT, eqT, BT.den, IT.den, intCmp, Option.map_some, Option.some.injEq, Bool.and_eq_true, decide_eq_true_eq] at h
  obtain ⟨⟨h1, h2⟩, ⟨h3, h4⟩, ⟨h5, h6⟩, ⟨h7, h8⟩, _⟩ := h
  exact ⟨h1, h2, h3, h4, h5, h6, h7, h8⟩
theorem resp_bounds {k v : Int} {ρ : Env} (h : (tResp (.lit k) (.lit v)).den ρ = some true) : 0 ≤ k ∧ k ≤ 5 ∧ 0 ≤ v ∧ v ≤ 268435455 := by
  simp only [tResp, inT, orT, eqT, BT.den, IT.den, intCmp, Option.map_some, Option.some.injEq, Bool.and_eq_true, decide_eq_true_eq] at h
  obtain ⟨⟨h1, h2⟩, ⟨h3, h4⟩, _⟩ := h
  exact ⟨h1, h2, h3, h4⟩

theorem u_den {ρ : Env} {i n : Nat} (h : ρ.I i = (n : Int)) (hn : n < 2 ^ 64) : (uT i).den ρ = some (n : Int) := by
  simp only [uT, IT.den, h, Option.map_some, cv_den n hn]
theorem packOp_den {ρ : Env} {c k a b : Nat} (h0 : ρ.I 0 = (c : Int)) (h1 : ρ.I 1 = (k : Int)) (h2 : ρ.I 2 = (a : Int)) (h3 : ρ.I 3 = (b : Int)) (hc : c ≤ 14) (hk : k ≤ 255) (ha : a ≤ 1023) (hb : b ≤ 1023) : packOp.den ρ = some true := by
  have u0 := u_den h0 (by omega)
  have u1 := u_den h1 (by omega)
  have u2 := u_den h2 (by omega)
  have u3 := u_den h3 (by omega)
  have s0 : (shlI 0 28).den ρ = some ((c * 2 ^ 28 : Nat) : Int) := by simp only [shlI, IT.den, u0]; exact shl_den c 28 (by omega) (by omega)
  have s1 : (shlI 1 20).den ρ = some ((k * 2 ^ 20 : Nat) : Int) := by simp only [shlI, IT.den, u1]; exact shl_den k 20 (by omega) (by omega)
  have s2 : (shlI 2 10).den ρ = some ((a * 2 ^ 10 : Nat) : Int) := by simp only [shlI, IT.den, u2]; exact shl_den a 10 (by omega) (by omega)
  have m0 : (mulI 0 268435456).den ρ = some ((c * 268435456 : Nat) : Int) := by simp only [mulI, IT.den, u0]; exact mul_den c 268435456 (by omega)
  have m1 : (mulI 1 1048576).den ρ = some ((k * 1048576 : Nat) : Int) := by simp only [mulI, IT.den, u1]; exact mul_den k 1048576 (by omega)
  have m2 : (mulI 2 1024).den ρ = some ((a * 1024 : Nat) : Int) := by simp only [mulI, IT.den, u2]; exact mul_den a 1024 (by omega)
  have o1 : (orI (shlI 0 28) (shlI 1 20)).den ρ = some (((c * 256 + k) * 2 ^ 20 : Nat) : Int) := by
    simp only [orI, IT.den, s0, s1]
    rw [or_den c (k * 2 ^ 20) 28 (by omega) (by omega), show c * 2 ^ 28 + k * 2 ^ 20 = (c * 256 + k) * 2 ^ 20 by omega]
  have o2 : (orI (orI (shlI 0 28) (shlI 1 20)) (shlI 2 10)).den ρ = some ((((c * 256 + k) * 1024 + a) * 2 ^ 10 : Nat) : Int) := by
    rw [orI]
    simp only [IT.den, o1, s2]
    rw [or_den (c * 256 + k) (a * 2 ^ 10) 20 (by omega) (by omega), show (c * 256 + k) * 2 ^ 20 + a * 2 ^ 10 = ((c * 256 + k) * 1024 + a) * 2 ^ 10 by omega]
  have o3 : (orI (orI (orI (shlI 0 28) (shlI 1 20)) (shlI 2 10)) (uT 3)).den ρ = some (((((c * 256 + k) * 1024 + a) * 2 ^ 10 + b) : Nat) : Int) := by
    rw [orI]
    simp only [IT.den, o2, u3]
    exact or_den ((c * 256 + k) * 1024 + a) b 10 (by omega) (by omega)
  have p1 : (addI (mulI 0 268435456) (mulI 1 1048576)).den ρ = some ((c * 268435456 + k * 1048576 : Nat) : Int) := by simp only [addI, IT.den, m0, m1]; exact add_den _ _ (by omega)
  have p2 : (addI (addI (mulI 0 268435456) (mulI 1 1048576)) (mulI 2 1024)).den ρ = some ((c * 268435456 + k * 1048576 + a * 1024 : Nat) : Int) := by
    rw [addI]; simp only [IT.den, p1, m2]; exact add_den _ _ (by omega)
  have p3 : (addI (addI (addI (mulI 0 268435456) (mulI 1 1048576)) (mulI 2 1024)) (uT 3)).den ρ = some ((c * 268435456 + k * 1048576 + a * 1024 + b : Nat) : Int) := by
    rw [addI]; simp only [IT.den, p2, u3]; exact add_den _ _ (by omega)
  simp only [packOp, BT.den, o3, p3, intCmp, Option.some.injEq, beq_iff_eq]
  omega
theorem packResp_den {ρ : Env} {k v : Nat} (h0 : ρ.I 10 = (k : Int)) (h1 : ρ.I 11 = (v : Int)) (hk : k ≤ 5) (hv : v ≤ 268435455) : packResp.den ρ = some true := by
  have u0 := u_den h0 (by omega)
  have u1 := u_den h1 (by omega)
  have s0 : (shlI 10 28).den ρ = some ((k * 2 ^ 28 : Nat) : Int) := by simp only [shlI, IT.den, u0]; exact shl_den k 28 (by omega) (by omega)
  have m0 : (mulI 10 268435456).den ρ = some ((k * 268435456 : Nat) : Int) := by simp only [mulI, IT.den, u0]; exact mul_den k 268435456 (by omega)
  have o1 : (orI (shlI 10 28) (uT 11)).den ρ = some ((k * 2 ^ 28 + v : Nat) : Int) := by simp only [orI, IT.den, s0, u1]; exact or_den k v 28 (by omega) (by omega)
  have p1 : (addI (mulI 10 268435456) (uT 11)).den ρ = some ((k * 268435456 + v : Nat) : Int) := by simp only [addI, IT.den, m0, u1]; exact add_den _ _ (by omega)
  simp only [packResp, BT.den, o1, p1, intCmp, Option.some.injEq, beq_iff_eq]

theorem pack_walk (w : World) (c k a b i v : Int) : Calls Tryd.prog 9 #[.agg #[.int .i64 c, .int .i64 k, .int .i64 a, .int .i64 b], .agg #[.int .i64 i, .int .i64 v]] w (fun e w' => e = .returned (.bool true) ∧ Framed w w') := by
  obtain ⟨x, hx⟩ := tRight_some c k a b
  obtain ⟨y, hy⟩ := tResp_some i v
  generalize hρ : envOf [c, k, a, b, 0, 0, 0, 0, 0, 0, i, v] [] F0 = ρ
  have i0 : ρ.I 0 = c := by rw [← hρ]; rfl
  have i1 : ρ.I 1 = k := by rw [← hρ]; rfl
  have i2 : ρ.I 2 = a := by rw [← hρ]; rfl
  have i3 : ρ.I 3 = b := by rw [← hρ]; rfl
  have i10 : ρ.I 10 = i := by rw [← hρ]; rfl
  have i11 : ρ.I 11 = v := by rw [← hρ]; rfl
  have hN : ∀ j, ρ.N j = none := fun j => by rw [← hρ]; rfl
  refine calls_bool (ρ := ρ) noCount exts05_ok specs05_ok follows Tryd.func9 rfl (run9_all x y) (by simp only [AVal.denL, AVal.den, IT.den, opA, respB, i0, i1, i2, i3, i10, i11, Option.map_some]) hN (fun p hp => ?_) rfl
  rcases List.mem_cons.1 hp with rfl | hp
  · exact (tRight_lit (ρ0 := ρ) (by simp only [IT.den, i0]) (by simp only [IT.den, i1]) (by simp only [IT.den, i2]) (by simp only [IT.den, i3])).trans (hx ρ)
  rcases List.mem_cons.1 hp with rfl | hp
  · exact (tResp_lit (ρ0 := ρ) (by simp only [IT.den, i10]) (by simp only [IT.den, i11])).trans (hy ρ)
  rcases List.mem_append.1 hp with hp | hp
  · cases x with
    | false => cases hp
    | true =>
      rcases List.mem_cons.1 hp with rfl | hp
      · obtain ⟨h1, h2, h3, h4, h5, h6, h7, h8⟩ := right_bounds (hx ρ)
        exact packOp_den (c := c.toNat) (k := k.toNat) (a := a.toNat) (b := b.toNat) (by omega) (by omega) (by omega) (by omega) (by omega) (by omega) (by omega) (by omega)
      · cases hp
  · cases y with
    | false => cases hp
    | true =>
      rcases List.mem_cons.1 hp with rfl | hp
      · obtain ⟨h1, h2, h3, h4⟩ := resp_bounds (hy ρ)
        exact packResp_den (k := i.toNat) (v := v.toNat) (by omega) (by omega) (by omega) (by omega)
      · cases hp

end Go.Proofs.YtagdcclpibjfoaaDoor
