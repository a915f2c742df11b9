/-
  Scripts (3): packing and unpacking, as the machine's terms say.
-/
import Derived.Test.YtagdcclpibjfoaaDoorLk1
namespace Go.Proofs.YtagdcclpibjfoaaDoor
open Go.Vm Txt
namespace Sc

def rightB (c k a b : Int) : Bool := decide (0 ≤ c ∧ c ≤ 14 ∧ 0 ≤ k ∧ k ≤ 255 ∧ 0 ≤ a ∧ a ≤ 1023 ∧ 0 ≤ b ∧ b ≤ 1023 ∧ (k = 0 ∨ (4 ≤ c ∧ c ≠ 8)) ∧ (a = 0 ∨ c = 1 ∨ c = 5 ∨ c = 7 ∨ c = 10) ∧ (b = 0 ∨ c = 7))
theorem tRight_den {ρ : Env} {c k a b : IT} {x y z u : Int} (hc : c.den ρ = some x) (hk : k.den ρ = some y) (ha : a.den ρ = some z) (hb : b.den ρ = some u) : (tRight c k a b).den ρ = some (rightB x y z u) := by
  simp only [tRight, orT, eqT, inT, BT.den, IT.den, hc, hk, ha, hb, intCmp, Option.map_some, Option.some.injEq]
  rw [Bool.eq_iff_iff]
  simp [rightB]
  omega
def packI (c k a b : Int) : Int := c * 268435456 + k * 1048576 + a * 1024 + b
theorem right_bnd {c k a b : Int} (h : rightB c k a b = true) : 0 ≤ c ∧ c ≤ 14 ∧ 0 ≤ k ∧ k ≤ 255 ∧ 0 ≤ a ∧ a ≤ 1023 ∧ 0 ≤ b ∧ b ≤ 1023 := by
  simp only [rightB, decide_eq_true_eq] at h
  omega
theorem wrapU {x : Int} (h : 0 ≤ x) (h2 : x < 18446744073709551616) : IntKind.u64.wrap x = x := by rw [IntKind.wrap_u64]; omega
theorem packT_den {ρ : Env} {c k a b : IT} {x y z u : Int} (hc : c.den ρ = some x) (hk : k.den ρ = some y) (ha : a.den ρ = some z) (hb : b.den ρ = some u) (h : rightB x y z u = true) : (packT c k a b).den ρ = some (packI x y z u) := by
  obtain ⟨h1, h2, h3, h4, h5, h6, h7, h8⟩ := right_bnd h
  simp only [packT, addU, mulU, uCv, IT.den, hc, hk, ha, hb, intBin, Option.map_some]
  rw [wrapU (x := x) (by omega) (by omega), wrapU (x := y) (by omega) (by omega), wrapU (x := z) (by omega) (by omega), wrapU (x := u) (by omega) (by omega),
    wrapU (x := x * 268435456) (by omega) (by omega), wrapU (x := y * 1048576) (by omega) (by omega), wrapU (x := z * 1024) (by omega) (by omega),
    wrapU (x := x * 268435456 + y * 1048576) (by omega) (by omega), wrapU (x := x * 268435456 + y * 1048576 + z * 1024) (by omega) (by omega), wrapU (by omega) (by omega)]
  rfl
theorem emod_small (a : Nat) (h : a < 18446744073709551616) : ((a : Int) % 18446744073709551616) = a := by omega
theorem shr_den (m c : Nat) (hc : c ≤ 64) : intBin .shr .u64 (m : Int) (c : Int) = some ((m / 2 ^ c : Nat) : Int) := by
  simp only [intBin]
  rw [if_neg (by omega)]
  have : min (Int.toNat (c : Int)) IntKind.u64.bits = c := by
    have hb : IntKind.u64.bits = 64 := rfl
    rw [hb]; simp; omega
  rw [this]
  have h2 : ((2 : Int) ^ c) = ((2 ^ c : Nat) : Int) := by simp
  rw [h2, Int.fdiv_eq_ediv_of_nonneg _ (Int.natCast_nonneg _)]
  rfl
theorem quo_den (m k : Nat) (hk : k ≠ 0) (hm : m < 2 ^ 64) : intBin .quo .u64 (m : Int) (k : Int) = some ((m / k : Nat) : Int) := by
  simp only [intBin]
  rw [if_neg (by omega), IntKind.wrap_u64]
  have h1 : (m : Int).tdiv (k : Int) = ((m / k : Nat) : Int) := rfl
  have h2 : m / k ≤ m := Nat.div_le_self _ _
  rw [h1]
  rw [emod_small _ (by omega)]
theorem rem_den (m k : Nat) (hk : k ≠ 0) : intBin .rem .u64 (m : Int) (k : Int) = some ((m % k : Nat) : Int) := by
  simp only [intBin]
  rw [if_neg (by omega)]
  rfl
theorem and_den (m c : Nat) (hm : m < 2 ^ 64) (hc : c ≤ 63) : intBin .and .u64 (m : Int) ((2 ^ c - 1 : Nat) : Int) = some ((m % 2 ^ c : Nat) : Int) := by
  simp only [intBin, IntKind.wrap_u64]
  have hb : IntKind.u64.bits = 64 := rfl
  have hp : 2 ^ c ≤ 2 ^ 63 := Nat.pow_le_pow_right (by omega) hc
  have e1 : (BitVec.ofInt 64 (m : Int)).toNat = m := by
    simp; omega
  have e2 : (BitVec.ofInt 64 ((2 ^ c - 1 : Nat) : Int)).toNat = 2 ^ c - 1 := by
    rw [BitVec.toNat_ofInt]; omega
  rw [hb, BitVec.toNat_and, e1, e2, Nat.and_two_pow_sub_one_eq_mod]
  have : m % 2 ^ c < 2 ^ c := Nat.mod_lt _ (Nat.two_pow_pos c)
  rw [emod_small _ (by omega)]
theorem shl_den (x c : Nat) (hc : c ≤ 64) (h : x * 2 ^ c < 2 ^ 64) : intBin .shl .u64 (x : Int) (c : Int) = some ((x * 2 ^ c : Nat) : Int) := by
  simp only [intBin, IntKind.wrap_u64]
  rw [if_neg (by omega)]
  have : min (Int.toNat (c : Int)) IntKind.u64.bits = c := by
    have hb : IntKind.u64.bits = 64 := rfl
    rw [hb]; simp; omega
  rw [this]
  have h2 : (x : Int) * (2 : Int) ^ c = ((x * 2 ^ c : Nat) : Int) := by simp
  rw [h2, emod_small _ (by omega)]
theorem or_den (x y c : Nat) (hy : y < 2 ^ c) (h : x * 2 ^ c + y < 2 ^ 64) : intBin .or .u64 ((x * 2 ^ c : Nat) : Int) (y : Int) = some ((x * 2 ^ c + y : Nat) : Int) := by
  simp only [intBin, IntKind.wrap_u64]
  have hb : IntKind.u64.bits = 64 := rfl
  have e1 : (BitVec.ofInt 64 ((x * 2 ^ c : Nat) : Int)).toNat = x * 2 ^ c := by
    rw [BitVec.toNat_ofInt]; omega
  have e2 : (BitVec.ofInt 64 (y : Int)).toNat = y := by
    rw [BitVec.toNat_ofInt]; omega
  rw [hb, BitVec.toNat_or, e1, e2, ← Nat.shiftLeft_eq, ← Nat.shiftLeft_add_eq_or_of_lt hy, Nat.shiftLeft_eq, emod_small _ (by omega)]
-- PACK
noncomputable def sums81 : List LS := [.ret (.tuple [(.int .u64 (.lit 0)), (.bool (.lit false))]) [((.not (tRight (.var 0) (.var 1) (.var 2) (.var 3))), true)],
  .ret (.tuple [(.int .u64 (.bin .or .u64 (.bin .or .u64 (.bin .or .u64 (.bin .shl .u64 (.cv .u64 (.var 0)) (.lit 28)) (.bin .shl .u64 (.cv .u64 (.var 1)) (.lit 20))) (.bin .shl .u64 (.cv .u64 (.var 2)) (.lit 10))) (.cv .u64 (.var 3)))), (.bool (.lit true))]) [((.not (tRight (.var 0) (.var 1) (.var 2) (.var 3))), false)]]
def spR0 : CallF := spL [(45, spA spRight), (36, spA spRight)]
theorem spR0_ok (w : World) : CallOk Tryd.prog (.plain w) spR0 := by
  refine spL_ok fun p hp => ?_
  simp only [List.mem_cons, List.not_mem_nil, or_false] at hp
  rcases hp with rfl | rfl
  · exact spA_ok (specs05_ok (45, spRight) (by simp [specs05]))
  · exact spA_ok (specs05_ok (36, spRight) (by simp [specs05]))
def op4 : AVal := .agg [iv8 0, iv8 1, iv8 2, iv8 3]
theorem run81 : (run Tryd.prog [] spR0 4000 true 43 (entry Tryd.f43 (Tryd.f43.body.getD .ret) [op4] .leaf 0 [])).map (·.filterMap (sumL ⟨0, 0, 0, 0⟩ [])) = some sums81 := by kernel_rfl
theorem pack81 (w : World) (c k a b : Int) : Calls Tryd.prog 43 #[.agg #[.int .i64 c, .int .i64 k, .int .i64 a, .int .i64 b]] w (fun e w' => ∃ v, e = .returned v ∧ v = .tuple #[.int .u64 (if rightB c k a b then packI c k a b else 0), .bool (rightB c k a b)] ∧ Framed w w') := by
  refine calls_sums (β := .plain w) (ρ := envOf [c, k, a, b] [] F0) noCount noExt (spR0_ok w) follows rfl Tryd.func43 rfl run81 (xs := [.agg #[.int .i64 c, .int .i64 k, .int .i64 a, .int .i64 b]]) rfl (HRel.start w _ fun _ => rfl) (fun _ h => by cases h) (fun s hs => ?_)
  simp only [sums81, List.mem_cons, List.not_mem_nil, or_false] at hs
  rcases hs with rfl | rfl
  all_goals
    intro ρ hle hc u hu
    have e0 : ρ.I 0 = c := by rw [hle.i]; rfl
    have e1 : ρ.I 1 = k := by rw [hle.i]; rfl
    have e2 : ρ.I 2 = a := by rw [hle.i]; rfl
    have e3 : ρ.I 3 = b := by rw [hle.i]; rfl
    have hR : (tRight (.var 0) (.var 1) (.var 2) (.var 3)).den ρ = some (rightB c k a b) := tRight_den (by simp only [IT.den, e0]) (by simp only [IT.den, e1]) (by simp only [IT.den, e2]) (by simp only [IT.den, e3])
    simp only [CRel_cons, CRel_nil, and_true, BT.den, hR, Option.map_some, Option.some.injEq] at hc
  · have hr : rightB c k a b = false := by simpa using hc
    simp only [AVal.den, AVal.denL, IT.den, BT.den, Option.map_some, Option.some.injEq] at hu
    rw [← hu, hr]; rfl
  · have hr : rightB c k a b = true := by simpa using hc
    obtain ⟨h1, h2, h3, h4, h5, h6, h7, h8⟩ := right_bnd hr
    obtain ⟨c, rfl⟩ := Int.eq_ofNat_of_zero_le h1
    obtain ⟨k, rfl⟩ := Int.eq_ofNat_of_zero_le h3
    obtain ⟨a, rfl⟩ := Int.eq_ofNat_of_zero_le h5
    obtain ⟨b, rfl⟩ := Int.eq_ofNat_of_zero_le h7
    have w0 : IntKind.u64.wrap (c : Int) = c := wrapU (by omega) (by omega)
    have w1 : IntKind.u64.wrap (k : Int) = k := wrapU (by omega) (by omega)
    have w2 : IntKind.u64.wrap (a : Int) = a := wrapU (by omega) (by omega)
    have w3 : IntKind.u64.wrap (b : Int) = b := wrapU (by omega) (by omega)
    have s0 := shl_den c 28 (by omega) (by omega)
    have s1 := shl_den k 20 (by omega) (by omega)
    have s2 := shl_den a 10 (by omega) (by omega)
    have o1 := or_den c (k * 2 ^ 20) 28 (by omega) (by omega)
    have o2 := or_den (c * 256 + k) (a * 2 ^ 10) 20 (by omega) (by omega)
    have o3 := or_den ((c * 256 + k) * 1024 + a) b 10 (by omega) (by omega)
    rw [show (c * 256 + k) * 2 ^ 20 = c * 2 ^ 28 + k * 2 ^ 20 by omega] at o2
    rw [show ((c * 256 + k) * 1024 + a) * 2 ^ 10 = c * 2 ^ 28 + k * 2 ^ 20 + a * 2 ^ 10 by omega] at o3
    simp only [AVal.den, AVal.denL, IT.den, BT.den, e0, e1, e2, e3, w0, w1, w2, w3, Option.map_some] at hu
    rw [show ((28 : Int)) = ((28 : Nat) : Int) from rfl, s0, show ((20 : Int)) = ((20 : Nat) : Int) from rfl, s1] at hu
    simp only [o1] at hu
    rw [show ((10 : Int)) = ((10 : Nat) : Int) from rfl, s2] at hu
    simp only [o2, o3, Option.map_some, Option.some.injEq] at hu
    rw [← hu, hr]
    simp only [packI, if_true]
    congr 3
theorem spPack_ok : SpecOk Tryd.prog 43 spPack := by
  intro args alts ρ w xs h hx
  unfold spPack at h
  split at h
  · cases h
    obtain ⟨x, y, z, u, h1, h2, h3, h4, rfl⟩ := den_ints4 hx
    have hR := tRight_den h1 h2 h3 h4
    refine (pack81 w x y z u).mono fun e w' ⟨v, hv, hq, hf⟩ => ⟨v, hv, hf, ?_⟩
    cases hr : rightB x y z u with
    | true =>
      refine ⟨_, List.mem_cons_self, ?_, CRel_cons.2 ⟨by rw [hR, hr], CRel_nil.2 trivial⟩⟩
      simp only [AVal.den, AVal.denL, packT_den h1 h2 h3 h4 hr, BT.den, Option.map_some, hq, hr, if_true]
    | false =>
      refine ⟨_, List.mem_cons_of_mem _ List.mem_cons_self, ?_, CRel_cons.2 ⟨by rw [hR, hr], CRel_nil.2 trivial⟩⟩
      simp only [AVal.den, AVal.denL, IT.den, BT.den, Option.map_some, hq, hr]
      first | done | rfl
  · cases h
-- UNPACK
def partC (m : Nat) : Int := ((m / 268435456 : Nat) : Int)
def partK (m : Nat) : Int := ((m / 1048576 % 256 : Nat) : Int)
def partA (m : Nat) : Int := ((m / 1024 % 1024 : Nat) : Int)
def partB (m : Nat) : Int := ((m % 1024 : Nat) : Int)
def unpackV (m : Nat) : Value := if m ≤ 4294967295 ∧ rightB (partC m) (partK m) (partA m) (partB m) = true then .tuple #[.agg #[.int .i64 (partC m), .int .i64 (partK m), .int .i64 (partA m), .int .i64 (partB m)], .bool true]
  else .tuple #[.agg #[.int .i64 0, .int .i64 0, .int .i64 0, .int .i64 0], .bool false]
theorem parts_den {ρ : Env} {n : IT} {m : Nat} (hm : m < 2 ^ 64) (hn : n.den ρ = some (m : Int)) (hl : m ≤ 4294967295) : (pC n).den ρ = some (partC m) ∧ (pK n).den ρ = some (partK m) ∧ (pA n).den ρ = some (partA m) ∧ (pB n).den ρ = some (partB m) := by
  have q (c : Nat) (hc : c ≠ 0) : (quoU n (c : Int)).den ρ = some ((m / c : Nat) : Int) := by simp only [quoU, IT.den, hn, quo_den m c hc hm]
  have r {t : IT} {x : Nat} (ht : t.den ρ = some (x : Int)) (c : Nat) (hc : c ≠ 0) : (remU t (c : Int)).den ρ = some ((x % c : Nat) : Int) := by simp only [remU, IT.den, ht, rem_den x c hc]
  have c0 {t : IT} {x : Nat} (ht : t.den ρ = some (x : Int)) (hx : x ≤ 4294967295) : (IT.cv .i64 t).den ρ = some (x : Int) := by simp only [IT.den, ht, Option.map_some]; rw [wrap_ok (by omega) (by omega)]
  exact ⟨c0 (q 268435456 (by omega)) (by omega), c0 (r (q 1048576 (by omega)) 256 (by omega)) (by omega), c0 (r (q 1024 (by omega)) 1024 (by omega)) (by omega), c0 (r hn 1024 (by omega)) (by omega)⟩
noncomputable def sums53 : List LS := [.ret (.tuple [(.agg [(.int .i64 (.lit 0)), (.int .i64 (.lit 0)), (.int .i64 (.lit 0)), (.int .i64 (.lit 0))]), (.bool (.lit false))]) [((.cmp .neq (.bin .shr .u64 (.var 0) (.lit 32)) (.lit 0)), true)],
  .ret (.tuple [(.agg [(.int .i64 (.lit 0)), (.int .i64 (.lit 0)), (.int .i64 (.lit 0)), (.int .i64 (.lit 0))]), (.bool (.lit false))]) [((.not (tRight (.cv .i64 (.bin .shr .u64 (.var 0) (.lit 28))) (.cv .i64 (.bin .and .u64 (.bin .shr .u64 (.var 0) (.lit 20)) (.lit 255))) (.cv .i64 (.bin .and .u64 (.bin .shr .u64 (.var 0) (.lit 10)) (.lit 1023))) (.cv .i64 (.bin .and .u64 (.var 0) (.lit 1023))))), true), ((.cmp .neq (.bin .shr .u64 (.var 0) (.lit 32)) (.lit 0)), false)],
  .ret (.tuple [(.agg [(.int .i64 (.cv .i64 (.bin .shr .u64 (.var 0) (.lit 28)))), (.int .i64 (.cv .i64 (.bin .and .u64 (.bin .shr .u64 (.var 0) (.lit 20)) (.lit 255)))), (.int .i64 (.cv .i64 (.bin .and .u64 (.bin .shr .u64 (.var 0) (.lit 10)) (.lit 1023)))), (.int .i64 (.cv .i64 (.bin .and .u64 (.var 0) (.lit 1023))))]), (.bool (.lit true))]) [((.not (tRight (.cv .i64 (.bin .shr .u64 (.var 0) (.lit 28))) (.cv .i64 (.bin .and .u64 (.bin .shr .u64 (.var 0) (.lit 20)) (.lit 255))) (.cv .i64 (.bin .and .u64 (.bin .shr .u64 (.var 0) (.lit 10)) (.lit 1023))) (.cv .i64 (.bin .and .u64 (.var 0) (.lit 1023))))), false), ((.cmp .neq (.bin .shr .u64 (.var 0) (.lit 32)) (.lit 0)), false)]]
noncomputable def sums54 : List LS := [.ret (.tuple [(.agg [(.int .i64 (.lit 0)), (.int .i64 (.lit 0)), (.int .i64 (.lit 0)), (.int .i64 (.lit 0))]), (.bool (.lit false))]) [((.cmp .gtr (.var 0) (.lit 4294967295)), true)],
  .ret (.tuple [(.agg [(.int .i64 (.lit 0)), (.int .i64 (.lit 0)), (.int .i64 (.lit 0)), (.int .i64 (.lit 0))]), (.bool (.lit false))]) [((.not (tRight (pC (.var 0)) (pK (.var 0)) (pA (.var 0)) (pB (.var 0)))), true), ((.cmp .gtr (.var 0) (.lit 4294967295)), false)],
  .ret (.tuple [(.agg [(.int .i64 (pC (.var 0))), (.int .i64 (pK (.var 0))), (.int .i64 (pA (.var 0))), (.int .i64 (pB (.var 0)))]), (.bool (.lit true))]) [((.not (tRight (pC (.var 0)) (pK (.var 0)) (pA (.var 0)) (pB (.var 0)))), false), ((.cmp .gtr (.var 0) (.lit 4294967295)), false)]]
theorem run53 : (run Tryd.prog [] spR0 4000 true 50 (entry Tryd.f50 (Tryd.f50.body.getD .ret) [.int .u64 (.var 0)] .leaf 0 [])).map (·.filterMap (sumL ⟨0, 0, 0, 0⟩ [])) = some sums53 := by kernel_rfl
theorem run54 : (run Tryd.prog [] spR0 4000 true 51 (entry Tryd.f51 (Tryd.f51.body.getD .ret) [.int .u64 (.var 0)] .leaf 0 [])).map (·.filterMap (sumL ⟨0, 0, 0, 0⟩ [])) = some sums54 := by kernel_rfl
theorem unpack54 (w : World) (m : Nat) (hm : m < 2 ^ 64) : Calls Tryd.prog 51 #[.int .u64 (m : Int)] w (fun e w' => ∃ v, e = .returned v ∧ v = unpackV m ∧ Framed w w') := by
  refine calls_sums (β := .plain w) (ρ := envOf [(m : Int)] [] F0) noCount noExt (spR0_ok w) follows rfl Tryd.func51 rfl run54 (xs := [.int .u64 (m : Int)]) rfl (HRel.start w _ fun _ => rfl) (fun _ h => by cases h) (fun s hs => ?_)
  simp only [sums54, List.mem_cons, List.not_mem_nil, or_false] at hs
  rcases hs with rfl | rfl | rfl
  all_goals
    intro ρ hle hc u hu
    have e0 : (IT.var 0).den ρ = some (m : Int) := by show some (ρ.I 0) = _; rw [hle.i]; rfl
    have e1 : ρ.I 0 = (m : Int) := Option.some.inj e0
    simp only [CRel_cons, CRel_nil, and_true] at hc
  · have h1 : ¬ m ≤ 4294967295 := by
      simp only [BT.den, e1, IT.den, intCmp, Option.some.injEq, decide_eq_true_eq] at hc; omega
    simp only [AVal.den, AVal.denL, IT.den, BT.den, Option.map_some, Option.some.injEq] at hu
    rw [← hu]; unfold unpackV; rw [if_neg (fun h => h1 h.1)]
  · have h1 : m ≤ 4294967295 := by
      have := hc.2
      simp only [BT.den, e1, IT.den, intCmp, Option.some.injEq, decide_eq_false_iff_not] at this; omega
    obtain ⟨d1, d2, d3, d4⟩ := parts_den hm e0 h1
    have hR := tRight_den d1 d2 d3 d4
    have h2 := hc.1
    simp only [BT.den, hR, Option.map_some, Option.some.injEq] at h2
    simp only [AVal.den, AVal.denL, IT.den, BT.den, Option.map_some, Option.some.injEq] at hu
    rw [← hu]; unfold unpackV; rw [if_neg (fun h => by rw [h.2] at h2; cases h2)]
  · have h1 : m ≤ 4294967295 := by
      have := hc.2
      simp only [BT.den, e1, IT.den, intCmp, Option.some.injEq, decide_eq_false_iff_not] at this; omega
    obtain ⟨d1, d2, d3, d4⟩ := parts_den hm e0 h1
    have hR := tRight_den d1 d2 d3 d4
    have h2 := hc.1
    simp only [BT.den, hR, Option.map_some, Option.some.injEq] at h2
    simp only [AVal.den, AVal.denL, d1, d2, d3, d4, BT.den, Option.map_some, Option.some.injEq] at hu
    rw [← hu]; unfold unpackV; rw [if_pos ⟨h1, by simpa using h2⟩]
theorem unpack53 (w : World) (m : Nat) (hm : m < 2 ^ 64) : Calls Tryd.prog 50 #[.int .u64 (m : Int)] w (fun e w' => ∃ v, e = .returned v ∧ v = unpackV m ∧ Framed w w') := by
  refine calls_sums (β := .plain w) (ρ := envOf [(m : Int)] [] F0) noCount noExt (spR0_ok w) follows rfl Tryd.func50 rfl run53 (xs := [.int .u64 (m : Int)]) rfl (HRel.start w _ fun _ => rfl) (fun _ h => by cases h) (fun s hs => ?_)
  simp only [sums53, List.mem_cons, List.not_mem_nil, or_false] at hs
  have key : ∀ ρ : Env, (IT.var 0).den ρ = some (m : Int) → ((IT.bin .shr .u64 (.var 0) (.lit 32)).den ρ = some ((m / 2 ^ 32 : Nat) : Int)) ∧ (m ≤ 4294967295 → (IT.cv .i64 (.bin .shr .u64 (.var 0) (.lit 28))).den ρ = some (partC m) ∧ (IT.cv .i64 (.bin .and .u64 (.bin .shr .u64 (.var 0) (.lit 20)) (.lit 255))).den ρ = some (partK m) ∧
      (IT.cv .i64 (.bin .and .u64 (.bin .shr .u64 (.var 0) (.lit 10)) (.lit 1023))).den ρ = some (partA m) ∧ (IT.cv .i64 (.bin .and .u64 (.var 0) (.lit 1023))).den ρ = some (partB m)) := fun ρ e0 => by
    have s (c : Nat) (hc : c ≤ 64) : (IT.bin .shr .u64 (.var 0) (.lit (c : Int))).den ρ = some ((m / 2 ^ c : Nat) : Int) := by
      have e1 : ρ.I 0 = (m : Int) := Option.some.inj e0
      simp only [IT.den, e1, shr_den m c hc]
    have a {t : IT} {x : Nat} (ht : t.den ρ = some (x : Int)) (hx : x < 2 ^ 64) (c : Nat) (hc : c ≤ 63) : (IT.bin .and .u64 t (.lit ((2 ^ c - 1 : Nat) : Int))).den ρ = some ((x % 2 ^ c : Nat) : Int) := by simp only [IT.den, ht, and_den x c hx hc]
    have c0 {t : IT} {x : Nat} (ht : t.den ρ = some (x : Int)) (hx : x ≤ 4294967295) : (IT.cv .i64 t).den ρ = some (x : Int) := by simp only [IT.den, ht, Option.map_some]; rw [wrap_ok (by omega) (by omega)]
    refine ⟨s 32 (by omega), fun h1 => ⟨?_, ?_, ?_, ?_⟩⟩
    · exact c0 (s 28 (by omega)) (by omega)
    · exact c0 (a (s 20 (by omega)) (by omega) 8 (by omega)) (by omega)
    · exact c0 (a (s 10 (by omega)) (by omega) 10 (by omega)) (by omega)
    · exact c0 (a e0 (by omega) 10 (by omega)) (by omega)
  have shut : ∀ ρ : Env, (IT.var 0).den ρ = some (m : Int) → ∀ b, (BT.cmp .neq (.bin .shr .u64 (.var 0) (.lit 32)) (.lit 0)).den ρ = some b → (b = false ↔ m ≤ 4294967295) := fun ρ e0 b h => by
    simp only [BT.den, (key ρ e0).1] at h
    simp only [IT.den, intCmp, Option.some.injEq] at h
    subst h
    simp
    omega
  rcases hs with rfl | rfl | rfl
  all_goals
    intro ρ hle hc u hu
    have e0 : (IT.var 0).den ρ = some (m : Int) := by show some (ρ.I 0) = _; rw [hle.i]; rfl
    have e1 : ρ.I 0 = (m : Int) := Option.some.inj e0
    simp only [CRel_cons, CRel_nil, and_true] at hc
  · have h1 : ¬ m ≤ 4294967295 := fun h => by have := (shut ρ e0 _ hc).2 h; cases this
    simp only [AVal.den, AVal.denL, IT.den, BT.den, Option.map_some, Option.some.injEq] at hu
    rw [← hu]; unfold unpackV; rw [if_neg (fun h => h1 h.1)]
  · have h1 : m ≤ 4294967295 := (shut ρ e0 _ hc.2).1 rfl
    obtain ⟨d1, d2, d3, d4⟩ := (key ρ e0).2 h1
    have hR := tRight_den d1 d2 d3 d4
    have h2 := hc.1
    simp only [BT.den, hR, Option.map_some, Option.some.injEq] at h2
    simp only [AVal.den, AVal.denL, IT.den, BT.den, Option.map_some, Option.some.injEq] at hu
    rw [← hu]; unfold unpackV; rw [if_neg (fun h => by rw [h.2] at h2; cases h2)]
  · have h1 : m ≤ 4294967295 := (shut ρ e0 _ hc.2).1 rfl
    obtain ⟨d1, d2, d3, d4⟩ := (key ρ e0).2 h1
    have hR := tRight_den d1 d2 d3 d4
    have h2 := hc.1
    simp only [BT.den, hR, Option.map_some, Option.some.injEq] at h2
    simp only [AVal.den, AVal.denL, d1, d2, d3, d4, BT.den, Option.map_some, Option.some.injEq] at hu
    rw [← hu]; unfold unpackV; rw [if_pos ⟨h1, by simpa using h2⟩]
end Sc
end Go.Proofs.YtagdcclpibjfoaaDoor
