/-
  Scripts (6): the reference decoder; the decoder.
-/
import Derived.Test.YtagdcclpibjfoaaDoorLk4
section
namespace Go.Proofs.YtagdcclpibjfoaaDoor
open Go.Vm Txt
namespace Sc

def uQ : IT := .cv .u64 (.bin .quo .i64 (.var 0) (.lit 384))
/-- Unpacking a number that was made one. -/
def spUnpackC : SpecF := fun args => match args with
  | [.int .u64 (.cv .u64 t)] => spUnpack [.int .u64 (.cv .u64 t)]
  | _ => none
theorem spUnpack_ok {g : FuncId} (h : ∀ w m, m < 2 ^ 64 → Calls Tryd.prog g #[.int .u64 ((m : Nat) : Int)] w (fun e w' => ∃ v, e = .returned v ∧ v = unpackV m ∧ Framed w w')) : SpecOk Tryd.prog g spUnpackC := by
  intro args alts ρ w xs hs hx
  unfold spUnpackC at hs
  split at hs
  · rename_i t
    simp only [AVal.denL, AVal.den, IT.den, Option.map_map] at hx
    cases ht : t.den ρ with
    | none => rw [ht] at hx; cases hx
    | some x =>
      rw [ht] at hx
      have hw := IntKind.wrap_u64 x
      obtain ⟨m, hm⟩ := Int.eq_ofNat_of_zero_le (show 0 ≤ IntKind.u64.wrap x by omega)
      have hlt : m < 2 ^ 64 := by omega
      have hd : (IT.cv .u64 t).den ρ = some (m : Int) := by simp only [IT.den, ht, Option.map_some, hm]
      obtain ⟨u, alts', ha, hu, hd1, hc1⟩ := alt54 hlt hd
      rw [ha] at hs
      obtain rfl := Option.some.inj hs
      have hx2 : xs = [.int .u64 (m : Int)] := by
        simp only [Option.map_some, Function.comp_apply, Option.some.injEq, hm] at hx
        exact hx.symm
      rw [hx2]
      refine (h w m hlt).mono fun e w' ⟨v, hv, hq, hf⟩ => ⟨v, hv, hf, u, hu, ?_, hc1⟩
      rw [hd1, hq]
  · cases hs
theorem den_K {ρ : Env} {t : IT} {X : Nat} (h : t.den ρ = some (X : Int)) (c : Nat) (hc : c ≠ 0) : (IT.bin .rem .i64 t (.lit (c : Int))).den ρ = some ((X % c : Nat) : Int) := by
  simp only [IT.den, h, intBin]
  rw [if_neg (by omega)]; rfl
theorem den_Q {ρ : Env} {t : IT} {X : Nat} (h : t.den ρ = some (X : Int)) (hX : X < 2 ^ 63) (c : Nat) (hc : c ≠ 0) : (IT.bin .quo .i64 t (.lit (c : Int))).den ρ = some ((X / c : Nat) : Int) := by
  simp only [IT.den, h, intBin]
  have h2 : X / c ≤ X := Nat.div_le_self _ _
  rw [if_neg (by omega), show ((X : Int)).tdiv (c : Int) = ((X / c : Nat) : Int) from rfl]
  generalize X / c = q at h2 ⊢
  rw [wrap_ok (by omega) (by omega)]
theorem den_U {ρ : Env} {t : IT} {X : Nat} (h : t.den ρ = some (X : Int)) (hX : X < 2 ^ 63) : (IT.cv .u64 t).den ρ = some (X : Int) := by
  simp only [IT.den, h, Option.map_some]
  rw [wrapU (by omega) (by omega)]
theorem den_add {ρ : Env} {t u : IT} {x y : Int} (h : t.den ρ = some x) (h2 : u.den ρ = some y) : (IT.bin .add .i64 t u).den ρ = some (IntKind.i64.wrap (x + y)) := by simp only [IT.den, h, h2, intBin]
theorem not_one {X : Nat} (hk : X % 6 = 1) (h : rightB (partC (X / 384)) (partK (X / 384)) (partA (X / 384)) (partB (X / 384)) = false ∨ partC (X / 384) = 0) : ¬ DecOk (X : Int) := by
  intro hd
  have e : ((X : Int) / 384).toNat = X / 384 := by omega
  have h2 := hd.2.1 (by omega)
  rw [e] at h2
  rcases h with h | h
  · rw [h] at h2; exact absurd h2.2.1 (by decide)
  · exact h2.2.2 h
noncomputable def sums29 : List LS := [.ret (.tuple [(.agg [(.int .i64 (.lit 0)), (.int .i64 (.lit 0)), (.int .i64 (.lit 0)), (.int .i64 (.lit 0)), (.int .i64 (.lit 0)), (.int .i64 (.lit 0)), (.int .i64 (.lit 0)), (.int .i64 (.lit 0))]), (.bool (.lit false))]) [((.cmp .lss (.var 0) (.lit 0)), true)],
  .ret (.tuple [(.agg [(.int .i64 (.lit 0)), (.int .i64 (.lit 0)), (.int .i64 (.lit 0)), (.int .i64 (.lit 0)), (.int .i64 (.lit 0)), (.int .i64 (.lit 0)), (.int .i64 (.lit 0)), (.int .i64 (.lit 0))]), (.bool (.lit false))]) [((.cmp .gtr uQ (.lit 4294967295)), true), ((.cmp .eql (.bin .rem .i64 (.var 0) (.lit 6)) (.lit 1)), true), ((.cmp .lss (.var 0) (.lit 0)), false)],
  .ret (.tuple [(.agg [(.int .i64 (.lit 0)), (.int .i64 (.lit 0)), (.int .i64 (.lit 0)), (.int .i64 (.lit 0)), (.int .i64 (.lit 0)), (.int .i64 (.lit 0)), (.int .i64 (.lit 0)), (.int .i64 (.lit 0))]), (.bool (.lit false))]) [((.cmp .eql (pC uQ) (.lit 0)), true), ((.cmp .gtr uQ (.lit 4294967295)), false), ((tRight (pC uQ) (pK uQ) (pA uQ) (pB uQ)), true), ((.cmp .eql (.bin .rem .i64 (.var 0) (.lit 6)) (.lit 1)), true), ((.cmp .lss (.var 0) (.lit 0)), false)],
  .ret (.tuple [(.agg [(.int .i64 (.bin .rem .i64 (.var 0) (.lit 6))), (.int .i64 (.bin .rem .i64 (.bin .quo .i64 (.var 0) (.lit 6)) (.lit 64))), (.int .i64 (.lit 0)), (.int .i64 (.lit 0)), (.int .i64 (pC uQ)), (.int .i64 (pK uQ)), (.int .i64 (pA uQ)), (.int .i64 (pB uQ))]), (.bool (.lit true))]) [((.cmp .eql (pC uQ) (.lit 0)), false), ((.cmp .gtr uQ (.lit 4294967295)), false), ((tRight (pC uQ) (pK uQ) (pA uQ) (pB uQ)), true), ((.cmp .eql (.bin .rem .i64 (.var 0) (.lit 6)) (.lit 1)), true), ((.cmp .lss (.var 0) (.lit 0)), false)],
  .ret (.tuple [(.agg [(.int .i64 (.lit 0)), (.int .i64 (.lit 0)), (.int .i64 (.lit 0)), (.int .i64 (.lit 0)), (.int .i64 (.lit 0)), (.int .i64 (.lit 0)), (.int .i64 (.lit 0)), (.int .i64 (.lit 0))]), (.bool (.lit false))]) [((.cmp .gtr uQ (.lit 4294967295)), false), ((tRight (pC uQ) (pK uQ) (pA uQ) (pB uQ)), false), ((.cmp .eql (.bin .rem .i64 (.var 0) (.lit 6)) (.lit 1)), true), ((.cmp .lss (.var 0) (.lit 0)), false)],
  .ret (.tuple [(.agg [(.int .i64 (.lit 0)), (.int .i64 (.lit 0)), (.int .i64 (.lit 0)), (.int .i64 (.lit 0)), (.int .i64 (.lit 0)), (.int .i64 (.lit 0)), (.int .i64 (.lit 0)), (.int .i64 (.lit 0))]), (.bool (.lit false))]) [((.cmp .gtr (.bin .quo .i64 (.var 0) (.lit 384)) (.lit 63)), true), ((.cmp .eql (.bin .rem .i64 (.var 0) (.lit 6)) (.lit 4)), true), ((.cmp .eql (.bin .rem .i64 (.var 0) (.lit 6)) (.lit 1)), false), ((.cmp .lss (.var 0) (.lit 0)), false)],
  .ret (.tuple [(.agg [(.int .i64 (.bin .rem .i64 (.var 0) (.lit 6))), (.int .i64 (.bin .rem .i64 (.bin .quo .i64 (.var 0) (.lit 6)) (.lit 64))), (.int .i64 (.bin .quo .i64 (.var 0) (.lit 384))), (.int .i64 (.lit 0)), (.int .i64 (.lit 0)), (.int .i64 (.lit 0)), (.int .i64 (.lit 0)), (.int .i64 (.lit 0))]), (.bool (.lit true))]) [((.cmp .gtr (.bin .quo .i64 (.var 0) (.lit 384)) (.lit 63)), false), ((.cmp .eql (.bin .rem .i64 (.var 0) (.lit 6)) (.lit 4)), true), ((.cmp .eql (.bin .rem .i64 (.var 0) (.lit 6)) (.lit 1)), false), ((.cmp .lss (.var 0) (.lit 0)), false)],
  .ret (.tuple [(.agg [(.int .i64 (.lit 0)), (.int .i64 (.lit 0)), (.int .i64 (.lit 0)), (.int .i64 (.lit 0)), (.int .i64 (.lit 0)), (.int .i64 (.lit 0)), (.int .i64 (.lit 0)), (.int .i64 (.lit 0))]), (.bool (.lit false))]) [((.cmp .gtr (.bin .quo .i64 (.var 0) (.lit 384)) (.lit 999)), true), ((.cmp .eql (.bin .rem .i64 (.var 0) (.lit 6)) (.lit 5)), true), ((.cmp .eql (.bin .rem .i64 (.var 0) (.lit 6)) (.lit 4)), false), ((.cmp .eql (.bin .rem .i64 (.var 0) (.lit 6)) (.lit 1)), false), ((.cmp .lss (.var 0) (.lit 0)), false)],
  .ret (.tuple [(.agg [(.int .i64 (.bin .rem .i64 (.var 0) (.lit 6))), (.int .i64 (.bin .rem .i64 (.bin .quo .i64 (.var 0) (.lit 6)) (.lit 64))), (.int .i64 (.lit 0)), (.int .i64 (.bin .add .i64 (.bin .quo .i64 (.var 0) (.lit 384)) (.lit 1))), (.int .i64 (.lit 0)), (.int .i64 (.lit 0)), (.int .i64 (.lit 0)), (.int .i64 (.lit 0))]), (.bool (.lit true))]) [((.cmp .gtr (.bin .quo .i64 (.var 0) (.lit 384)) (.lit 999)), false), ((.cmp .eql (.bin .rem .i64 (.var 0) (.lit 6)) (.lit 5)), true), ((.cmp .eql (.bin .rem .i64 (.var 0) (.lit 6)) (.lit 4)), false), ((.cmp .eql (.bin .rem .i64 (.var 0) (.lit 6)) (.lit 1)), false), ((.cmp .lss (.var 0) (.lit 0)), false)],
  .ret (.tuple [(.agg [(.int .i64 (.lit 0)), (.int .i64 (.lit 0)), (.int .i64 (.lit 0)), (.int .i64 (.lit 0)), (.int .i64 (.lit 0)), (.int .i64 (.lit 0)), (.int .i64 (.lit 0)), (.int .i64 (.lit 0))]), (.bool (.lit false))]) [((.cmp .gtr (.bin .quo .i64 (.var 0) (.lit 384)) (.lit 0)), true), ((.cmp .eql (.bin .rem .i64 (.var 0) (.lit 6)) (.lit 5)), false), ((.cmp .eql (.bin .rem .i64 (.var 0) (.lit 6)) (.lit 4)), false), ((.cmp .eql (.bin .rem .i64 (.var 0) (.lit 6)) (.lit 1)), false), ((.cmp .lss (.var 0) (.lit 0)), false)],
  .ret (.tuple [(.agg [(.int .i64 (.bin .rem .i64 (.var 0) (.lit 6))), (.int .i64 (.bin .rem .i64 (.bin .quo .i64 (.var 0) (.lit 6)) (.lit 64))), (.int .i64 (.lit 0)), (.int .i64 (.lit 0)), (.int .i64 (.lit 0)), (.int .i64 (.lit 0)), (.int .i64 (.lit 0)), (.int .i64 (.lit 0))]), (.bool (.lit true))]) [((.cmp .gtr (.bin .quo .i64 (.var 0) (.lit 384)) (.lit 0)), false), ((.cmp .eql (.bin .rem .i64 (.var 0) (.lit 6)) (.lit 5)), false), ((.cmp .eql (.bin .rem .i64 (.var 0) (.lit 6)) (.lit 4)), false), ((.cmp .eql (.bin .rem .i64 (.var 0) (.lit 6)) (.lit 1)), false), ((.cmp .lss (.var 0) (.lit 0)), false)]]
theorem spR2_ok {β : Base} : CallOk Tryd.prog β (spL [(45, spA spRight), (36, spA spRight), (43, spA spPack), (50, spA spUnpackC), (51, spA spUnpackC)]) := spL_ok fun p hp => by
  simp only [List.mem_cons, List.not_mem_nil, or_false] at hp
  rcases hp with rfl | rfl | rfl | rfl | rfl
  · exact spA_ok (specs05_ok (45, spRight) (by simp [specs05]))
  · exact spA_ok (specs05_ok (36, spRight) (by simp [specs05]))
  · exact spA_ok spPack_ok
  · exact spA_ok (spUnpack_ok unpack53)
  · exact spA_ok (spUnpack_ok unpack54)
theorem run29 : (run Tryd.prog [] (spL [(45, spA spRight), (36, spA spRight), (43, spA spPack), (50, spA spUnpackC), (51, spA spUnpackC)]) 4000 true 124 (entry Tryd.f124 (Tryd.f124.body.getD .ret) [.int .i64 (.var 0)] .leaf 0 [])).map (·.filterMap (sumL ⟨0, 0, 0, 0⟩ [])) = some sums29 := by kernel_rfl
theorem dec29 (W : World) (x : Int) (hlo : -9223372036854775808 ≤ x) (hhi : x < 9223372036854775808) : Calls Tryd.prog 124 #[.int .i64 x] W (fun e w' => ∃ v, e = .returned v ∧ v = decU x ∧ Framed W w') := by
  refine calls_sums (β := .plain W) (ρ := envOf [x] [] F0) noCount noExt spR2_ok follows rfl Tryd.func124 rfl run29 (xs := [.int .i64 x]) rfl (HRel.start W _ fun _ => rfl) (fun _ h => by cases h) (fun s hs => ?_)
  simp only [sums29, List.mem_cons, List.not_mem_nil, or_false] at hs
  rcases hs with rfl | rfl | rfl | rfl | rfl | rfl | rfl | rfl | rfl | rfl | rfl
  all_goals
    intro ρ hle hc u hu
    have e0 : (IT.var 0).den ρ = some x := by show some (ρ.I 0) = _; rw [hle.i]; rfl
    by_cases hneg : x < 0
    · have hno : decU x = _ := dec_no (fun h => by have := h.1; omega)
      simp only [CRel_cons, CRel_nil, and_true, BT.den, e0, den_lit, intCmp, Option.some.injEq, decide_eq_true_eq, decide_eq_false_iff_not] at hc
      first
        | omega
        | (simp only [AVal.den, AVal.denL, den_lit, BT.den, Option.map_some, Option.some.injEq] at hu
           rw [← hu, hno]; rfl)
    obtain ⟨X, rfl⟩ := Int.eq_ofNat_of_zero_le (show 0 ≤ x by omega)
    have hX : X < 2 ^ 63 := by omega
    have dK : (IT.bin .rem .i64 (.var 0) (.lit 6)).den ρ = some ((X % 6 : Nat) : Int) := den_K e0 6 (by omega)
    have d6 : (IT.bin .quo .i64 (.var 0) (.lit 6)).den ρ = some ((X / 6 : Nat) : Int) := den_Q e0 hX 6 (by omega)
    have dW : (IT.bin .rem .i64 (.bin .quo .i64 (.var 0) (.lit 6)) (.lit 64)).den ρ = some ((X / 6 % 64 : Nat) : Int) := den_K d6 64 (by omega)
    have dD : (IT.bin .quo .i64 (.var 0) (.lit 384)).den ρ = some ((X / 384 : Nat) : Int) := den_Q e0 hX 384 (by omega)
    have dU : uQ.den ρ = some ((X / 384 : Nat) : Int) := den_U dD (by omega)
    have dA : (IT.bin .add .i64 (.bin .quo .i64 (.var 0) (.lit 384)) (.lit 1)).den ρ = some (((X / 384 : Nat) : Int) + 1) := by
      rw [den_add dD (den_lit 1), wrap_ok (by omega) (by omega)]
    have eX : ((X : Int) / 384).toNat = X / 384 := by omega
    by_cases hl : X / 384 ≤ 4294967295
    · obtain ⟨d1, d2, d3, d4⟩ := parts_den (show X / 384 < 2 ^ 64 by omega) dU hl
      have hR := tRight_den d1 d2 d3 d4
      simp only [CRel_cons, CRel_nil, and_true, BT.den, e0, dK, dU, dD, d1, hR, den_lit, intCmp, Option.some.injEq, beq_iff_eq, beq_eq_false_iff_ne, decide_eq_true_eq, decide_eq_false_iff_not] at hc
      cases hr : rightB (partC (X / 384)) (partK (X / 384)) (partA (X / 384)) (partB (X / 384))
      all_goals
        try simp only [hr, reduceCtorEq, true_and, false_and, and_false] at hc
        try (simp only [AVal.den, AVal.denL, dK, dW, dD, dA, d1, d2, d3, d4, den_lit, BT.den, Option.map_some, Option.some.injEq] at hu
             first
               | omega
               | (rw [← hu, dec_one (by omega) (by omega) hr (by omega)]; rfl)
               | (rw [← hu, dec_four (by omega) (by omega)]; rfl)
               | (rw [← hu, dec_five (by omega) (by omega)]; rfl)
               | (rw [← hu, dec_else (by omega) (by omega) (by omega) (by omega)]; rfl)
               | (rw [← hu, dec_no (not_one (by omega) (.inl hr))]; rfl)
               | (rw [← hu, dec_no (not_one (by omega) (.inr (by omega)))]; rfl)
               | (rw [← hu, dec_no (fun h => by obtain ⟨q1, _, q3, q4, q5⟩ := h; omega)]; rfl))
    · simp only [CRel_cons, CRel_nil, and_true, BT.den, e0, dK, dU, dD, den_lit, intCmp, Option.some.injEq, beq_iff_eq, beq_eq_false_iff_ne, decide_eq_true_eq, decide_eq_false_iff_not] at hc
      try (simp only [AVal.den, AVal.denL, dK, dW, dD, dA, den_lit, BT.den, Option.map_some, Option.some.injEq] at hu)
      first
        | omega
        | (rw [← hu, dec_four (by omega) (by omega)]; rfl)
        | (rw [← hu, dec_five (by omega) (by omega)]; rfl)
        | (rw [← hu, dec_else (by omega) (by omega) (by omega) (by omega)]; rfl)
        | (rw [← hu, dec_no (fun h => by obtain ⟨q1, q2, q3, q4, q5⟩ := h; omega)]; rfl)
end Sc
end Go.Proofs.YtagdcclpibjfoaaDoor
end

/-
  Scripts (7): the decoder, which encodes again what it found.
-/
section
namespace Go.Proofs.YtagdcclpibjfoaaDoor
open Go.Vm Txt
namespace Sc

/-- What is known where memory is plain: the names. -/
def βF (w : World) : Base := ⟨w, [], fun _ _ _ _ F => F = F1⟩
theorem βF_named (w : World) : Named (βF w) := fun _ _ _ _ _ h => h
end Sc
end Go.Proofs.YtagdcclpibjfoaaDoor
end
