/-
  Scripts (4): encoding an event.
-/
import Derived.Test.YtagdcclpibjfoaaDoorLk2
namespace Go.Proofs.YtagdcclpibjfoaaDoor
open Go.Vm Txt
namespace Sc

theorem alt54 {ρ : Env} {n : IT} {m : Nat} (hm : m < 2 ^ 64) (hn : n.den ρ = some (m : Int)) : ∃ u alts, spUnpack [.int .u64 n] = some alts ∧ u ∈ alts ∧ u.1.den ρ = some (unpackV m) ∧ CRel ρ u.2 := by
  by_cases h1 : m ≤ 4294967295
  · obtain ⟨d1, d2, d3, d4⟩ := parts_den hm hn h1
    have hR := tRight_den d1 d2 d3 d4
    have hg : (BT.cmp .gtr n (.lit 4294967295)).den ρ = some false := by
      simp only [BT.den, IT.den, hn, intCmp, Option.some.injEq, decide_eq_false_iff_not]; omega
    cases hr : rightB (partC m) (partK m) (partA m) (partB m) with
    | true =>
      refine ⟨_, _, rfl, List.mem_cons_of_mem _ List.mem_cons_self, ?_, ?_⟩
      · simp only [AVal.den, AVal.denL, BT.den, Option.map_some, d1, d2, d3, d4]
        unfold unpackV; rw [if_pos ⟨h1, hr⟩]
      · simp only [CRel_cons, CRel_nil, and_true]; exact ⟨hg, by rw [hR, hr]⟩
    | false =>
      refine ⟨_, _, rfl, List.mem_cons_of_mem _ (List.mem_cons_of_mem _ List.mem_cons_self), ?_, ?_⟩
      · simp only [AVal.den, AVal.denL, zeroOp, IT.den, BT.den, Option.map_some]
        unfold unpackV; rw [if_neg (fun h => by rw [hr] at h; cases h.2)]
      · simp only [CRel_cons, CRel_nil, and_true]; exact ⟨hg, by rw [hR, hr]⟩
  · have hg : (BT.cmp .gtr n (.lit 4294967295)).den ρ = some true := by
      simp only [BT.den, IT.den, hn, intCmp, Option.some.injEq, decide_eq_true_eq]; omega
    refine ⟨_, _, rfl, List.mem_cons_self, ?_, ?_⟩
    · simp only [AVal.den, AVal.denL, zeroOp, IT.den, BT.den, Option.map_some]
      unfold unpackV; rw [if_neg (fun h => h1 h.1)]
    · simp only [CRel_cons, CRel_nil, and_true]; exact hg
-- ENCODE
def EncOk (k w o n c y a b : Int) : Prop := 0 ≤ w ∧ w < 64 ∧ 0 ≤ k ∧ k ≤ 5 ∧ ((k = 1 ∧ rightB c y a b = true ∧ c ≠ 0 ∧ o = 0 ∧ n = 0) ∨ (k = 4 ∧ 0 ≤ o ∧ o < 64 ∧ n = 0 ∧ c = 0 ∧ y = 0 ∧ a = 0 ∧ b = 0) ∨
  (k = 5 ∧ 1 ≤ n ∧ n ≤ 1000 ∧ o = 0 ∧ c = 0 ∧ y = 0 ∧ a = 0 ∧ b = 0) ∨ (k ≠ 1 ∧ k ≠ 4 ∧ k ≠ 5 ∧ o = 0 ∧ n = 0 ∧ c = 0 ∧ y = 0 ∧ a = 0 ∧ b = 0))
instance (k w o n c y a b : Int) : Decidable (EncOk k w o n c y a b) := by unfold EncOk; exact inferInstance
def encX (k w o n c y a b : Int) : Int := ((if k = 1 then packI c y a b else if k = 4 then o else if k = 5 then n - 1 else 0) * 64 + w) * 6 + k
def encU (k w o n c y a b : Int) : Value := if EncOk k w o n c y a b then .tuple #[.int .i64 (encX k w o n c y a b), .bool true] else .tuple #[.int .i64 0, .bool false]
noncomputable def sums30 : List LS := [.ret (.tuple [(.int .i64 (.lit 0)), (.bool (.lit false))]) [((.cmp .neq (.var 4) (.lit 0)), false), ((tRight (.var 4) (.var 5) (.var 6) (.var 7)), true), ((.cmp .eql (.var 0) (.lit 1)), true)],
  .ret (.tuple [(.int .i64 (.lit 0)), (.bool (.lit false))]) [((.not (.and (.cmp .eql (.var 2) (.lit 0)) (.cmp .eql (.var 3) (.lit 0)))), true), ((.cmp .neq (.var 4) (.lit 0)), true), ((tRight (.var 4) (.var 5) (.var 6) (.var 7)), true), ((.cmp .eql (.var 0) (.lit 1)), true)],
  .ret (.tuple [(.int .i64 (.lit 0)), (.bool (.lit false))]) [((.cmp .lss (.var 1) (.lit 0)), true), ((.not (.and (.cmp .eql (.var 2) (.lit 0)) (.cmp .eql (.var 3) (.lit 0)))), false), ((.cmp .neq (.var 4) (.lit 0)), true), ((tRight (.var 4) (.var 5) (.var 6) (.var 7)), true), ((.cmp .eql (.var 0) (.lit 1)), true)],
  .ret (.tuple [(.int .i64 (.lit 0)), (.bool (.lit false))]) [((.cmp .geq (.var 1) (.lit 64)), true), ((.cmp .lss (.var 1) (.lit 0)), false), ((.not (.and (.cmp .eql (.var 2) (.lit 0)) (.cmp .eql (.var 3) (.lit 0)))), false), ((.cmp .neq (.var 4) (.lit 0)), true), ((tRight (.var 4) (.var 5) (.var 6) (.var 7)), true), ((.cmp .eql (.var 0) (.lit 1)), true)],
  .ret (.tuple [(.int .i64 (.bin .add .i64 (.bin .mul .i64 (.bin .add .i64 (.bin .mul .i64 (.cv .i64 (packT (.var 4) (.var 5) (.var 6) (.var 7))) (.lit 64)) (.var 1)) (.lit 6)) (.var 0))), (.bool (.lit true))]) [((.cmp .geq (.var 1) (.lit 64)), false), ((.cmp .lss (.var 1) (.lit 0)), false), ((.not (.and (.cmp .eql (.var 2) (.lit 0)) (.cmp .eql (.var 3) (.lit 0)))), false), ((.cmp .neq (.var 4) (.lit 0)), true), ((tRight (.var 4) (.var 5) (.var 6) (.var 7)), true), ((.cmp .eql (.var 0) (.lit 1)), true)],
  .ret (.tuple [(.int .i64 (.lit 0)), (.bool (.lit false))]) [((tRight (.var 4) (.var 5) (.var 6) (.var 7)), false), ((.cmp .eql (.var 0) (.lit 1)), true)],
  .ret (.tuple [(.int .i64 (.lit 0)), (.bool (.lit false))]) [((.cmp .geq (.var 2) (.lit 0)), false), ((.cmp .eql (.var 0) (.lit 4)), true), ((.cmp .eql (.var 0) (.lit 1)), false)],
  .ret (.tuple [(.int .i64 (.lit 0)), (.bool (.lit false))]) [((.cmp .lss (.var 2) (.lit 64)), false), ((.cmp .geq (.var 2) (.lit 0)), true), ((.cmp .eql (.var 0) (.lit 4)), true), ((.cmp .eql (.var 0) (.lit 1)), false)],
  .ret (.tuple [(.int .i64 (.lit 0)), (.bool (.lit false))]) [((.not (.and (.cmp .eql (.var 3) (.lit 0)) (.and (.cmp .eql (.var 4) (.lit 0)) (.and (.cmp .eql (.var 5) (.lit 0)) (.and (.cmp .eql (.var 6) (.lit 0)) (.cmp .eql (.var 7) (.lit 0))))))), true), ((.cmp .lss (.var 2) (.lit 64)), true), ((.cmp .geq (.var 2) (.lit 0)), true), ((.cmp .eql (.var 0) (.lit 4)), true), ((.cmp .eql (.var 0) (.lit 1)), false)],
  .ret (.tuple [(.int .i64 (.lit 0)), (.bool (.lit false))]) [((.cmp .lss (.var 1) (.lit 0)), true), ((.not (.and (.cmp .eql (.var 3) (.lit 0)) (.and (.cmp .eql (.var 4) (.lit 0)) (.and (.cmp .eql (.var 5) (.lit 0)) (.and (.cmp .eql (.var 6) (.lit 0)) (.cmp .eql (.var 7) (.lit 0))))))), false), ((.cmp .lss (.var 2) (.lit 64)), true), ((.cmp .geq (.var 2) (.lit 0)), true), ((.cmp .eql (.var 0) (.lit 4)), true), ((.cmp .eql (.var 0) (.lit 1)), false)],
  .ret (.tuple [(.int .i64 (.lit 0)), (.bool (.lit false))]) [((.cmp .geq (.var 1) (.lit 64)), true), ((.cmp .lss (.var 1) (.lit 0)), false), ((.not (.and (.cmp .eql (.var 3) (.lit 0)) (.and (.cmp .eql (.var 4) (.lit 0)) (.and (.cmp .eql (.var 5) (.lit 0)) (.and (.cmp .eql (.var 6) (.lit 0)) (.cmp .eql (.var 7) (.lit 0))))))), false), ((.cmp .lss (.var 2) (.lit 64)), true), ((.cmp .geq (.var 2) (.lit 0)), true), ((.cmp .eql (.var 0) (.lit 4)), true), ((.cmp .eql (.var 0) (.lit 1)), false)],
  .ret (.tuple [(.int .i64 (.bin .add .i64 (.bin .mul .i64 (.bin .add .i64 (.bin .mul .i64 (.var 2) (.lit 64)) (.var 1)) (.lit 6)) (.var 0))), (.bool (.lit true))]) [((.cmp .geq (.var 1) (.lit 64)), false), ((.cmp .lss (.var 1) (.lit 0)), false), ((.not (.and (.cmp .eql (.var 3) (.lit 0)) (.and (.cmp .eql (.var 4) (.lit 0)) (.and (.cmp .eql (.var 5) (.lit 0)) (.and (.cmp .eql (.var 6) (.lit 0)) (.cmp .eql (.var 7) (.lit 0))))))), false), ((.cmp .lss (.var 2) (.lit 64)), true), ((.cmp .geq (.var 2) (.lit 0)), true), ((.cmp .eql (.var 0) (.lit 4)), true), ((.cmp .eql (.var 0) (.lit 1)), false)],
  .ret (.tuple [(.int .i64 (.lit 0)), (.bool (.lit false))]) [((.cmp .geq (.var 3) (.lit 1)), false), ((.cmp .eql (.var 0) (.lit 5)), true), ((.cmp .eql (.var 0) (.lit 4)), false), ((.cmp .eql (.var 0) (.lit 1)), false)],
  .ret (.tuple [(.int .i64 (.lit 0)), (.bool (.lit false))]) [((.cmp .leq (.var 3) (.lit 1000)), false), ((.cmp .geq (.var 3) (.lit 1)), true), ((.cmp .eql (.var 0) (.lit 5)), true), ((.cmp .eql (.var 0) (.lit 4)), false), ((.cmp .eql (.var 0) (.lit 1)), false)],
  .ret (.tuple [(.int .i64 (.lit 0)), (.bool (.lit false))]) [((.not (.and (.cmp .eql (.var 2) (.lit 0)) (.and (.cmp .eql (.var 4) (.lit 0)) (.and (.cmp .eql (.var 5) (.lit 0)) (.and (.cmp .eql (.var 6) (.lit 0)) (.cmp .eql (.var 7) (.lit 0))))))), true), ((.cmp .leq (.var 3) (.lit 1000)), true), ((.cmp .geq (.var 3) (.lit 1)), true), ((.cmp .eql (.var 0) (.lit 5)), true), ((.cmp .eql (.var 0) (.lit 4)), false), ((.cmp .eql (.var 0) (.lit 1)), false)],
  .ret (.tuple [(.int .i64 (.lit 0)), (.bool (.lit false))]) [((.cmp .lss (.var 1) (.lit 0)), true), ((.not (.and (.cmp .eql (.var 2) (.lit 0)) (.and (.cmp .eql (.var 4) (.lit 0)) (.and (.cmp .eql (.var 5) (.lit 0)) (.and (.cmp .eql (.var 6) (.lit 0)) (.cmp .eql (.var 7) (.lit 0))))))), false), ((.cmp .leq (.var 3) (.lit 1000)), true), ((.cmp .geq (.var 3) (.lit 1)), true), ((.cmp .eql (.var 0) (.lit 5)), true), ((.cmp .eql (.var 0) (.lit 4)), false), ((.cmp .eql (.var 0) (.lit 1)), false)],
  .ret (.tuple [(.int .i64 (.lit 0)), (.bool (.lit false))]) [((.cmp .geq (.var 1) (.lit 64)), true), ((.cmp .lss (.var 1) (.lit 0)), false), ((.not (.and (.cmp .eql (.var 2) (.lit 0)) (.and (.cmp .eql (.var 4) (.lit 0)) (.and (.cmp .eql (.var 5) (.lit 0)) (.and (.cmp .eql (.var 6) (.lit 0)) (.cmp .eql (.var 7) (.lit 0))))))), false), ((.cmp .leq (.var 3) (.lit 1000)), true), ((.cmp .geq (.var 3) (.lit 1)), true), ((.cmp .eql (.var 0) (.lit 5)), true), ((.cmp .eql (.var 0) (.lit 4)), false), ((.cmp .eql (.var 0) (.lit 1)), false)],
  .ret (.tuple [(.int .i64 (.bin .add .i64 (.bin .mul .i64 (.bin .add .i64 (.bin .mul .i64 (.bin .sub .i64 (.var 3) (.lit 1)) (.lit 64)) (.var 1)) (.lit 6)) (.var 0))), (.bool (.lit true))]) [((.cmp .geq (.var 1) (.lit 64)), false), ((.cmp .lss (.var 1) (.lit 0)), false), ((.not (.and (.cmp .eql (.var 2) (.lit 0)) (.and (.cmp .eql (.var 4) (.lit 0)) (.and (.cmp .eql (.var 5) (.lit 0)) (.and (.cmp .eql (.var 6) (.lit 0)) (.cmp .eql (.var 7) (.lit 0))))))), false), ((.cmp .leq (.var 3) (.lit 1000)), true), ((.cmp .geq (.var 3) (.lit 1)), true), ((.cmp .eql (.var 0) (.lit 5)), true), ((.cmp .eql (.var 0) (.lit 4)), false), ((.cmp .eql (.var 0) (.lit 1)), false)],
  .ret (.tuple [(.int .i64 (.lit 0)), (.bool (.lit false))]) [((.cmp .geq (.var 0) (.lit 0)), false), ((.cmp .eql (.var 0) (.lit 5)), false), ((.cmp .eql (.var 0) (.lit 4)), false), ((.cmp .eql (.var 0) (.lit 1)), false)],
  .ret (.tuple [(.int .i64 (.lit 0)), (.bool (.lit false))]) [((.cmp .leq (.var 0) (.lit 5)), false), ((.cmp .geq (.var 0) (.lit 0)), true), ((.cmp .eql (.var 0) (.lit 5)), false), ((.cmp .eql (.var 0) (.lit 4)), false), ((.cmp .eql (.var 0) (.lit 1)), false)],
  .ret (.tuple [(.int .i64 (.lit 0)), (.bool (.lit false))]) [((.not (.and (.cmp .eql (.var 2) (.lit 0)) (.and (.cmp .eql (.var 3) (.lit 0)) (.and (.cmp .eql (.var 4) (.lit 0)) (.and (.cmp .eql (.var 5) (.lit 0)) (.and (.cmp .eql (.var 6) (.lit 0)) (.cmp .eql (.var 7) (.lit 0)))))))), true), ((.cmp .leq (.var 0) (.lit 5)), true), ((.cmp .geq (.var 0) (.lit 0)), true), ((.cmp .eql (.var 0) (.lit 5)), false), ((.cmp .eql (.var 0) (.lit 4)), false), ((.cmp .eql (.var 0) (.lit 1)), false)],
  .ret (.tuple [(.int .i64 (.lit 0)), (.bool (.lit false))]) [((.cmp .lss (.var 1) (.lit 0)), true), ((.not (.and (.cmp .eql (.var 2) (.lit 0)) (.and (.cmp .eql (.var 3) (.lit 0)) (.and (.cmp .eql (.var 4) (.lit 0)) (.and (.cmp .eql (.var 5) (.lit 0)) (.and (.cmp .eql (.var 6) (.lit 0)) (.cmp .eql (.var 7) (.lit 0)))))))), false), ((.cmp .leq (.var 0) (.lit 5)), true), ((.cmp .geq (.var 0) (.lit 0)), true), ((.cmp .eql (.var 0) (.lit 5)), false), ((.cmp .eql (.var 0) (.lit 4)), false), ((.cmp .eql (.var 0) (.lit 1)), false)],
  .ret (.tuple [(.int .i64 (.lit 0)), (.bool (.lit false))]) [((.cmp .geq (.var 1) (.lit 64)), true), ((.cmp .lss (.var 1) (.lit 0)), false), ((.not (.and (.cmp .eql (.var 2) (.lit 0)) (.and (.cmp .eql (.var 3) (.lit 0)) (.and (.cmp .eql (.var 4) (.lit 0)) (.and (.cmp .eql (.var 5) (.lit 0)) (.and (.cmp .eql (.var 6) (.lit 0)) (.cmp .eql (.var 7) (.lit 0)))))))), false), ((.cmp .leq (.var 0) (.lit 5)), true), ((.cmp .geq (.var 0) (.lit 0)), true), ((.cmp .eql (.var 0) (.lit 5)), false), ((.cmp .eql (.var 0) (.lit 4)), false), ((.cmp .eql (.var 0) (.lit 1)), false)],
  .ret (.tuple [(.int .i64 (.bin .add .i64 (.bin .mul .i64 (.bin .add .i64 (.lit 0) (.var 1)) (.lit 6)) (.var 0))), (.bool (.lit true))]) [((.cmp .geq (.var 1) (.lit 64)), false), ((.cmp .lss (.var 1) (.lit 0)), false), ((.not (.and (.cmp .eql (.var 2) (.lit 0)) (.and (.cmp .eql (.var 3) (.lit 0)) (.and (.cmp .eql (.var 4) (.lit 0)) (.and (.cmp .eql (.var 5) (.lit 0)) (.and (.cmp .eql (.var 6) (.lit 0)) (.cmp .eql (.var 7) (.lit 0)))))))), false), ((.cmp .leq (.var 0) (.lit 5)), true), ((.cmp .geq (.var 0) (.lit 0)), true), ((.cmp .eql (.var 0) (.lit 5)), false), ((.cmp .eql (.var 0) (.lit 4)), false), ((.cmp .eql (.var 0) (.lit 1)), false)]]
theorem spR1_ok {β : Base} : CallOk Tryd.prog β (spL [(45, spA spRight), (36, spA spRight), (43, spA spPack)]) := spL_ok fun p hp => by
  simp only [List.mem_cons, List.not_mem_nil, or_false] at hp
  rcases hp with rfl | rfl | rfl
  · exact spA_ok (specs05_ok (45, spRight) (by simp [specs05]))
  · exact spA_ok (specs05_ok (36, spRight) (by simp [specs05]))
  · exact spA_ok spPack_ok
theorem run30 : (run Tryd.prog [] (spL [(45, spA spRight), (36, spA spRight), (43, spA spPack)]) 4000 true 110 (entry Tryd.f110 (Tryd.f110.body.getD .ret) [evA] .leaf 0 [])).map (·.filterMap (sumL ⟨0, 0, 0, 0⟩ [])) = some sums30 := by kernel_rfl
def evV (k w o n c y a b : Int) : Value := .agg #[.int .i64 k, .int .i64 w, .int .i64 o, .int .i64 n, .int .i64 c, .int .i64 y, .int .i64 a, .int .i64 b]
theorem enc30 (W : World) (k w o n c y a b : Int) : Calls Tryd.prog 110 #[evV k w o n c y a b] W (fun e w' => ∃ v, e = .returned v ∧ v = encU k w o n c y a b ∧ Framed W w') := by
  refine calls_sums (β := .plain W) (ρ := envOf [k, w, o, n, c, y, a, b] [] F0) noCount noExt spR1_ok follows rfl Tryd.func110 rfl run30 (xs := [evV k w o n c y a b]) rfl (HRel.start W _ fun _ => rfl) (fun _ h => by cases h) (fun s hs => ?_)
  simp only [sums30, List.mem_cons, List.not_mem_nil, or_false] at hs
  rcases hs with rfl | rfl | rfl | rfl | rfl | rfl | rfl | rfl | rfl | rfl | rfl | rfl | rfl | rfl | rfl | rfl | rfl | rfl | rfl | rfl | rfl | rfl | rfl | rfl
  all_goals
    intro ρ hle hc u hu
    have e0 : ρ.I 0 = k := by rw [hle.i]; rfl
    have e1 : ρ.I 1 = w := by rw [hle.i]; rfl
    have e2 : ρ.I 2 = o := by rw [hle.i]; rfl
    have e3 : ρ.I 3 = n := by rw [hle.i]; rfl
    have e4 : ρ.I 4 = c := by rw [hle.i]; rfl
    have e5 : ρ.I 5 = y := by rw [hle.i]; rfl
    have e6 : ρ.I 6 = a := by rw [hle.i]; rfl
    have e7 : ρ.I 7 = b := by rw [hle.i]; rfl
    have d4 : (IT.var 4).den ρ = some c := by rw [← e4]; rfl
    have d5 : (IT.var 5).den ρ = some y := by rw [← e5]; rfl
    have d6 : (IT.var 6).den ρ = some a := by rw [← e6]; rfl
    have d7 : (IT.var 7).den ρ = some b := by rw [← e7]; rfl
    have hR := tRight_den d4 d5 d6 d7
    have hP := packT_den d4 d5 d6 d7
    have hz : rightB 0 0 0 0 = true := by decide
    cases hr : rightB c y a b
    all_goals
      rw [hr] at hR
      simp only [CRel_cons, CRel_nil, and_true, BT.den, hR, IT.den, e0, e1, e2, e3, e4, e5, e6, e7, intCmp, Option.map_some, Option.some.injEq, Bool.not_eq_true', Bool.and_eq_true, Bool.and_eq_false_iff, Bool.not_eq_false', beq_iff_eq, bne_iff_ne, ne_eq, beq_eq_false_iff_ne, bne_eq_false_iff_eq, decide_eq_true_eq, decide_eq_false_iff_not, not_true_eq_false, false_or, reduceCtorEq, false_and, and_false, true_and] at hc
      try (first
        | (simp only [AVal.den, AVal.denL, IT.den, BT.den, Option.map_some, Option.some.injEq] at hu
           rw [← hu]; unfold encU
           rw [if_neg (by unfold EncOk; simp only [hr, true_and, false_and, and_false, false_or, reduceCtorEq]; omega)]; done)
        | (have hb := right_bnd hr
           simp only [AVal.den, AVal.denL, IT.den, BT.den, hP hr, e0, e1, e2, e3, intBin, Option.map_some, Option.some.injEq] at hu
           rw [← hu]; unfold encU
           rw [if_pos (by unfold EncOk; simp only [hr, true_and]; omega)]
           congr 4
           unfold encX packI
           simp only [IntKind.wrap_i64, hc, if_true]
           omega)
        | (simp only [AVal.den, AVal.denL, IT.den, BT.den, e0, e1, e2, e3, intBin, Option.map_some, Option.some.injEq] at hu
           rw [← hu]; unfold encU
           rw [if_pos (by unfold EncOk; simp only [hr, true_and, false_and, and_false, false_or, reduceCtorEq]; omega)]
           congr 4
           unfold encX
           simp only [IntKind.wrap_i64]
           (repeat' split) <;> omega))
end Sc
end Go.Proofs.YtagdcclpibjfoaaDoor
