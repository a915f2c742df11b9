/-
  Scripts (8): the reference encoder, which decodes again what it made.
-/
import Derived.Test.YtagdcclpibjfoaaDoorLk6
namespace Go.Proofs.YtagdcclpibjfoaaDoor
open Go.Vm Txt
namespace Sc

/-- Decoding a sum. -/
def spDecA : SpecF := fun args => match args with
  | [.int .i64 (.bin .add .i64 a b)] => some [decV (.bin .add .i64 a b) true, decV (.bin .add .i64 a b) false]
  | _ => none
theorem decF_den {ρ : Env} (hF : ρ.F = F1) {t : IT} {x : Int} (h : t.den ρ = some x) (j : Nat) : (decF t j).den ρ = some (decI x j) := by
  rw [decF, den_fn h (den_lit 0), hF, F1_d]
theorem decV_ok {β : Base} {ρ : Env} {H : Heap} {nl : Nat} {w : World} {cs : Cs} {g : FuncId} {t : IT} {x : Int} (hF : ρ.F = F1) (ht : t.den ρ = some x) (hh : HRel β ρ H nl w) (hc : CRel ρ cs)
    (h : Calls Tryd.prog g #[.int .i64 x] w (fun e w' => ∃ v, e = .returned v ∧ v = decU x ∧ Framed w w')) :
    Calls Tryd.prog g #[.int .i64 x] w (fun e w' => ∃ v, e = .returned v ∧ ∃ u H' nl' cs' ρ', Leaf.ret u H' nl' cs' ∈ [Leaf.ret (decV t true).1 H nl ((decV t true).2 ++ cs), Leaf.ret (decV t false).1 H nl ((decV t false).2 ++ cs)] ∧ ρ.Le ρ' ∧ u.den ρ' = some v ∧ HRel β ρ' H' nl' w' ∧ CRel ρ' cs') := by
  refine h.mono fun e w2 ⟨v, hv, hq, hf⟩ => ⟨v, hv, ?_⟩
  rw [hq]
  have d (j : Nat) := decF_den hF ht j
  by_cases hE : decI x 8 = 1
  · refine ⟨_, _, _, _, ρ, List.mem_cons_self, Env.Le.refl ρ, ?_, hh.framed hf, CRel_cons.2 ⟨?_, hc⟩⟩
    · simp only [decV, AVal.den, AVal.denL, BT.den, d, Option.map_some]
      unfold decU; rw [hE]; rfl
    · simp only [BT.den, d, den_lit, intCmp, hE]; rfl
  · refine ⟨_, _, _, _, ρ, List.mem_cons_of_mem _ List.mem_cons_self, Env.Le.refl ρ, ?_, hh.framed hf, CRel_cons.2 ⟨?_, hc⟩⟩
    · simp only [decV, AVal.den, AVal.denL, BT.den, d, Option.map_some]
      unfold decU; rw [decide_eq_false hE]; rfl
    · simp only [BT.den, d, den_lit, intCmp, Option.some.injEq, beq_eq_false_iff_ne]; exact hE
theorem spDecA_ok {β : Base} (hG : Named β) {g : FuncId} (h : ∀ W x, -9223372036854775808 ≤ x → x < 9223372036854775808 → Calls Tryd.prog g #[.int .i64 x] W (fun e w' => ∃ v, e = .returned v ∧ v = decU x ∧ Framed W w')) : SpGOk Tryd.prog β g (spA spDecA) := by
  intro args H nl cs ls ρ w xs hr hx hh hc
  unfold spA spDecA at hr
  split at hr
  · rename_i a b
    obtain rfl := Option.some.inj hr
    simp only [AVal.denL, AVal.den] at hx
    cases ha : a.den ρ with
    | none => simp only [IT.den, ha, Option.map_none, reduceCtorEq] at hx
    | some p =>
      cases hb : b.den ρ with
      | none => simp only [IT.den, ha, hb, Option.map_none, reduceCtorEq] at hx
      | some q =>
        have ht := den_add ha hb
        rw [ht] at hx
        simp only [Option.map_some, Option.some.injEq] at hx
        rw [← hx]
        have hw := IntKind.wrap_i64 (p + q)
        exact decV_ok (hG _ _ _ _ _ hh.g) ht hh hc (h w _ (by omega) (by omega))
  · cases hr
theorem decU_inv {x v0 v1 v2 v3 v4 v5 v6 v7 : Int} {t : Bool} (h : decU x = .tuple #[evV v0 v1 v2 v3 v4 v5 v6 v7, .bool t]) : decI x 0 = v0 ∧ decI x 1 = v1 ∧ decI x 2 = v2 ∧ decI x 3 = v3 ∧ decI x 4 = v4 ∧ decI x 5 = v5 ∧ decI x 6 = v6 ∧ decI x 7 = v7 ∧ (decI x 8 = 1 ↔ t = true) := by
  simp only [decU, evV, Value.tuple.injEq, Array.mk.injEq, List.cons.injEq, Value.agg.injEq, Value.int.injEq, true_and, and_true, Value.bool.injEq] at h
  obtain ⟨⟨h0, h1, h2, h3, h4, h5, h6, h7⟩, h8⟩ := h
  exact ⟨h0, h1, h2, h3, h4, h5, h6, h7, by rw [← h8]; simp⟩
theorem den_mul {ρ : Env} {t u : IT} {x y : Int} (h : t.den ρ = some x) (h2 : u.den ρ = some y) : (IT.bin .mul .i64 t u).den ρ = some (IntKind.i64.wrap (x * y)) := by simp only [IT.den, h, h2, intBin]
theorem den_sub {ρ : Env} {t u : IT} {x y : Int} (h : t.den ρ = some x) (h2 : u.den ρ = some y) : (IT.bin .sub .i64 t u).den ρ = some (IntKind.i64.wrap (x - y)) := by simp only [IT.den, h, h2, intBin]
theorem den_cv {ρ : Env} {t : IT} {x : Int} (h : t.den ρ = some x) : (IT.cv .i64 t).den ρ = some (IntKind.i64.wrap x) := by simp only [IT.den, h, Option.map_some]
def tE1 : IT := (.bin .add .i64 (.bin .add .i64 (.bin .mul .i64 (.lit 384) (.cv .i64 (packT (.var 4) (.var 5) (.var 6) (.var 7)))) (.bin .mul .i64 (.lit 6) (.var 1))) (.var 0))
def tE4 : IT := (.bin .add .i64 (.bin .add .i64 (.bin .mul .i64 (.lit 384) (.var 2)) (.bin .mul .i64 (.lit 6) (.var 1))) (.var 0))
def tE5 : IT := (.bin .add .i64 (.bin .add .i64 (.bin .mul .i64 (.lit 384) (.bin .sub .i64 (.var 3) (.lit 1))) (.bin .mul .i64 (.lit 6) (.var 1))) (.var 0))
def tE0 : IT := (.bin .add .i64 (.bin .add .i64 (.lit 0) (.bin .mul .i64 (.lit 6) (.var 1))) (.var 0))
noncomputable def sums24_1 : List LS := [.ret (.tuple [(.int .i64 (.lit 0)), (.bool (.lit false))]) [((.not (tRight (.var 4) (.var 5) (.var 6) (.var 7))), true), ((.cmp .eql (.var 0) (.lit 1)), true)],
  .ret (.tuple [(.int .i64 (.lit 0)), (.bool (.lit false))]) [((.cmp .lss (.var 1) (.lit 0)), true), ((.not (tRight (.var 4) (.var 5) (.var 6) (.var 7))), false), ((.cmp .eql (.var 0) (.lit 1)), true)],
  .ret (.tuple [(.int .i64 (.lit 0)), (.bool (.lit false))]) [((.cmp .gtr (.var 1) (.lit 63)), true), ((.cmp .lss (.var 1) (.lit 0)), false), ((.not (tRight (.var 4) (.var 5) (.var 6) (.var 7))), false), ((.cmp .eql (.var 0) (.lit 1)), true)],
  .ret (.tuple [(.int .i64 (.lit 0)), (.bool (.lit false))]) [((.not (.and (.cmp .eql (.fn 30 tE1 (.lit 0)) (.var 0)) (.and (.cmp .eql (.fn 31 tE1 (.lit 0)) (.var 1)) (.and (.cmp .eql (.fn 32 tE1 (.lit 0)) (.var 2)) (.and (.cmp .eql (.fn 33 tE1 (.lit 0)) (.var 3)) (.and (.cmp .eql (.fn 34 tE1 (.lit 0)) (.var 4)) (.and (.cmp .eql (.fn 35 tE1 (.lit 0)) (.var 5)) (.and (.cmp .eql (.fn 36 tE1 (.lit 0)) (.var 6)) (.cmp .eql (.fn 37 tE1 (.lit 0)) (.var 7)))))))))), true), ((.cmp .eql (.fn 38 tE1 (.lit 0)) (.lit 1)), true), ((.cmp .gtr (.var 0) (.lit 5)), false), ((.cmp .lss (.var 0) (.lit 0)), false), ((.cmp .gtr (.var 1) (.lit 63)), false), ((.cmp .lss (.var 1) (.lit 0)), false), ((.not (tRight (.var 4) (.var 5) (.var 6) (.var 7))), false), ((.cmp .eql (.var 0) (.lit 1)), true)],
  .ret (.tuple [(.int .i64 tE1), (.bool (.lit true))]) [((.not (.and (.cmp .eql (.fn 30 tE1 (.lit 0)) (.var 0)) (.and (.cmp .eql (.fn 31 tE1 (.lit 0)) (.var 1)) (.and (.cmp .eql (.fn 32 tE1 (.lit 0)) (.var 2)) (.and (.cmp .eql (.fn 33 tE1 (.lit 0)) (.var 3)) (.and (.cmp .eql (.fn 34 tE1 (.lit 0)) (.var 4)) (.and (.cmp .eql (.fn 35 tE1 (.lit 0)) (.var 5)) (.and (.cmp .eql (.fn 36 tE1 (.lit 0)) (.var 6)) (.cmp .eql (.fn 37 tE1 (.lit 0)) (.var 7)))))))))), false), ((.cmp .eql (.fn 38 tE1 (.lit 0)) (.lit 1)), true), ((.cmp .gtr (.var 0) (.lit 5)), false), ((.cmp .lss (.var 0) (.lit 0)), false), ((.cmp .gtr (.var 1) (.lit 63)), false), ((.cmp .lss (.var 1) (.lit 0)), false), ((.not (tRight (.var 4) (.var 5) (.var 6) (.var 7))), false), ((.cmp .eql (.var 0) (.lit 1)), true)],
  .ret (.tuple [(.int .i64 (.lit 0)), (.bool (.lit false))]) [((.cmp .eql (.fn 38 tE1 (.lit 0)) (.lit 1)), false), ((.cmp .gtr (.var 0) (.lit 5)), false), ((.cmp .lss (.var 0) (.lit 0)), false), ((.cmp .gtr (.var 1) (.lit 63)), false), ((.cmp .lss (.var 1) (.lit 0)), false), ((.not (tRight (.var 4) (.var 5) (.var 6) (.var 7))), false), ((.cmp .eql (.var 0) (.lit 1)), true)]]
noncomputable def sums24_4 : List LS := [.ret (.tuple [(.int .i64 (.lit 0)), (.bool (.lit false))]) [((.cmp .lss (.var 2) (.lit 0)), true), ((.cmp .eql (.var 0) (.lit 4)), true), ((.cmp .eql (.var 0) (.lit 1)), false)],
  .ret (.tuple [(.int .i64 (.lit 0)), (.bool (.lit false))]) [((.cmp .gtr (.var 2) (.lit 63)), true), ((.cmp .lss (.var 2) (.lit 0)), false), ((.cmp .eql (.var 0) (.lit 4)), true), ((.cmp .eql (.var 0) (.lit 1)), false)],
  .ret (.tuple [(.int .i64 (.lit 0)), (.bool (.lit false))]) [((.cmp .lss (.var 1) (.lit 0)), true), ((.cmp .gtr (.var 2) (.lit 63)), false), ((.cmp .lss (.var 2) (.lit 0)), false), ((.cmp .eql (.var 0) (.lit 4)), true), ((.cmp .eql (.var 0) (.lit 1)), false)],
  .ret (.tuple [(.int .i64 (.lit 0)), (.bool (.lit false))]) [((.cmp .gtr (.var 1) (.lit 63)), true), ((.cmp .lss (.var 1) (.lit 0)), false), ((.cmp .gtr (.var 2) (.lit 63)), false), ((.cmp .lss (.var 2) (.lit 0)), false), ((.cmp .eql (.var 0) (.lit 4)), true), ((.cmp .eql (.var 0) (.lit 1)), false)],
  .ret (.tuple [(.int .i64 (.lit 0)), (.bool (.lit false))]) [((.not (.and (.cmp .eql (.fn 30 tE4 (.lit 0)) (.var 0)) (.and (.cmp .eql (.fn 31 tE4 (.lit 0)) (.var 1)) (.and (.cmp .eql (.fn 32 tE4 (.lit 0)) (.var 2)) (.and (.cmp .eql (.fn 33 tE4 (.lit 0)) (.var 3)) (.and (.cmp .eql (.fn 34 tE4 (.lit 0)) (.var 4)) (.and (.cmp .eql (.fn 35 tE4 (.lit 0)) (.var 5)) (.and (.cmp .eql (.fn 36 tE4 (.lit 0)) (.var 6)) (.cmp .eql (.fn 37 tE4 (.lit 0)) (.var 7)))))))))), true), ((.cmp .eql (.fn 38 tE4 (.lit 0)) (.lit 1)), true), ((.cmp .gtr (.var 0) (.lit 5)), false), ((.cmp .lss (.var 0) (.lit 0)), false), ((.cmp .gtr (.var 1) (.lit 63)), false), ((.cmp .lss (.var 1) (.lit 0)), false), ((.cmp .gtr (.var 2) (.lit 63)), false), ((.cmp .lss (.var 2) (.lit 0)), false), ((.cmp .eql (.var 0) (.lit 4)), true), ((.cmp .eql (.var 0) (.lit 1)), false)],
  .ret (.tuple [(.int .i64 tE4), (.bool (.lit true))]) [((.not (.and (.cmp .eql (.fn 30 tE4 (.lit 0)) (.var 0)) (.and (.cmp .eql (.fn 31 tE4 (.lit 0)) (.var 1)) (.and (.cmp .eql (.fn 32 tE4 (.lit 0)) (.var 2)) (.and (.cmp .eql (.fn 33 tE4 (.lit 0)) (.var 3)) (.and (.cmp .eql (.fn 34 tE4 (.lit 0)) (.var 4)) (.and (.cmp .eql (.fn 35 tE4 (.lit 0)) (.var 5)) (.and (.cmp .eql (.fn 36 tE4 (.lit 0)) (.var 6)) (.cmp .eql (.fn 37 tE4 (.lit 0)) (.var 7)))))))))), false), ((.cmp .eql (.fn 38 tE4 (.lit 0)) (.lit 1)), true), ((.cmp .gtr (.var 0) (.lit 5)), false), ((.cmp .lss (.var 0) (.lit 0)), false), ((.cmp .gtr (.var 1) (.lit 63)), false), ((.cmp .lss (.var 1) (.lit 0)), false), ((.cmp .gtr (.var 2) (.lit 63)), false), ((.cmp .lss (.var 2) (.lit 0)), false), ((.cmp .eql (.var 0) (.lit 4)), true), ((.cmp .eql (.var 0) (.lit 1)), false)],
  .ret (.tuple [(.int .i64 (.lit 0)), (.bool (.lit false))]) [((.cmp .eql (.fn 38 tE4 (.lit 0)) (.lit 1)), false), ((.cmp .gtr (.var 0) (.lit 5)), false), ((.cmp .lss (.var 0) (.lit 0)), false), ((.cmp .gtr (.var 1) (.lit 63)), false), ((.cmp .lss (.var 1) (.lit 0)), false), ((.cmp .gtr (.var 2) (.lit 63)), false), ((.cmp .lss (.var 2) (.lit 0)), false), ((.cmp .eql (.var 0) (.lit 4)), true), ((.cmp .eql (.var 0) (.lit 1)), false)]]
noncomputable def sums24_5 : List LS := [.ret (.tuple [(.int .i64 (.lit 0)), (.bool (.lit false))]) [((.cmp .lss (.var 3) (.lit 1)), true), ((.cmp .eql (.var 0) (.lit 5)), true), ((.cmp .eql (.var 0) (.lit 4)), false), ((.cmp .eql (.var 0) (.lit 1)), false)],
  .ret (.tuple [(.int .i64 (.lit 0)), (.bool (.lit false))]) [((.cmp .gtr (.var 3) (.lit 1000)), true), ((.cmp .lss (.var 3) (.lit 1)), false), ((.cmp .eql (.var 0) (.lit 5)), true), ((.cmp .eql (.var 0) (.lit 4)), false), ((.cmp .eql (.var 0) (.lit 1)), false)],
  .ret (.tuple [(.int .i64 (.lit 0)), (.bool (.lit false))]) [((.cmp .lss (.var 1) (.lit 0)), true), ((.cmp .gtr (.var 3) (.lit 1000)), false), ((.cmp .lss (.var 3) (.lit 1)), false), ((.cmp .eql (.var 0) (.lit 5)), true), ((.cmp .eql (.var 0) (.lit 4)), false), ((.cmp .eql (.var 0) (.lit 1)), false)],
  .ret (.tuple [(.int .i64 (.lit 0)), (.bool (.lit false))]) [((.cmp .gtr (.var 1) (.lit 63)), true), ((.cmp .lss (.var 1) (.lit 0)), false), ((.cmp .gtr (.var 3) (.lit 1000)), false), ((.cmp .lss (.var 3) (.lit 1)), false), ((.cmp .eql (.var 0) (.lit 5)), true), ((.cmp .eql (.var 0) (.lit 4)), false), ((.cmp .eql (.var 0) (.lit 1)), false)],
  .ret (.tuple [(.int .i64 (.lit 0)), (.bool (.lit false))]) [((.not (.and (.cmp .eql (.fn 30 tE5 (.lit 0)) (.var 0)) (.and (.cmp .eql (.fn 31 tE5 (.lit 0)) (.var 1)) (.and (.cmp .eql (.fn 32 tE5 (.lit 0)) (.var 2)) (.and (.cmp .eql (.fn 33 tE5 (.lit 0)) (.var 3)) (.and (.cmp .eql (.fn 34 tE5 (.lit 0)) (.var 4)) (.and (.cmp .eql (.fn 35 tE5 (.lit 0)) (.var 5)) (.and (.cmp .eql (.fn 36 tE5 (.lit 0)) (.var 6)) (.cmp .eql (.fn 37 tE5 (.lit 0)) (.var 7)))))))))), true), ((.cmp .eql (.fn 38 tE5 (.lit 0)) (.lit 1)), true), ((.cmp .gtr (.var 0) (.lit 5)), false), ((.cmp .lss (.var 0) (.lit 0)), false), ((.cmp .gtr (.var 1) (.lit 63)), false), ((.cmp .lss (.var 1) (.lit 0)), false), ((.cmp .gtr (.var 3) (.lit 1000)), false), ((.cmp .lss (.var 3) (.lit 1)), false), ((.cmp .eql (.var 0) (.lit 5)), true), ((.cmp .eql (.var 0) (.lit 4)), false), ((.cmp .eql (.var 0) (.lit 1)), false)],
  .ret (.tuple [(.int .i64 tE5), (.bool (.lit true))]) [((.not (.and (.cmp .eql (.fn 30 tE5 (.lit 0)) (.var 0)) (.and (.cmp .eql (.fn 31 tE5 (.lit 0)) (.var 1)) (.and (.cmp .eql (.fn 32 tE5 (.lit 0)) (.var 2)) (.and (.cmp .eql (.fn 33 tE5 (.lit 0)) (.var 3)) (.and (.cmp .eql (.fn 34 tE5 (.lit 0)) (.var 4)) (.and (.cmp .eql (.fn 35 tE5 (.lit 0)) (.var 5)) (.and (.cmp .eql (.fn 36 tE5 (.lit 0)) (.var 6)) (.cmp .eql (.fn 37 tE5 (.lit 0)) (.var 7)))))))))), false), ((.cmp .eql (.fn 38 tE5 (.lit 0)) (.lit 1)), true), ((.cmp .gtr (.var 0) (.lit 5)), false), ((.cmp .lss (.var 0) (.lit 0)), false), ((.cmp .gtr (.var 1) (.lit 63)), false), ((.cmp .lss (.var 1) (.lit 0)), false), ((.cmp .gtr (.var 3) (.lit 1000)), false), ((.cmp .lss (.var 3) (.lit 1)), false), ((.cmp .eql (.var 0) (.lit 5)), true), ((.cmp .eql (.var 0) (.lit 4)), false), ((.cmp .eql (.var 0) (.lit 1)), false)],
  .ret (.tuple [(.int .i64 (.lit 0)), (.bool (.lit false))]) [((.cmp .eql (.fn 38 tE5 (.lit 0)) (.lit 1)), false), ((.cmp .gtr (.var 0) (.lit 5)), false), ((.cmp .lss (.var 0) (.lit 0)), false), ((.cmp .gtr (.var 1) (.lit 63)), false), ((.cmp .lss (.var 1) (.lit 0)), false), ((.cmp .gtr (.var 3) (.lit 1000)), false), ((.cmp .lss (.var 3) (.lit 1)), false), ((.cmp .eql (.var 0) (.lit 5)), true), ((.cmp .eql (.var 0) (.lit 4)), false), ((.cmp .eql (.var 0) (.lit 1)), false)]]
noncomputable def sums24_0 : List LS := [.ret (.tuple [(.int .i64 (.lit 0)), (.bool (.lit false))]) [((.cmp .lss (.var 1) (.lit 0)), true), ((.cmp .eql (.var 0) (.lit 5)), false), ((.cmp .eql (.var 0) (.lit 4)), false), ((.cmp .eql (.var 0) (.lit 1)), false)],
  .ret (.tuple [(.int .i64 (.lit 0)), (.bool (.lit false))]) [((.cmp .gtr (.var 1) (.lit 63)), true), ((.cmp .lss (.var 1) (.lit 0)), false), ((.cmp .eql (.var 0) (.lit 5)), false), ((.cmp .eql (.var 0) (.lit 4)), false), ((.cmp .eql (.var 0) (.lit 1)), false)],
  .ret (.tuple [(.int .i64 (.lit 0)), (.bool (.lit false))]) [((.cmp .lss (.var 0) (.lit 0)), true), ((.cmp .gtr (.var 1) (.lit 63)), false), ((.cmp .lss (.var 1) (.lit 0)), false), ((.cmp .eql (.var 0) (.lit 5)), false), ((.cmp .eql (.var 0) (.lit 4)), false), ((.cmp .eql (.var 0) (.lit 1)), false)],
  .ret (.tuple [(.int .i64 (.lit 0)), (.bool (.lit false))]) [((.cmp .gtr (.var 0) (.lit 5)), true), ((.cmp .lss (.var 0) (.lit 0)), false), ((.cmp .gtr (.var 1) (.lit 63)), false), ((.cmp .lss (.var 1) (.lit 0)), false), ((.cmp .eql (.var 0) (.lit 5)), false), ((.cmp .eql (.var 0) (.lit 4)), false), ((.cmp .eql (.var 0) (.lit 1)), false)],
  .ret (.tuple [(.int .i64 (.lit 0)), (.bool (.lit false))]) [((.not (.and (.cmp .eql (.fn 30 tE0 (.lit 0)) (.var 0)) (.and (.cmp .eql (.fn 31 tE0 (.lit 0)) (.var 1)) (.and (.cmp .eql (.fn 32 tE0 (.lit 0)) (.var 2)) (.and (.cmp .eql (.fn 33 tE0 (.lit 0)) (.var 3)) (.and (.cmp .eql (.fn 34 tE0 (.lit 0)) (.var 4)) (.and (.cmp .eql (.fn 35 tE0 (.lit 0)) (.var 5)) (.and (.cmp .eql (.fn 36 tE0 (.lit 0)) (.var 6)) (.cmp .eql (.fn 37 tE0 (.lit 0)) (.var 7)))))))))), true), ((.cmp .eql (.fn 38 tE0 (.lit 0)) (.lit 1)), true), ((.cmp .gtr (.var 0) (.lit 5)), false), ((.cmp .lss (.var 0) (.lit 0)), false), ((.cmp .gtr (.var 1) (.lit 63)), false), ((.cmp .lss (.var 1) (.lit 0)), false), ((.cmp .eql (.var 0) (.lit 5)), false), ((.cmp .eql (.var 0) (.lit 4)), false), ((.cmp .eql (.var 0) (.lit 1)), false)],
  .ret (.tuple [(.int .i64 tE0), (.bool (.lit true))]) [((.not (.and (.cmp .eql (.fn 30 tE0 (.lit 0)) (.var 0)) (.and (.cmp .eql (.fn 31 tE0 (.lit 0)) (.var 1)) (.and (.cmp .eql (.fn 32 tE0 (.lit 0)) (.var 2)) (.and (.cmp .eql (.fn 33 tE0 (.lit 0)) (.var 3)) (.and (.cmp .eql (.fn 34 tE0 (.lit 0)) (.var 4)) (.and (.cmp .eql (.fn 35 tE0 (.lit 0)) (.var 5)) (.and (.cmp .eql (.fn 36 tE0 (.lit 0)) (.var 6)) (.cmp .eql (.fn 37 tE0 (.lit 0)) (.var 7)))))))))), false), ((.cmp .eql (.fn 38 tE0 (.lit 0)) (.lit 1)), true), ((.cmp .gtr (.var 0) (.lit 5)), false), ((.cmp .lss (.var 0) (.lit 0)), false), ((.cmp .gtr (.var 1) (.lit 63)), false), ((.cmp .lss (.var 1) (.lit 0)), false), ((.cmp .eql (.var 0) (.lit 5)), false), ((.cmp .eql (.var 0) (.lit 4)), false), ((.cmp .eql (.var 0) (.lit 1)), false)],
  .ret (.tuple [(.int .i64 (.lit 0)), (.bool (.lit false))]) [((.cmp .eql (.fn 38 tE0 (.lit 0)) (.lit 1)), false), ((.cmp .gtr (.var 0) (.lit 5)), false), ((.cmp .lss (.var 0) (.lit 0)), false), ((.cmp .gtr (.var 1) (.lit 63)), false), ((.cmp .lss (.var 1) (.lit 0)), false), ((.cmp .eql (.var 0) (.lit 5)), false), ((.cmp .eql (.var 0) (.lit 4)), false), ((.cmp .eql (.var 0) (.lit 1)), false)]]
def csK_1 : Cs := [((.cmp .eql (.var 0) (.lit 1)), true)]
theorem run24_1 : (run Tryd.prog [] (spL [(36, spA spRight), (124, spA spDecA)]) 4000 true 109 (entry Tryd.f109 (Tryd.f109.body.getD .ret) [evA] .leaf 0 csK_1)).map (·.filterMap (sumL ⟨0, 0, 0, 0⟩ [])) = some sums24_1 := by kernel_rfl
def csK_4 : Cs := [((.cmp .eql (.var 0) (.lit 4)), true), ((.cmp .eql (.var 0) (.lit 1)), false)]
theorem run24_4 : (run Tryd.prog [] (spL [(36, spA spRight), (124, spA spDecA)]) 4000 true 109 (entry Tryd.f109 (Tryd.f109.body.getD .ret) [evA] .leaf 0 csK_4)).map (·.filterMap (sumL ⟨0, 0, 0, 0⟩ [])) = some sums24_4 := by kernel_rfl
def csK_5 : Cs := [((.cmp .eql (.var 0) (.lit 5)), true), ((.cmp .eql (.var 0) (.lit 4)), false), ((.cmp .eql (.var 0) (.lit 1)), false)]
theorem run24_5 : (run Tryd.prog [] (spL [(36, spA spRight), (124, spA spDecA)]) 4000 true 109 (entry Tryd.f109 (Tryd.f109.body.getD .ret) [evA] .leaf 0 csK_5)).map (·.filterMap (sumL ⟨0, 0, 0, 0⟩ [])) = some sums24_5 := by kernel_rfl
def csK_0 : Cs := [((.cmp .eql (.var 0) (.lit 5)), false), ((.cmp .eql (.var 0) (.lit 4)), false), ((.cmp .eql (.var 0) (.lit 1)), false)]
theorem run24_0 : (run Tryd.prog [] (spL [(36, spA spRight), (124, spA spDecA)]) 4000 true 109 (entry Tryd.f109 (Tryd.f109.body.getD .ret) [evA] .leaf 0 csK_0)).map (·.filterMap (sumL ⟨0, 0, 0, 0⟩ [])) = some sums24_0 := by kernel_rfl
theorem spR4_ok {β : Base} (h : Named β) : CallOk Tryd.prog β (spL [(36, spA spRight), (124, spA spDecA)]) := spL_ok fun p hp => by
  simp only [List.mem_cons, List.not_mem_nil, or_false] at hp
  rcases hp with rfl | rfl
  · exact spA_ok (specs05_ok (36, spRight) (by simp [specs05]))
  · exact spDecA_ok h dec29
set_option maxHeartbeats 4000000 in
theorem good24_1 (W : World) (k w o n c y a b : Int) : ∀ s ∈ sums24_1, SumGood Tryd.prog (βF W) 109 (fun v => v = encU k w o n c y a b) [] (envOf [k, w, o, n, c, y, a, b] [] F1) s := by
  intro s hs
  simp only [sums24_1, List.mem_cons, List.not_mem_nil, or_false] at hs
  rcases hs with rfl | rfl | rfl | rfl | rfl | rfl
  all_goals
    intro ρ hle hc u hu
    have hF : ρ.F = F1 := by rw [hle.f]; rfl
    have d0 : (IT.var 0).den ρ = some k := by show some (ρ.I 0) = _; rw [hle.i]; rfl
    have d1 : (IT.var 1).den ρ = some w := by show some (ρ.I 1) = _; rw [hle.i]; rfl
    have d2 : (IT.var 2).den ρ = some o := by show some (ρ.I 2) = _; rw [hle.i]; rfl
    have d3 : (IT.var 3).den ρ = some n := by show some (ρ.I 3) = _; rw [hle.i]; rfl
    have d4 : (IT.var 4).den ρ = some c := by show some (ρ.I 4) = _; rw [hle.i]; rfl
    have d5 : (IT.var 5).den ρ = some y := by show some (ρ.I 5) = _; rw [hle.i]; rfl
    have d6 : (IT.var 6).den ρ = some a := by show some (ρ.I 6) = _; rw [hle.i]; rfl
    have d7 : (IT.var 7).den ρ = some b := by show some (ρ.I 7) = _; rw [hle.i]; rfl
    have hR := tRight_den d4 d5 d6 d7
    have hz : rightB 0 0 0 0 = true := by decide
    cases hr : rightB c y a b
    all_goals
      rw [hr] at hR
      first
        | (simp only [CRel_cons, CRel_nil, and_true, BT.den, hR, Option.map_some, Option.some.injEq, Bool.not_false, Bool.not_true, reduceCtorEq, and_false, false_and] at hc; done)
        | (simp only [CRel_cons, CRel_nil, and_true, true_and, BT.den, hR, d0, d1, den_lit, intCmp, Option.map_some, Option.some.injEq, Bool.not_false, Bool.not_true, beq_iff_eq, decide_eq_true_eq, decide_eq_false_iff_not] at hc
           simp only [AVal.den, AVal.denL, den_lit, BT.den, Option.map_some, Option.some.injEq] at hu
           rw [← hu]; unfold encU
           rw [if_neg (by unfold EncOk; simp only [hr, true_and, false_and, and_false, false_or, reduceCtorEq]; omega)]; done)
        | skip
      all_goals (
        have hb := right_bnd hr
        have hP := packT_den d4 d5 d6 d7 hr
        have hX := den_add (den_add (den_mul (den_lit 384) (den_cv hP)) (den_mul (den_lit 6) d1)) d0
        change tE1.den ρ = _ at hX
        generalize hx : IntKind.i64.wrap _ = x at hX
        have f0 : (IT.fn 30 tE1 (.lit 0)).den ρ = some (decI x 0) := decF_den hF hX 0
        have f1 : (IT.fn 31 tE1 (.lit 0)).den ρ = some (decI x 1) := decF_den hF hX 1
        have f2 : (IT.fn 32 tE1 (.lit 0)).den ρ = some (decI x 2) := decF_den hF hX 2
        have f3 : (IT.fn 33 tE1 (.lit 0)).den ρ = some (decI x 3) := decF_den hF hX 3
        have f4 : (IT.fn 34 tE1 (.lit 0)).den ρ = some (decI x 4) := decF_den hF hX 4
        have f5 : (IT.fn 35 tE1 (.lit 0)).den ρ = some (decI x 5) := decF_den hF hX 5
        have f6 : (IT.fn 36 tE1 (.lit 0)).den ρ = some (decI x 6) := decF_den hF hX 6
        have f7 : (IT.fn 37 tE1 (.lit 0)).den ρ = some (decI x 7) := decF_den hF hX 7
        have f8 : (IT.fn 38 tE1 (.lit 0)).den ρ = some (decI x 8) := decF_den hF hX 8
        simp only [CRel_cons, CRel_nil, and_true, true_and, BT.den, hR, f0, f1, f2, f3, f4, f5, f6, f7, f8, d0, d1, d2, d3, d4, d5, d6, d7, den_lit, intCmp, Option.map_some, Option.some.injEq, Bool.not_true, Bool.not_eq_true', Bool.not_eq_false', Bool.and_eq_true, Bool.and_eq_false_iff, beq_iff_eq, beq_eq_false_iff_ne, ne_eq, decide_eq_false_iff_not] at hc
        simp only [AVal.den, AVal.denL, hX, den_lit, BT.den, Option.map_some, Option.some.injEq] at hu
        have hpk : packI c y a b = c * 268435456 + y * 1048576 + a * 1024 + b := rfl
        have hxe : x = 384 * packI c y a b + 6 * w + 1 := by simp only [IntKind.wrap_i64] at hx; omega
        obtain ⟨X, hXe⟩ := Int.eq_ofNat_of_zero_le (show 0 ≤ x by omega)
        have pc : partC (X / 384) = c := by unfold partC; omega
        have pk : partK (X / 384) = y := by unfold partK; omega
        have pa : partA (X / 384) = a := by unfold partA; omega
        have pb : partB (X / 384) = b := by unfold partB; omega
        have hxx : ¬ c = 0 → decU x = .tuple #[evV ((X % 6 : Nat) : Int) ((X / 6 % 64 : Nat) : Int) 0 0 c y a b, .bool true] := fun h => by
          rw [hXe, dec_one (by omega) (by omega) (by rw [pc, pk, pa, pb]; exact hr) (by rw [pc]; exact h), pc, pk, pa, pb]
        have hx0 : c = 0 → decU x = .tuple #[evV 0 0 0 0 0 0 0 0, .bool false] := fun h => by
          rw [hXe]; exact dec_no (not_one (by omega) (.inr (by rw [pc]; exact h)))
        have hd : (¬ c = 0 ∧ decI x 0 = ((X % 6 : Nat) : Int) ∧ decI x 1 = ((X / 6 % 64 : Nat) : Int) ∧ decI x 2 = 0 ∧ decI x 3 = 0 ∧ decI x 4 = c ∧ decI x 5 = y ∧ decI x 6 = a ∧ decI x 7 = b ∧ decI x 8 = 1) ∨ (c = 0 ∧ ¬ decI x 8 = 1) := by
          by_cases h : c = 0
          · have h2 := decU_inv (hx0 h)
            exact .inr ⟨h, fun h3 => by have := h2.2.2.2.2.2.2.2.2.1 h3; cases this⟩
          · have h2 := decU_inv (hxx h)
            exact .inl ⟨h, h2.1, h2.2.1, h2.2.2.1, h2.2.2.2.1, h2.2.2.2.2.1, h2.2.2.2.2.2.1, h2.2.2.2.2.2.2.1, h2.2.2.2.2.2.2.2.1, h2.2.2.2.2.2.2.2.2.2 rfl⟩
        clear hxx hx0
        first
          | omega
          | (rw [← hu]; unfold encU
             rw [if_neg (by unfold EncOk; simp only [hr, true_and]; omega)]; done)
          | (rw [← hu]; unfold encU
             rw [if_pos (by unfold EncOk; simp only [hr, true_and]; omega)]
             congr 4
             unfold encX
             (repeat' split) <;> omega))
set_option maxHeartbeats 4000000 in
theorem good24_4 (W : World) (k w o n c y a b : Int) : ∀ s ∈ sums24_4, SumGood Tryd.prog (βF W) 109 (fun v => v = encU k w o n c y a b) [] (envOf [k, w, o, n, c, y, a, b] [] F1) s := by
  intro s hs
  simp only [sums24_4, List.mem_cons, List.not_mem_nil, or_false] at hs
  rcases hs with rfl | rfl | rfl | rfl | rfl | rfl | rfl
  all_goals
    intro ρ hle hc u hu
    have hF : ρ.F = F1 := by rw [hle.f]; rfl
    have d0 : (IT.var 0).den ρ = some k := by show some (ρ.I 0) = _; rw [hle.i]; rfl
    have d1 : (IT.var 1).den ρ = some w := by show some (ρ.I 1) = _; rw [hle.i]; rfl
    have d2 : (IT.var 2).den ρ = some o := by show some (ρ.I 2) = _; rw [hle.i]; rfl
    have d3 : (IT.var 3).den ρ = some n := by show some (ρ.I 3) = _; rw [hle.i]; rfl
    have d4 : (IT.var 4).den ρ = some c := by show some (ρ.I 4) = _; rw [hle.i]; rfl
    have d5 : (IT.var 5).den ρ = some y := by show some (ρ.I 5) = _; rw [hle.i]; rfl
    have d6 : (IT.var 6).den ρ = some a := by show some (ρ.I 6) = _; rw [hle.i]; rfl
    have d7 : (IT.var 7).den ρ = some b := by show some (ρ.I 7) = _; rw [hle.i]; rfl
    have hR := tRight_den d4 d5 d6 d7
    have hz : rightB 0 0 0 0 = true := by decide
    cases hr : rightB c y a b
    all_goals
      rw [hr] at hR
      first
        | (simp only [CRel_cons, CRel_nil, and_true, BT.den, d0, d1, d2, d3, den_lit, intCmp, Option.some.injEq, beq_iff_eq, beq_eq_false_iff_ne, decide_eq_true_eq, decide_eq_false_iff_not] at hc
           simp only [AVal.den, AVal.denL, den_lit, BT.den, Option.map_some, Option.some.injEq] at hu
           rw [← hu]; unfold encU
           rw [if_neg (by unfold EncOk; simp only [hr, true_and, false_and, and_false, false_or, reduceCtorEq]; omega)]; done)
        | skip
      all_goals (
        have hX := den_add (den_add (den_mul (den_lit 384) d2) (den_mul (den_lit 6) d1)) d0
        change tE4.den ρ = _ at hX
        generalize hx : IntKind.i64.wrap _ = x at hX
        have f0 : (IT.fn 30 tE4 (.lit 0)).den ρ = some (decI x 0) := decF_den hF hX 0
        have f1 : (IT.fn 31 tE4 (.lit 0)).den ρ = some (decI x 1) := decF_den hF hX 1
        have f2 : (IT.fn 32 tE4 (.lit 0)).den ρ = some (decI x 2) := decF_den hF hX 2
        have f3 : (IT.fn 33 tE4 (.lit 0)).den ρ = some (decI x 3) := decF_den hF hX 3
        have f4 : (IT.fn 34 tE4 (.lit 0)).den ρ = some (decI x 4) := decF_den hF hX 4
        have f5 : (IT.fn 35 tE4 (.lit 0)).den ρ = some (decI x 5) := decF_den hF hX 5
        have f6 : (IT.fn 36 tE4 (.lit 0)).den ρ = some (decI x 6) := decF_den hF hX 6
        have f7 : (IT.fn 37 tE4 (.lit 0)).den ρ = some (decI x 7) := decF_den hF hX 7
        have f8 : (IT.fn 38 tE4 (.lit 0)).den ρ = some (decI x 8) := decF_den hF hX 8
        simp only [CRel_cons, CRel_nil, and_true, BT.den, f0, f1, f2, f3, f4, f5, f6, f7, f8, d0, d1, d2, d3, d4, d5, d6, d7, den_lit, intCmp, Option.map_some, Option.some.injEq, Bool.not_eq_true', Bool.not_eq_false', Bool.and_eq_true, Bool.and_eq_false_iff, beq_iff_eq, beq_eq_false_iff_ne, ne_eq, decide_eq_false_iff_not] at hc
        simp only [AVal.den, AVal.denL, hX, den_lit, BT.den, Option.map_some, Option.some.injEq] at hu
        have hxe : x = 384 * o + 6 * w + k := by simp only [IntKind.wrap_i64] at hx; omega
        obtain ⟨X, hXe⟩ := Int.eq_ofNat_of_zero_le (show 0 ≤ x by omega)
        have hd := decU_inv (dec_four (X := X) (by omega) (by omega))
        rw [← hXe] at hd
        simp only [iff_true] at hd
        first
          | omega
          | (rw [← hu]; unfold encU
             rw [if_neg (by unfold EncOk; simp only [hr, true_and, false_and, and_false, false_or, reduceCtorEq]; omega)]; done)
          | (rw [← hu]; unfold encU
             rw [if_pos (by unfold EncOk; simp only [hr, true_and, false_and, and_false, false_or, reduceCtorEq]; omega)]
             congr 4
             unfold encX
             (repeat' split) <;> omega))
set_option maxHeartbeats 4000000 in
theorem good24_5 (W : World) (k w o n c y a b : Int) : ∀ s ∈ sums24_5, SumGood Tryd.prog (βF W) 109 (fun v => v = encU k w o n c y a b) [] (envOf [k, w, o, n, c, y, a, b] [] F1) s := by
  intro s hs
  simp only [sums24_5, List.mem_cons, List.not_mem_nil, or_false] at hs
  rcases hs with rfl | rfl | rfl | rfl | rfl | rfl | rfl
  all_goals
    intro ρ hle hc u hu
    have hF : ρ.F = F1 := by rw [hle.f]; rfl
    have d0 : (IT.var 0).den ρ = some k := by show some (ρ.I 0) = _; rw [hle.i]; rfl
    have d1 : (IT.var 1).den ρ = some w := by show some (ρ.I 1) = _; rw [hle.i]; rfl
    have d2 : (IT.var 2).den ρ = some o := by show some (ρ.I 2) = _; rw [hle.i]; rfl
    have d3 : (IT.var 3).den ρ = some n := by show some (ρ.I 3) = _; rw [hle.i]; rfl
    have d4 : (IT.var 4).den ρ = some c := by show some (ρ.I 4) = _; rw [hle.i]; rfl
    have d5 : (IT.var 5).den ρ = some y := by show some (ρ.I 5) = _; rw [hle.i]; rfl
    have d6 : (IT.var 6).den ρ = some a := by show some (ρ.I 6) = _; rw [hle.i]; rfl
    have d7 : (IT.var 7).den ρ = some b := by show some (ρ.I 7) = _; rw [hle.i]; rfl
    have hR := tRight_den d4 d5 d6 d7
    have hz : rightB 0 0 0 0 = true := by decide
    cases hr : rightB c y a b
    all_goals
      rw [hr] at hR
      first
        | (simp only [CRel_cons, CRel_nil, and_true, BT.den, d0, d1, d2, d3, den_lit, intCmp, Option.some.injEq, beq_iff_eq, beq_eq_false_iff_ne, decide_eq_true_eq, decide_eq_false_iff_not] at hc
           simp only [AVal.den, AVal.denL, den_lit, BT.den, Option.map_some, Option.some.injEq] at hu
           rw [← hu]; unfold encU
           rw [if_neg (by unfold EncOk; simp only [hr, true_and, false_and, and_false, false_or, reduceCtorEq]; omega)]; done)
        | skip
      all_goals (
        have hX := den_add (den_add (den_mul (den_lit 384) (den_sub d3 (den_lit 1))) (den_mul (den_lit 6) d1)) d0
        change tE5.den ρ = _ at hX
        generalize hx : IntKind.i64.wrap _ = x at hX
        have f0 : (IT.fn 30 tE5 (.lit 0)).den ρ = some (decI x 0) := decF_den hF hX 0
        have f1 : (IT.fn 31 tE5 (.lit 0)).den ρ = some (decI x 1) := decF_den hF hX 1
        have f2 : (IT.fn 32 tE5 (.lit 0)).den ρ = some (decI x 2) := decF_den hF hX 2
        have f3 : (IT.fn 33 tE5 (.lit 0)).den ρ = some (decI x 3) := decF_den hF hX 3
        have f4 : (IT.fn 34 tE5 (.lit 0)).den ρ = some (decI x 4) := decF_den hF hX 4
        have f5 : (IT.fn 35 tE5 (.lit 0)).den ρ = some (decI x 5) := decF_den hF hX 5
        have f6 : (IT.fn 36 tE5 (.lit 0)).den ρ = some (decI x 6) := decF_den hF hX 6
        have f7 : (IT.fn 37 tE5 (.lit 0)).den ρ = some (decI x 7) := decF_den hF hX 7
        have f8 : (IT.fn 38 tE5 (.lit 0)).den ρ = some (decI x 8) := decF_den hF hX 8
        simp only [CRel_cons, CRel_nil, and_true, BT.den, f0, f1, f2, f3, f4, f5, f6, f7, f8, d0, d1, d2, d3, d4, d5, d6, d7, den_lit, intCmp, Option.map_some, Option.some.injEq, Bool.not_eq_true', Bool.not_eq_false', Bool.and_eq_true, Bool.and_eq_false_iff, beq_iff_eq, beq_eq_false_iff_ne, ne_eq, decide_eq_false_iff_not] at hc
        simp only [AVal.den, AVal.denL, hX, den_lit, BT.den, Option.map_some, Option.some.injEq] at hu
        have hxe : x = 384 * (n - 1) + 6 * w + k := by simp only [IntKind.wrap_i64] at hx; omega
        obtain ⟨X, hXe⟩ := Int.eq_ofNat_of_zero_le (show 0 ≤ x by omega)
        have hd := decU_inv (dec_five (X := X) (by omega) (by omega))
        rw [← hXe] at hd
        simp only [iff_true] at hd
        first
          | omega
          | (rw [← hu]; unfold encU
             rw [if_neg (by unfold EncOk; simp only [hr, true_and, false_and, and_false, false_or, reduceCtorEq]; omega)]; done)
          | (rw [← hu]; unfold encU
             rw [if_pos (by unfold EncOk; simp only [hr, true_and, false_and, and_false, false_or, reduceCtorEq]; omega)]
             congr 4
             unfold encX
             (repeat' split) <;> omega))
set_option maxHeartbeats 4000000 in
theorem good24_0 (W : World) (k w o n c y a b : Int) : ∀ s ∈ sums24_0, SumGood Tryd.prog (βF W) 109 (fun v => v = encU k w o n c y a b) [] (envOf [k, w, o, n, c, y, a, b] [] F1) s := by
  intro s hs
  simp only [sums24_0, List.mem_cons, List.not_mem_nil, or_false] at hs
  rcases hs with rfl | rfl | rfl | rfl | rfl | rfl | rfl
  all_goals
    intro ρ hle hc u hu
    have hF : ρ.F = F1 := by rw [hle.f]; rfl
    have d0 : (IT.var 0).den ρ = some k := by show some (ρ.I 0) = _; rw [hle.i]; rfl
    have d1 : (IT.var 1).den ρ = some w := by show some (ρ.I 1) = _; rw [hle.i]; rfl
    have d2 : (IT.var 2).den ρ = some o := by show some (ρ.I 2) = _; rw [hle.i]; rfl
    have d3 : (IT.var 3).den ρ = some n := by show some (ρ.I 3) = _; rw [hle.i]; rfl
    have d4 : (IT.var 4).den ρ = some c := by show some (ρ.I 4) = _; rw [hle.i]; rfl
    have d5 : (IT.var 5).den ρ = some y := by show some (ρ.I 5) = _; rw [hle.i]; rfl
    have d6 : (IT.var 6).den ρ = some a := by show some (ρ.I 6) = _; rw [hle.i]; rfl
    have d7 : (IT.var 7).den ρ = some b := by show some (ρ.I 7) = _; rw [hle.i]; rfl
    have hR := tRight_den d4 d5 d6 d7
    have hz : rightB 0 0 0 0 = true := by decide
    cases hr : rightB c y a b
    all_goals
      rw [hr] at hR
      first
        | (simp only [CRel_cons, CRel_nil, and_true, BT.den, d0, d1, d2, d3, den_lit, intCmp, Option.some.injEq, beq_eq_false_iff_ne, decide_eq_true_eq, decide_eq_false_iff_not] at hc
           simp only [AVal.den, AVal.denL, den_lit, BT.den, Option.map_some, Option.some.injEq] at hu
           rw [← hu]; unfold encU
           rw [if_neg (by unfold EncOk; simp only [hr, true_and, false_and, and_false, false_or, reduceCtorEq]; omega)]; done)
        | skip
      all_goals (
        have hX := den_add (den_add (den_lit 0) (den_mul (den_lit 6) d1)) d0
        change tE0.den ρ = _ at hX
        generalize hx : IntKind.i64.wrap _ = x at hX
        have f0 : (IT.fn 30 tE0 (.lit 0)).den ρ = some (decI x 0) := decF_den hF hX 0
        have f1 : (IT.fn 31 tE0 (.lit 0)).den ρ = some (decI x 1) := decF_den hF hX 1
        have f2 : (IT.fn 32 tE0 (.lit 0)).den ρ = some (decI x 2) := decF_den hF hX 2
        have f3 : (IT.fn 33 tE0 (.lit 0)).den ρ = some (decI x 3) := decF_den hF hX 3
        have f4 : (IT.fn 34 tE0 (.lit 0)).den ρ = some (decI x 4) := decF_den hF hX 4
        have f5 : (IT.fn 35 tE0 (.lit 0)).den ρ = some (decI x 5) := decF_den hF hX 5
        have f6 : (IT.fn 36 tE0 (.lit 0)).den ρ = some (decI x 6) := decF_den hF hX 6
        have f7 : (IT.fn 37 tE0 (.lit 0)).den ρ = some (decI x 7) := decF_den hF hX 7
        have f8 : (IT.fn 38 tE0 (.lit 0)).den ρ = some (decI x 8) := decF_den hF hX 8
        simp only [CRel_cons, CRel_nil, and_true, BT.den, f0, f1, f2, f3, f4, f5, f6, f7, f8, d0, d1, d2, d3, d4, d5, d6, d7, den_lit, intCmp, Option.map_some, Option.some.injEq, Bool.not_eq_true', Bool.not_eq_false', Bool.and_eq_true, Bool.and_eq_false_iff, beq_iff_eq, beq_eq_false_iff_ne, ne_eq, decide_eq_false_iff_not] at hc
        simp only [AVal.den, AVal.denL, hX, den_lit, BT.den, Option.map_some, Option.some.injEq] at hu
        have hxe : x = 6 * w + k := by simp only [IntKind.wrap_i64] at hx; omega
        obtain ⟨X, hXe⟩ := Int.eq_ofNat_of_zero_le (show 0 ≤ x by omega)
        have hd := decU_inv (dec_else (X := X) (by omega) (by omega) (by omega) (by omega))
        rw [← hXe] at hd
        simp only [iff_true] at hd
        first
          | omega
          | (rw [← hu]; unfold encU
             rw [if_neg (by unfold EncOk; simp only [hr, true_and, false_and, and_false, false_or, reduceCtorEq]; omega)]; done)
          | (rw [← hu]; unfold encU
             rw [if_pos (by unfold EncOk; simp only [hr, true_and, false_and, and_false, false_or, reduceCtorEq]; omega)]
             congr 4
             unfold encX
             (repeat' split) <;> omega))
theorem enc24 (W : World) (k w o n c y a b : Int) : Calls Tryd.prog 109 #[evV k w o n c y a b] W (fun e w' => ∃ v, e = .returned v ∧ v = encU k w o n c y a b ∧ Framed W w') := by
  have d0 : (IT.var 0).den (envOf [k, w, o, n, c, y, a, b] [] F1) = some k := rfl
  have go : ∀ {cs : Cs} {sums : List LS}, (run Tryd.prog [] (spL [(36, spA spRight), (124, spA spDecA)]) 4000 true 109 (entry Tryd.f109 (Tryd.f109.body.getD .ret) [evA] .leaf 0 cs)).map (·.filterMap (sumL ⟨0, 0, 0, 0⟩ [])) = some sums → CRel (envOf [k, w, o, n, c, y, a, b] [] F1) cs →
      (∀ s ∈ sums, SumGood Tryd.prog (βF W) 109 (fun v => v = encU k w o n c y a b) [] (envOf [k, w, o, n, c, y, a, b] [] F1) s) → Calls Tryd.prog 109 #[evV k w o n c y a b] W (fun e w' => ∃ v, e = .returned v ∧ v = encU k w o n c y a b ∧ Framed W w') := fun hrun hcs hs =>
    calls_sums (β := βF W) (ρ := envOf [k, w, o, n, c, y, a, b] [] F1) noCount noExt (spR4_ok (βF_named W)) follows rfl Tryd.func109 rfl hrun (xs := [evV k w o n c y a b]) rfl (HRel.startG W _ (fun _ => rfl) rfl) hcs hs
  have cmp : ∀ (m : Int) (t : Bool), (k == m) = t → (BT.cmp .eql (.var 0) (.lit m)).den (envOf [k, w, o, n, c, y, a, b] [] F1) = some t := fun m t h => congrArg some h
  cases h1 : (k == 1) with
  | true => exact go run24_1 (CRel_cons.2 ⟨cmp 1 _ h1, CRel_nil.2 trivial⟩) (good24_1 W k w o n c y a b)
  | false =>
    cases h4 : (k == 4) with
    | true => exact go run24_4 (CRel_cons.2 ⟨cmp 4 _ h4, CRel_cons.2 ⟨cmp 1 _ h1, CRel_nil.2 trivial⟩⟩) (good24_4 W k w o n c y a b)
    | false =>
      cases h5 : (k == 5) with
      | true => exact go run24_5 (CRel_cons.2 ⟨cmp 5 _ h5, CRel_cons.2 ⟨cmp 4 _ h4, CRel_cons.2 ⟨cmp 1 _ h1, CRel_nil.2 trivial⟩⟩⟩) (good24_5 W k w o n c y a b)
      | false => exact go run24_0 (CRel_cons.2 ⟨cmp 5 _ h5, CRel_cons.2 ⟨cmp 4 _ h4, CRel_cons.2 ⟨cmp 1 _ h1, CRel_nil.2 trivial⟩⟩⟩) (good24_0 W k w o n c y a b)
end Sc
end Go.Proofs.YtagdcclpibjfoaaDoor
