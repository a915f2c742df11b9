/-
  Plans (6): the seeds' walks; terms and heads of loops.
-/
import Derived.Test.YthifhdckfcgbkaaGreatPe
import Derived.Test.YthifhdckfcgbkaaGreatVm24
namespace Go.Proofs.YthifhdckfcgbkaaGreat
open Go.Vm
namespace Pln

theorem tmod_M (x : Int) : x.tmod 2147483648 = if 0 ≤ x then x % 2147483648 else -((-x) % 2147483648) := by
  split
  · rename_i h; exact Int.tmod_eq_emod_of_nonneg h
  · rename_i h
    have h1 : ((-x)).tmod 2147483648 = (-x) % 2147483648 := Int.tmod_eq_emod_of_nonneg (by omega)
    rw [Int.neg_tmod] at h1
    omega
theorem nx_of {s x : Int} (hs : s = x % 2147483648) : (IntKind.i64.wrap (IntKind.i64.wrap (1103515245 * s) + 12345)).tmod 2147483648 = nxS x := by
  have h0 : 0 ≤ s ∧ s < 2147483648 := by omega
  rw [wrap_ok (x := 1103515245 * s) (by omega) (by omega), wrap_ok (by omega) (by omega), Int.tmod_eq_emod_of_nonneg (by omega), hs]; rfl
theorem held_of (x : Int) : (IntKind.i64.wrap (x.tmod 2147483648 + 2147483648)).tmod 2147483648 = x % 2147483648 := by
  have h := tmod_M x
  have h2 : -2147483648 < x.tmod 2147483648 ∧ x.tmod 2147483648 < 2147483648 := by split at h <;> omega
  rw [wrap_ok (by omega) (by omega), Int.tmod_eq_emod_of_nonneg (by omega)]
  split at h <;> omega
theorem th_of {z n : Int} (h : 0 ≤ z) (h2 : z < 2147483648) (hn : 0 < n) : (IntKind.i64.wrap (z.tdiv 65536)).tmod n = z / 65536 % n := by
  rw [Int.tdiv_eq_ediv_of_nonneg h, wrap_ok (by omega) (by omega), Int.tmod_eq_emod_of_nonneg (by omega)]
noncomputable def FP : Nat → Int → Int → Int := fun k x y => if k = 50 then nxS x else if k = 51 then thS x y else F1 k x y
theorem FP_50 (x y : Int) : FP 50 x y = nxS x := rfl
theorem FP_51 (x y : Int) : FP 51 x y = thS x y := rfl

-- SEEDS
def sums22 : List LS := [.ret (.int .i64 (.bin .rem .i64 (.bin .add .i64 (.bin .mul .i64 (.lit 1103515245) (.bin .add .i64 (.bin .rem .i64 (.var 0) (.lit 2147483648)) (.lit 2147483648))) (.lit 12345)) (.lit 2147483648))) [((.cmp .lss (.bin .rem .i64 (.var 0) (.lit 2147483648)) (.lit 0)), true)],
  .ret (.int .i64 (.bin .rem .i64 (.bin .add .i64 (.bin .mul .i64 (.lit 1103515245) (.bin .rem .i64 (.var 0) (.lit 2147483648))) (.lit 12345)) (.lit 2147483648))) [((.cmp .lss (.bin .rem .i64 (.var 0) (.lit 2147483648)) (.lit 0)), false)]]
def sums21 : List LS := [.ret (.int .i64 (.bin .rem .i64 (.bin .add .i64 (.bin .mul .i64 (.bin .rem .i64 (.bin .add .i64 (.bin .rem .i64 (.var 0) (.lit 2147483648)) (.lit 2147483648)) (.lit 2147483648)) (.lit 1103515245)) (.lit 12345)) (.lit 2147483648))) []]
theorem run22 : (run Tryz.prog [] noSp 4000 true 22 (entry Tryz.f22 (Tryz.f22.body.getD .ret) [.int .i64 (.var 0)] .leaf 0 [])).map (·.filterMap (sumL ⟨0, 0, 0, 0⟩ [])) = some sums22 := by kernel_rfl
theorem run21 : (run Tryz.prog [] noSp 4000 true 21 (entry Tryz.f21 (Tryz.f21.body.getD .ret) [.int .i64 (.var 0)] .leaf 0 [])).map (·.filterMap (sumL ⟨0, 0, 0, 0⟩ [])) = some sums21 := by kernel_rfl
theorem next22 (w : World) (x : Int) : Calls Tryz.prog 22 #[.int .i64 x] w (fun e w' => e = .returned (.int .i64 (nxS x)) ∧ Framed w w') := by
  refine calls_eq (scal1 Tryz.func22 rfl run22 (fun ρ h0 s hs => ?_) w)
  have ht := tmod_M x
  simp only [sums22, List.mem_cons, List.not_mem_nil, or_false] at hs
  rcases hs with rfl | rfl
  all_goals
    refine ⟨_, _, rfl, fun hc u hu => ?_⟩
    simp only [CRel_cons, CRel_nil, and_true, BT.den, IT.den, h0, intBin, intCmp, Option.some.injEq, decide_eq_true_eq, decide_eq_false_iff_not, if_neg (show ¬ ((2147483648 : Int) = 0) by decide)] at hc
    simp only [AVal.den, IT.den, h0, intBin, Option.map_some, Option.some.injEq, if_neg (show ¬ ((2147483648 : Int) = 0) by decide)] at hu
    rw [← hu]
    congr 1
    apply nx_of
  · split at ht
    · omega
    · rw [wrap_ok (by omega) (by omega)]; omega
  · split at ht <;> omega
theorem next21 (w : World) (x : Int) : Calls Tryz.prog 21 #[.int .i64 x] w (fun e w' => e = .returned (.int .i64 (nxS x)) ∧ Framed w w') := by
  refine calls_eq (scal1 Tryz.func21 rfl run21 (fun ρ h0 s hs => ?_) w)
  simp only [sums21, List.mem_cons, List.not_mem_nil, or_false] at hs
  rcases hs with rfl
  refine ⟨_, _, rfl, fun hc u hu => ?_⟩
  simp only [AVal.den, IT.den, h0, intBin, Option.map_some, Option.some.injEq, if_neg (show ¬ ((2147483648 : Int) = 0) by decide)] at hu
  rw [← hu, held_of, Int.mul_comm]
  congr 1
  exact nx_of rfl

-- TERMS
def iv (j : Nat) : AVal := .int .i64 (.var j)
def ge (j : Nat) (n : Int) : BT × Bool := (.cmp .geq (.var j) (.lit n), true)
def le (j : Nat) (n : Int) : BT × Bool := (.cmp .leq (.var j) (.lit n), true)
def nz (j : Nat) : BT × Bool := (.cmp .neq (.var j) (.lit 0), true)
def planC : Cs := [nz 11, nz 13, nz 14, ge 11 1, le 11 64, ge 12 0, le 12 5000, ge 13 1, le 13 1000, ge 14 1, le 14 256, ge 15 0, le 15 100]
def rngC : Cs := [ge 0 0, le 0 5000, ge 1 0, le 1 10000]
def pcells : List AVal := [iv 10, iv 11, iv 12, iv 13, iv 14, iv 15]
def p6 : AVal := .agg pcells
def k8 : List IntKind := [.i64, .i64, .i64, .i64, .i64, .i64, .i64, .i64]
def rowB (n : IT) (nv : Nat) : HB := ⟨.arr (.var 0) k8 42 n (.lit 0) (some (.nv nv)), true⟩
def n1 : IT := .fn 50 (.var 2) (.lit 0)
def n2 : IT := .fn 50 n1 (.lit 0)
def n3 : IT := .fn 50 n2 (.lit 0)
def n4 : IT := .fn 50 n3 (.lit 0)
def n5 : IT := .fn 50 n4 (.lit 0)
def n6 : IT := .fn 50 n5 (.lit 0)
def tr (s n : IT) : IT := .fn 51 s n
def tp (s n : IT) : IT := .bin .rem .i64 (.bin .quo .i64 s (.lit 65536)) n
def cp : IT := .bin .add .i64 (.lit 1) (tp n3 (.lit 14))
def cr : IT := .bin .add .i64 (.lit 1) (tr n2 (.lit 14))
theorem tr_den {ρ : Env} (hF : ρ.F = FP) {s n : IT} {x y : Int} (hs : s.den ρ = some x) (hn : n.den ρ = some y) : (tr s n).den ρ = some (thS x y) := by
  simp only [tr, IT.den, hs, hn, hF, FP_51]
theorem nx_den {ρ : Env} (hF : ρ.F = FP) {s : IT} {x : Int} (hs : s.den ρ = some x) : (IT.fn 50 s (.lit 0)).den ρ = some (nxS x) := by
  simp only [IT.den, hs, hF, FP_50]
theorem tp_den {ρ : Env} {s n : IT} {x y : Int} (hs : s.den ρ = some (nxS x)) (hn : n.den ρ = some y) (h : 0 < y) : (tp s n).den ρ = some (thS x y) := by
  have hb := nxS_bnd x
  have hy : ¬ y = 0 := by omega
  simp only [tp, IT.den, hs, hn, intBin]
  rw [if_neg (show ¬ ((65536 : Int) = 0) by decide)]
  simp only [if_neg hy]
  rw [th_of hb.1 hb.2 h]; rfl

-- THE REFERENCE'S THROW
def posB (cs : Cs) : IT → Bool
  | .lit (.ofNat (_ + 1)) => true
  | n => match lookB cs (.cmp .geq n (.lit 1)) with
    | some b => b
    | none => false
def spThrow : SpG := fun args H nl cs => match args with
  | [.int .i64 s, .int .i64 n] => cond (posB cs n) (some [.ret (.tuple [.int .i64 (.fn 50 s (.lit 0)), .int .i64 (tr s n)]) H nl ([(.cmp .geq (tr s n) (.lit 0), true), (.cmp .lss (tr s n) n, true)] ++ cs)]) none
  | _ => none
def sp22 : CallF := spL [(22, spI1 50)]
def GF : GP := fun _ _ _ _ F => F = FP
theorem sp22_ok (w : World) : CallOk Tryz.prog ⟨w, [], GF⟩ sp22 := by
  refine spL_ok fun p hp => ?_
  simp only [List.mem_cons, List.not_mem_nil, or_false] at hp
  obtain rfl := hp
  exact spI1_ok next22 fun _ _ _ _ F h x => by rw [show F = FP from h]; rfl
def sums69 : List LS := [.ret (.tuple [(.int .i64 (.fn 50 (.var 0) (.lit 0))), (.int .i64 (tp (.fn 50 (.var 0) (.lit 0)) (.var 1)))]) [((.cmp .neq (.var 1) (.lit 0)), true), ((.cmp .geq (.var 1) (.lit 1)), true)]]
theorem run69 : (run Tryz.prog [] sp22 4000 true 69 (entry Tryz.f69 (Tryz.f69.body.getD .ret) [iv 0, iv 1] .leaf 0 [ge 1 1])).map (·.filterMap (sumL ⟨0, 0, 0, 0⟩ [])) = some sums69 := by kernel_rfl
theorem throw69 (w : World) (x n : Int) (hn : 1 ≤ n) : Calls Tryz.prog 69 #[.int .i64 x, .int .i64 n] w (fun e w' => e = .returned (.tuple #[.int .i64 (nxS x), .int .i64 (thS x n)]) ∧ Framed w w') := by
  refine calls_eq ?_
  refine calls_sums (β := ⟨w, [], GF⟩) (ρ := envOf [x, n] [] FP) noCount noExt (sp22_ok w) follows rfl Tryz.func69 rfl run69 (xs := [.int .i64 x, .int .i64 n]) rfl (HRel.startG w _ (fun _ => rfl) rfl) (fun q hq => ?_) (fun s hs => ?_)
  · obtain rfl := List.mem_singleton.1 hq
    show (BT.cmp .geq (.var 1) (.lit 1)).den _ = some true
    simp only [BT.den, IT.den, intCmp, Option.some.injEq, decide_eq_true_eq]
    exact hn
  · simp only [sums69, List.mem_cons, List.not_mem_nil, or_false] at hs
    obtain rfl := hs
    intro ρ' hle hc u hu
    have hF : ρ'.F = FP := by rw [hle.f]; rfl
    have e0 : (IT.var 0).den ρ' = some x := by simp only [IT.den, hle.i]; rfl
    have e1 : (IT.var 1).den ρ' = some n := by simp only [IT.den, hle.i]; rfl
    have h1 := nx_den hF e0
    have h2 := tp_den h1 e1 (by omega)
    simp only [AVal.den, AVal.denL, h1, h2, Option.map_some, Option.some.injEq] at hu
    exact hu.symm
theorem posB_ok {ρ : Env} {cs : Cs} {n : IT} {y : Int} (h : posB cs n = true) (hc : CRel ρ cs) (hn : n.den ρ = some y) : 1 ≤ y := by
  unfold posB at h
  split at h
  · rename_i m; simp only [IT.den, Option.some.injEq] at hn; rw [← hn]; simp; omega
  · split at h
    · rename_i b hl
      subst h
      have := lookB_ok hl hc
      simpa only [BT.den, hn, IT.den, intCmp, Option.some.injEq, decide_eq_true_eq, ge_iff_le] using this
    · cases h
theorem spThrow_ok {β : Base} (hG : ∀ I B S V F, β.G I B S V F → (∀ x y, F 50 x y = nxS x) ∧ ∀ x y, F 51 x y = thS x y) : SpGOk Tryz.prog β 69 spThrow := by
  intro args H nl cs ls ρ w xs hr hx hh hc
  unfold spThrow at hr
  split at hr
  rotate_left
  · cases hr
  rename_i s n
  cases hp : posB cs n with
  | false => rw [hp] at hr; cases hr
  | true =>
    rw [hp] at hr
    simp only [cond_true, Option.some.injEq] at hr
    subst hr
    simp only [AVal.denL, AVal.den] at hx
    cases hs : s.den ρ with
    | none => rw [hs] at hx; cases hx
    | some x =>
      cases hn : n.den ρ with
      | none => rw [hs, hn] at hx; cases hx
      | some y =>
        rw [hs, hn] at hx
        simp only [Option.map_some, Option.some.injEq] at hx
        subst hx
        have hy := posB_ok hp hc hn
        have hF := hG _ _ _ _ _ hh.g
        have h1 : (IT.fn 50 s (.lit 0)).den ρ = some (nxS x) := by simp only [IT.den, hs, hF.1]
        have h2 : (tr s n).den ρ = some (thS x y) := by simp only [tr, IT.den, hs, hn, hF.2]
        have hb := thS_bnd x (n := y) (by omega)
        refine (throw69 w x y hy).mono fun e w2 ⟨he, hf⟩ => ⟨_, he, _, _, _, _, ρ, List.mem_cons_self, Env.Le.refl ρ, ?_, hh.framed hf, ?_⟩
        · simp only [AVal.den, AVal.denL, h1, h2, Option.map_some]
        · refine CRel_cons.2 ⟨?_, CRel_cons.2 ⟨?_, hc⟩⟩
          · simp only [BT.den, h2, IT.den, intCmp, Option.some.injEq, decide_eq_true_eq]; exact hb.1
          · simp only [BT.den, h2, hn, intCmp, Option.some.injEq, decide_eq_true_eq]; exact hb.2

-- HEADS
def sl0 : AVal := .slice 0 (.lit 0) (.var 1) (.nv 1)
def sl2 : AVal := .slice 2 (.lit 0) (.var 1) (.nv 1)
def HBp (e : Nat) : HB := ⟨.cells pcells e none, true⟩
def dice : HB := ⟨.cells (iv 2 :: pcells) 63 none, true⟩
def P0 : List (Nat × AVal) := [(0, p6), (1, .ptr 0 (.lit 0)), (2, .sliceNil)]
def P0p : List (Nat × AVal) := [(0, p6), (1, .ptr 0 (.lit 0)), (2, .sliceNil), (3, .int .i64 (.lit 0)), (10, .ptr 0 (.lit 1)), (11, iv 11)]
def R0 : Tpl := ⟨P0 ++ [(3, .sliceNil), (4, .int .i64 (.lit 0))], 42, [(0, HBp 36)], 1, planC, 3⟩
def R1 : Tpl := ⟨P0 ++ [(3, sl2), (4, iv 0)], 42, [(0, HBp 36), (2, rowB (.var 1) 1)], 3, rngC ++ planC, 3⟩
def R2 : Tpl := ⟨P0 ++ [(3, sl2), (5, iv 2), (6, iv 0)], 42, [(0, HBp 36), (2, rowB (.var 1) 1)], 3, rngC ++ planC, 3⟩
def Q0 : Tpl := ⟨P0p ++ [(4, .sliceNil), (12, .int .i64 (.lit 0))], 40, [(0, HBp 29)], 1, planC, 3⟩
def Q1 : Tpl := ⟨P0p ++ [(4, sl2), (12, iv 0)], 40, [(0, HBp 29), (2, rowB (.var 1) 1)], 3, rngC ++ planC, 3⟩
def Q2 : Tpl := ⟨P0p ++ [(4, sl2), (6, .ptr 3 (.lit 0)), (30, iv 12), (31, iv 0)], 40, [(0, HBp 29), (2, rowB (.var 1) 1), (3, dice)], 4, rngC ++ planC, 3⟩
def RTr : Tpl := ⟨[(0, sl0)], 1, [(0, rowB (.var 1) 1)], 2, [], 0⟩
def RTp : Tpl := ⟨[(0, .tuple [sl0, .int .i64 (.lit 0)])], 1, [(0, rowB (.var 1) 1)], 2, [], 0⟩
def g4 : Gen := ⟨4, 1, 0, 0⟩
end Pln
end Go.Proofs.YthifhdckfcgbkaaGreat
