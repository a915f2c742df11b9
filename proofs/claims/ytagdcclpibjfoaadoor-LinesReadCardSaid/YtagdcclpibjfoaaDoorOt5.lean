/-
  OpsTexts (5): the ends of both readings.
-/
import Derived.Test.YtagdcclpibjfoaaDoorOt4
namespace Go.Proofs.YtagdcclpibjfoaaDoor
open Go.Vm
namespace Txt
theorem leafP0 {w0 : World} {ρ : Env} {s : ByteArray} {ws : List (List UInt8)} (hS : ρ.S 5 = s) (hF : ρ.F = FO) (hw : FO 30 (encS s) 0 = encW ws) (hcode : codeOf (ws.getD 0 []) = 0) (h1 : 1 ≤ ws.length) (h2 : ws.length ≤ 10001) : ∀ q ∈ sP0, SumGood Tryd.prog (βO w0 s) 54 (fun x => x = parV ws) [] ρ q := by
  have pk : parK 0 ws = 0 := rfl
  have pa : parA 0 ws = 0 := rfl
  have pb : parB 0 ws = 0 := rfl
  intro q hq
  simp only [sP0, List.mem_cons, List.not_mem_nil, or_false] at hq
  rcases hq with rfl | rfl | rfl
  all_goals intro ρ' hle hc
  all_goals rw [← hle.s] at hS
  all_goals rw [← hle.f] at hF
  all_goals have dW := nW_den hS hF hw
  all_goals have dM1 : nM1.den ρ' = _ := nM_den dW
  all_goals have dM2 : nM2.den ρ' = _ := nM_den dM1
  all_goals have dM3 : nM3.den ρ' = _ := nM_den dM2
  all_goals have hc' := (CRel_apd.1 hc).1
  all_goals simp only [kc0, kc1, kc2, kc3, kc4, kc5, kc6, kc7, kc8, kc9, kc10, dW, dM1, hF, CRel_cons, CRel_nil, BT.den, IT.den, fo50, one1, intCmp, Option.some.injEq, Option.map_some, decide_eq_true_eq, decide_eq_false_iff_not, Bool.not_eq_true', Bool.not_eq_false', and_true] at hc'
  all_goals
    first
    | (intro u hu
       simp only [AVal.den, AVal.denL, IT.den, BT.den, Option.map_some, Option.some.injEq] at hu
       rw [← hu]
       first
         | exact (par_bad hcode pk pa pb (.inl (by show ws.length ≠ 1; omega))).symm
         | exact (par_bad hcode pk pa pb (.inr (.inl (right_neg (by omega))))).symm
         | exact (par_good hcode (by decide) (by show ws.length = 1; omega) pk pa pb hc'.1).symm
         | exact (par_bad hcode pk pa pb (.inr (.inl hc'.1))).symm)
theorem leafQ0 {w0 : World} {ρ : Env} {s : ByteArray} {ws : List (List UInt8)} (hS : ρ.S 5 = s) (hF : ρ.F = FO) (hw : FO 30 (encS s) 0 = encW ws) (hN : ρ.I 2 = encL (numsOf ws)) (hcode : codeOf (ws.getD 0 []) = 0) (h1 : 1 ≤ ws.length) (h2 : ws.length ≤ 10001) : ∀ q ∈ sQ0, SumGood Tryd.prog (βO w0 s) 55 (fun x => x = parV ws) [] ρ q := by
  have pk : parK 0 ws = 0 := rfl
  have pa : parA 0 ws = 0 := rfl
  have pb : parB 0 ws = 0 := rfl
  intro q hq
  simp only [sQ0, List.mem_cons, List.not_mem_nil, or_false] at hq
  rcases hq with rfl | rfl | rfl
  all_goals intro ρ' hle hc
  all_goals rw [← hle.s] at hS
  all_goals rw [← hle.f] at hF
  all_goals rw [← hle.i] at hN
  all_goals have dW := nW_den hS hF hw
  all_goals have hc' := (CRel_apd.1 hc).1
  all_goals simp only [kc3, kc4, kc6, kc7, kc11, kc12, kc13, kc14, kc15, dW, hF, CRel_cons, CRel_nil, BT.den, IT.den, fo50, one1, intBin, intCmp, IntKind.wrap_i64, Option.some.injEq, decide_eq_true_eq, beq_iff_eq, beq_eq_false_iff_ne, and_true] at hc'
  all_goals
    first
    | (intro u hu
       simp only [AVal.den, AVal.denL, IT.den, BT.den, Option.map_some, Option.some.injEq] at hu
       rw [← hu]
       first
         | exact (par_bad hcode pk pa pb (.inl (by show ws.length ≠ 1; omega))).symm
         | exact (par_good hcode (by decide) (by show ws.length = 1; omega) pk pa pb hc'.1).symm
         | exact (par_bad hcode pk pa pb (.inr (.inl hc'.1))).symm)
theorem leafP1 {w0 : World} {ρ : Env} {s : ByteArray} {ws : List (List UInt8)} (hS : ρ.S 5 = s) (hF : ρ.F = FO) (hw : FO 30 (encS s) 0 = encW ws) (hcode : codeOf (ws.getD 0 []) = 1) (h1 : 1 ≤ ws.length) (h2 : ws.length ≤ 10001) : ∀ q ∈ sP1, SumGood Tryd.prog (βO w0 s) 54 (fun x => x = parV ws) [] ρ q := by
  have pk : parK 1 ws = 0 := rfl
  have pa : parA 1 ws = numL (ws.getD 1 []) := rfl
  have pb : parB 1 ws = 0 := rfl
  intro q hq
  simp only [sP1, List.mem_cons, List.not_mem_nil, or_false] at hq
  rcases hq with rfl | rfl | rfl | rfl | rfl | rfl | rfl | rfl
  all_goals intro ρ' hle hc
  all_goals rw [← hle.s] at hS
  all_goals rw [← hle.f] at hF
  all_goals have dW := nW_den hS hF hw
  all_goals have dX1 := nX1_den hS hF hw
  all_goals have dM1 : nM1.den ρ' = _ := nM_den dW
  all_goals have dM2 : nM2.den ρ' = _ := nM_den dM1
  all_goals have dM3 : nM3.den ρ' = _ := nM_den dM2
  all_goals have hc' := (CRel_apd.1 hc).1
  all_goals simp only [kc1, kc2, kc3, kc4, kc5, kc6, kc7, kc16, kc17, kc18, kc19, kc20, kc21, kc22, kc23, kc24, kc25, kc26, kc27, kc28, kc29, kc30, dW, nE1_den, dX1, dM1, dM2, hF, CRel_cons, CRel_nil, BT.den, IT.den, fo50, one1, intCmp, Option.some.injEq, Option.map_some, decide_eq_true_eq, decide_eq_false_iff_not, beq_iff_eq, beq_eq_false_iff_ne, Bool.not_eq_true', Bool.not_eq_false', and_true] at hc'
  all_goals
    first
    | (exfalso; omega)
    | (intro u hu
       simp only [AVal.den, AVal.denL, dX1, IT.den, BT.den, Option.map_some, Option.some.injEq] at hu
       rw [← hu]
       first
         | exact (par_bad hcode pk pa pb (.inl (by show ws.length ≠ 2; omega))).symm
         | exact (par_bad hcode pk pa pb (.inr (.inl (right_neg (by omega))))).symm
         | exact (par_good hcode (by decide) (by show ws.length = 2; omega) pk pa pb hc'.1).symm
         | exact (par_bad hcode pk pa pb (.inr (.inl hc'.1))).symm)
theorem leafQ1 {w0 : World} {ρ : Env} {s : ByteArray} {ws : List (List UInt8)} (hS : ρ.S 5 = s) (hF : ρ.F = FO) (hw : FO 30 (encS s) 0 = encW ws) (hN : ρ.I 2 = encL (numsOf ws)) (hcode : codeOf (ws.getD 0 []) = 1) (h1 : 1 ≤ ws.length) (h2 : ws.length ≤ 10001) : ∀ q ∈ sQ1, SumGood Tryd.prog (βO w0 s) 55 (fun x => x = parV ws) [] ρ q := by
  have pk : parK 1 ws = 0 := rfl
  have pa : parA 1 ws = numL (ws.getD 1 []) := rfl
  have pb : parB 1 ws = 0 := rfl
  intro q hq
  simp only [sQ1, List.mem_cons, List.not_mem_nil, or_false] at hq
  rcases hq with rfl | rfl | rfl | rfl
  all_goals intro ρ' hle hc
  all_goals rw [← hle.s] at hS
  all_goals rw [← hle.f] at hF
  all_goals rw [← hle.i] at hN
  all_goals have dW := nW_den hS hF hw
  all_goals have dY0 := nY0_den hN
  all_goals have hc' := (CRel_apd.1 hc).1
  all_goals simp only [kc3, kc4, kc6, kc7, kc13, kc31, kc32, kc33, kc34, kc35, kc36, dW, dY0, hF, CRel_cons, CRel_nil, BT.den, IT.den, fo50, one1, intBin, intCmp, IntKind.wrap_i64, Option.some.injEq, decide_eq_true_eq, decide_eq_false_iff_not, beq_iff_eq, beq_eq_false_iff_ne, and_true] at hc'
  all_goals
    first
    | (exfalso; omega)
    | (intro u hu
       simp only [AVal.den, AVal.denL, dY0, IT.den, BT.den, Option.map_some, Option.some.injEq] at hu
       rw [← hu]
       first
         | exact (par_bad hcode pk pa pb (.inl (by show ws.length ≠ 2; omega))).symm
         | (have hl : ws.length = 2 := by omega
            simp only [numsOf_get (ws := ws) (j := 0) (by omega)] at hc' ⊢
            first
               | exact (par_good hcode (by decide) hl pk pa pb hc'.1).symm
               | exact (par_bad hcode pk pa pb (.inr (.inl hc'.1))).symm))
theorem leafP2 {w0 : World} {ρ : Env} {s : ByteArray} {ws : List (List UInt8)} (hS : ρ.S 5 = s) (hF : ρ.F = FO) (hw : FO 30 (encS s) 0 = encW ws) (hcode : codeOf (ws.getD 0 []) = 2) (h1 : 1 ≤ ws.length) (h2 : ws.length ≤ 10001) : ∀ q ∈ sP2, SumGood Tryd.prog (βO w0 s) 54 (fun x => x = parV ws) [] ρ q := by
  have pk : parK 2 ws = 0 := rfl
  have pa : parA 2 ws = 0 := rfl
  have pb : parB 2 ws = 0 := rfl
  intro q hq
  simp only [sP2, List.mem_cons, List.not_mem_nil, or_false] at hq
  rcases hq with rfl | rfl | rfl
  all_goals intro ρ' hle hc
  all_goals rw [← hle.s] at hS
  all_goals rw [← hle.f] at hF
  all_goals have dW := nW_den hS hF hw
  all_goals have dM1 : nM1.den ρ' = _ := nM_den dW
  all_goals have dM2 : nM2.den ρ' = _ := nM_den dM1
  all_goals have dM3 : nM3.den ρ' = _ := nM_den dM2
  all_goals have hc' := (CRel_apd.1 hc).1
  all_goals simp only [kc0, kc1, kc2, kc3, kc4, kc5, kc6, kc7, kc9, kc37, kc38, dW, dM1, hF, CRel_cons, CRel_nil, BT.den, IT.den, fo50, one1, intCmp, Option.some.injEq, Option.map_some, decide_eq_true_eq, decide_eq_false_iff_not, Bool.not_eq_true', Bool.not_eq_false', and_true] at hc'
  all_goals
    first
    | (intro u hu
       simp only [AVal.den, AVal.denL, IT.den, BT.den, Option.map_some, Option.some.injEq] at hu
       rw [← hu]
       first
         | exact (par_bad hcode pk pa pb (.inl (by show ws.length ≠ 1; omega))).symm
         | exact (par_bad hcode pk pa pb (.inr (.inl (right_neg (by omega))))).symm
         | exact (par_good hcode (by decide) (by show ws.length = 1; omega) pk pa pb hc'.1).symm
         | exact (par_bad hcode pk pa pb (.inr (.inl hc'.1))).symm)
theorem leafQ2 {w0 : World} {ρ : Env} {s : ByteArray} {ws : List (List UInt8)} (hS : ρ.S 5 = s) (hF : ρ.F = FO) (hw : FO 30 (encS s) 0 = encW ws) (hN : ρ.I 2 = encL (numsOf ws)) (hcode : codeOf (ws.getD 0 []) = 2) (h1 : 1 ≤ ws.length) (h2 : ws.length ≤ 10001) : ∀ q ∈ sQ2, SumGood Tryd.prog (βO w0 s) 55 (fun x => x = parV ws) [] ρ q := by
  have pk : parK 2 ws = 0 := rfl
  have pa : parA 2 ws = 0 := rfl
  have pb : parB 2 ws = 0 := rfl
  intro q hq
  simp only [sQ2, List.mem_cons, List.not_mem_nil, or_false] at hq
  rcases hq with rfl | rfl | rfl
  all_goals intro ρ' hle hc
  all_goals rw [← hle.s] at hS
  all_goals rw [← hle.f] at hF
  all_goals rw [← hle.i] at hN
  all_goals have dW := nW_den hS hF hw
  all_goals have hc' := (CRel_apd.1 hc).1
  all_goals simp only [kc3, kc4, kc6, kc7, kc12, kc13, kc15, kc39, kc40, dW, hF, CRel_cons, CRel_nil, BT.den, IT.den, fo50, one1, intBin, intCmp, IntKind.wrap_i64, Option.some.injEq, decide_eq_true_eq, beq_iff_eq, beq_eq_false_iff_ne, and_true] at hc'
  all_goals
    first
    | (intro u hu
       simp only [AVal.den, AVal.denL, IT.den, BT.den, Option.map_some, Option.some.injEq] at hu
       rw [← hu]
       first
         | exact (par_bad hcode pk pa pb (.inl (by show ws.length ≠ 1; omega))).symm
         | exact (par_good hcode (by decide) (by show ws.length = 1; omega) pk pa pb hc'.1).symm
         | exact (par_bad hcode pk pa pb (.inr (.inl hc'.1))).symm)
theorem leafP3 {w0 : World} {ρ : Env} {s : ByteArray} {ws : List (List UInt8)} (hS : ρ.S 5 = s) (hF : ρ.F = FO) (hw : FO 30 (encS s) 0 = encW ws) (hcode : codeOf (ws.getD 0 []) = 3) (h1 : 1 ≤ ws.length) (h2 : ws.length ≤ 10001) : ∀ q ∈ sP3, SumGood Tryd.prog (βO w0 s) 54 (fun x => x = parV ws) [] ρ q := by
  have pk : parK 3 ws = 0 := rfl
  have pa : parA 3 ws = 0 := rfl
  have pb : parB 3 ws = 0 := rfl
  intro q hq
  simp only [sP3, List.mem_cons, List.not_mem_nil, or_false] at hq
  rcases hq with rfl | rfl | rfl
  all_goals intro ρ' hle hc
  all_goals rw [← hle.s] at hS
  all_goals rw [← hle.f] at hF
  all_goals have dW := nW_den hS hF hw
  all_goals have dM1 : nM1.den ρ' = _ := nM_den dW
  all_goals have dM2 : nM2.den ρ' = _ := nM_den dM1
  all_goals have dM3 : nM3.den ρ' = _ := nM_den dM2
  all_goals have hc' := (CRel_apd.1 hc).1
  all_goals simp only [kc0, kc1, kc2, kc3, kc4, kc5, kc6, kc7, kc9, kc41, kc42, dW, dM1, hF, CRel_cons, CRel_nil, BT.den, IT.den, fo50, one1, intCmp, Option.some.injEq, Option.map_some, decide_eq_true_eq, decide_eq_false_iff_not, Bool.not_eq_true', Bool.not_eq_false', and_true] at hc'
  all_goals
    first
    | (intro u hu
       simp only [AVal.den, AVal.denL, IT.den, BT.den, Option.map_some, Option.some.injEq] at hu
       rw [← hu]
       first
         | exact (par_bad hcode pk pa pb (.inl (by show ws.length ≠ 1; omega))).symm
         | exact (par_bad hcode pk pa pb (.inr (.inl (right_neg (by omega))))).symm
         | exact (par_good hcode (by decide) (by show ws.length = 1; omega) pk pa pb hc'.1).symm
         | exact (par_bad hcode pk pa pb (.inr (.inl hc'.1))).symm)
theorem leafQ3 {w0 : World} {ρ : Env} {s : ByteArray} {ws : List (List UInt8)} (hS : ρ.S 5 = s) (hF : ρ.F = FO) (hw : FO 30 (encS s) 0 = encW ws) (hN : ρ.I 2 = encL (numsOf ws)) (hcode : codeOf (ws.getD 0 []) = 3) (h1 : 1 ≤ ws.length) (h2 : ws.length ≤ 10001) : ∀ q ∈ sQ3, SumGood Tryd.prog (βO w0 s) 55 (fun x => x = parV ws) [] ρ q := by
  have pk : parK 3 ws = 0 := rfl
  have pa : parA 3 ws = 0 := rfl
  have pb : parB 3 ws = 0 := rfl
  intro q hq
  simp only [sQ3, List.mem_cons, List.not_mem_nil, or_false] at hq
  rcases hq with rfl | rfl | rfl
  all_goals intro ρ' hle hc
  all_goals rw [← hle.s] at hS
  all_goals rw [← hle.f] at hF
  all_goals rw [← hle.i] at hN
  all_goals have dW := nW_den hS hF hw
  all_goals have hc' := (CRel_apd.1 hc).1
  all_goals simp only [kc3, kc4, kc6, kc7, kc12, kc13, kc15, kc43, kc44, dW, hF, CRel_cons, CRel_nil, BT.den, IT.den, fo50, one1, intBin, intCmp, IntKind.wrap_i64, Option.some.injEq, decide_eq_true_eq, beq_iff_eq, beq_eq_false_iff_ne, and_true] at hc'
  all_goals
    first
    | (intro u hu
       simp only [AVal.den, AVal.denL, IT.den, BT.den, Option.map_some, Option.some.injEq] at hu
       rw [← hu]
       first
         | exact (par_bad hcode pk pa pb (.inl (by show ws.length ≠ 1; omega))).symm
         | exact (par_good hcode (by decide) (by show ws.length = 1; omega) pk pa pb hc'.1).symm
         | exact (par_bad hcode pk pa pb (.inr (.inl hc'.1))).symm)
theorem leafP4 {w0 : World} {ρ : Env} {s : ByteArray} {ws : List (List UInt8)} (hS : ρ.S 5 = s) (hF : ρ.F = FO) (hw : FO 30 (encS s) 0 = encW ws) (hcode : codeOf (ws.getD 0 []) = 4) (h1 : 1 ≤ ws.length) (h2 : ws.length ≤ 10001) : ∀ q ∈ sP4, SumGood Tryd.prog (βO w0 s) 54 (fun x => x = parV ws) [] ρ q := by
  have pk : parK 4 ws = numL (ws.getD 1 []) := rfl
  have pa : parA 4 ws = 0 := rfl
  have pb : parB 4 ws = 0 := rfl
  intro q hq
  simp only [sP4, List.mem_cons, List.not_mem_nil, or_false] at hq
  rcases hq with rfl | rfl | rfl | rfl | rfl | rfl | rfl | rfl
  all_goals intro ρ' hle hc
  all_goals rw [← hle.s] at hS
  all_goals rw [← hle.f] at hF
  all_goals have dW := nW_den hS hF hw
  all_goals have dX1 := nX1_den hS hF hw
  all_goals have dM1 : nM1.den ρ' = _ := nM_den dW
  all_goals have dM2 : nM2.den ρ' = _ := nM_den dM1
  all_goals have dM3 : nM3.den ρ' = _ := nM_den dM2
  all_goals have hc' := (CRel_apd.1 hc).1
  all_goals simp only [kc1, kc2, kc3, kc4, kc5, kc6, kc7, kc16, kc17, kc18, kc19, kc20, kc21, kc22, kc23, kc25, kc27, kc28, kc29, kc30, kc45, kc46, dW, nE1_den, dX1, dM1, dM2, hF, CRel_cons, CRel_nil, BT.den, IT.den, fo50, one1, intCmp, Option.some.injEq, Option.map_some, decide_eq_true_eq, decide_eq_false_iff_not, beq_iff_eq, beq_eq_false_iff_ne, Bool.not_eq_true', Bool.not_eq_false', and_true] at hc'
  all_goals
    first
    | (exfalso; omega)
    | (intro u hu
       simp only [AVal.den, AVal.denL, dX1, IT.den, BT.den, Option.map_some, Option.some.injEq] at hu
       rw [← hu]
       first
         | exact (par_bad hcode pk pa pb (.inl (by show ws.length ≠ 2; omega))).symm
         | exact (par_bad hcode pk pa pb (.inr (.inl (right_neg (by omega))))).symm
         | exact (par_good hcode (by decide) (by show ws.length = 2; omega) pk pa pb hc'.1).symm
         | exact (par_bad hcode pk pa pb (.inr (.inl hc'.1))).symm)
theorem leafQ4 {w0 : World} {ρ : Env} {s : ByteArray} {ws : List (List UInt8)} (hS : ρ.S 5 = s) (hF : ρ.F = FO) (hw : FO 30 (encS s) 0 = encW ws) (hN : ρ.I 2 = encL (numsOf ws)) (hcode : codeOf (ws.getD 0 []) = 4) (h1 : 1 ≤ ws.length) (h2 : ws.length ≤ 10001) : ∀ q ∈ sQ4, SumGood Tryd.prog (βO w0 s) 55 (fun x => x = parV ws) [] ρ q := by
  have pk : parK 4 ws = numL (ws.getD 1 []) := rfl
  have pa : parA 4 ws = 0 := rfl
  have pb : parB 4 ws = 0 := rfl
  intro q hq
  simp only [sQ4, List.mem_cons, List.not_mem_nil, or_false] at hq
  rcases hq with rfl | rfl | rfl | rfl
  all_goals intro ρ' hle hc
  all_goals rw [← hle.s] at hS
  all_goals rw [← hle.f] at hF
  all_goals rw [← hle.i] at hN
  all_goals have dW := nW_den hS hF hw
  all_goals have dY0 := nY0_den hN
  all_goals have hc' := (CRel_apd.1 hc).1
  all_goals simp only [kc3, kc4, kc6, kc7, kc13, kc32, kc33, kc35, kc36, kc47, kc48, dW, dY0, hF, CRel_cons, CRel_nil, BT.den, IT.den, fo50, one1, intBin, intCmp, IntKind.wrap_i64, Option.some.injEq, decide_eq_true_eq, decide_eq_false_iff_not, beq_iff_eq, beq_eq_false_iff_ne, and_true] at hc'
  all_goals
    first
    | (exfalso; omega)
    | (intro u hu
       simp only [AVal.den, AVal.denL, dY0, IT.den, BT.den, Option.map_some, Option.some.injEq] at hu
       rw [← hu]
       first
         | exact (par_bad hcode pk pa pb (.inl (by show ws.length ≠ 2; omega))).symm
         | (have hl : ws.length = 2 := by omega
            simp only [numsOf_get (ws := ws) (j := 0) (by omega)] at hc' ⊢
            first
               | exact (par_good hcode (by decide) hl pk pa pb hc'.1).symm
               | exact (par_bad hcode pk pa pb (.inr (.inl hc'.1))).symm))
theorem leafP5 {w0 : World} {ρ : Env} {s : ByteArray} {ws : List (List UInt8)} (hS : ρ.S 5 = s) (hF : ρ.F = FO) (hw : FO 30 (encS s) 0 = encW ws) (hcode : codeOf (ws.getD 0 []) = 5) (h1 : 1 ≤ ws.length) (h2 : ws.length ≤ 10001) : ∀ q ∈ sP5, SumGood Tryd.prog (βO w0 s) 54 (fun x => x = parV ws) [] ρ q := by
  have pk : parK 5 ws = numL (ws.getD 1 []) := rfl
  have pa : parA 5 ws = numL (ws.getD 2 []) := rfl
  have pb : parB 5 ws = 0 := rfl
  intro q hq
  simp only [sP5, List.mem_cons, List.not_mem_nil, or_false] at hq
  rcases hq with rfl | rfl | rfl | rfl | rfl | rfl | rfl | rfl | rfl | rfl | rfl | rfl | rfl
  all_goals intro ρ' hle hc
  all_goals rw [← hle.s] at hS
  all_goals rw [← hle.f] at hF
  all_goals have dW := nW_den hS hF hw
  all_goals have dX1 := nX1_den hS hF hw
  all_goals have dX2 := nX2_den hS hF hw
  all_goals have dM1 : nM1.den ρ' = _ := nM_den dW
  all_goals have dM2 : nM2.den ρ' = _ := nM_den dM1
  all_goals have dM3 : nM3.den ρ' = _ := nM_den dM2
  all_goals have hc' := (CRel_apd.1 hc).1
  all_goals simp only [kc1, kc2, kc3, kc4, kc5, kc6, kc7, kc16, kc18, kc19, kc20, kc21, kc22, kc23, kc27, kc28, kc29, kc30, kc49, kc50, kc51, kc52, kc53, kc54, kc55, kc56, kc57, kc58, kc59, kc60, kc61, kc62, kc63, dW, nE1_den, nE2_den, dX1, dX2, dM1, dM2, dM3, hF, CRel_cons, CRel_nil, BT.den, IT.den, fo50, one1, intCmp, Option.some.injEq, Option.map_some, decide_eq_true_eq, decide_eq_false_iff_not, beq_iff_eq, beq_eq_false_iff_ne, Bool.not_eq_true', Bool.not_eq_false', and_true] at hc'
  all_goals
    first
    | (exfalso; omega)
    | (intro u hu
       simp only [AVal.den, AVal.denL, dX1, dX2, IT.den, BT.den, Option.map_some, Option.some.injEq] at hu
       rw [← hu]
       first
         | exact (par_bad hcode pk pa pb (.inl (by show ws.length ≠ 3; omega))).symm
         | exact (par_bad hcode pk pa pb (.inr (.inl (right_neg (by omega))))).symm
         | exact (par_good hcode (by decide) (by show ws.length = 3; omega) pk pa pb hc'.1).symm
         | exact (par_bad hcode pk pa pb (.inr (.inl hc'.1))).symm)
theorem leafQ5 {w0 : World} {ρ : Env} {s : ByteArray} {ws : List (List UInt8)} (hS : ρ.S 5 = s) (hF : ρ.F = FO) (hw : FO 30 (encS s) 0 = encW ws) (hN : ρ.I 2 = encL (numsOf ws)) (hcode : codeOf (ws.getD 0 []) = 5) (h1 : 1 ≤ ws.length) (h2 : ws.length ≤ 10001) : ∀ q ∈ sQ5, SumGood Tryd.prog (βO w0 s) 55 (fun x => x = parV ws) [] ρ q := by
  have pk : parK 5 ws = numL (ws.getD 1 []) := rfl
  have pa : parA 5 ws = numL (ws.getD 2 []) := rfl
  have pb : parB 5 ws = 0 := rfl
  intro q hq
  simp only [sQ5, List.mem_cons, List.not_mem_nil, or_false] at hq
  rcases hq with rfl | rfl | rfl | rfl | rfl
  all_goals intro ρ' hle hc
  all_goals rw [← hle.s] at hS
  all_goals rw [← hle.f] at hF
  all_goals rw [← hle.i] at hN
  all_goals have dW := nW_den hS hF hw
  all_goals have dY0 := nY0_den hN
  all_goals have dY1 := nY1_den hN
  all_goals have hc' := (CRel_apd.1 hc).1
  all_goals simp only [kc1, kc3, kc4, kc6, kc7, kc13, kc33, kc36, kc64, kc65, kc66, kc67, kc68, kc69, dW, dY0, dY1, hF, CRel_cons, CRel_nil, BT.den, IT.den, fo50, one1, intBin, intCmp, IntKind.wrap_i64, Option.some.injEq, decide_eq_true_eq, decide_eq_false_iff_not, beq_iff_eq, beq_eq_false_iff_ne, and_true] at hc'
  all_goals
    first
    | (exfalso; omega)
    | (intro u hu
       simp only [AVal.den, AVal.denL, dY0, dY1, IT.den, BT.den, Option.map_some, Option.some.injEq] at hu
       rw [← hu]
       first
         | exact (par_bad hcode pk pa pb (.inl (by show ws.length ≠ 3; omega))).symm
         | (have hl : ws.length = 3 := by omega
            simp only [numsOf_get (ws := ws) (j := 0) (by omega), numsOf_get (ws := ws) (j := 1) (by omega)] at hc' ⊢
            first
               | exact (par_good hcode (by decide) hl pk pa pb hc'.1).symm
               | exact (par_bad hcode pk pa pb (.inr (.inl hc'.1))).symm))
theorem leafP6 {w0 : World} {ρ : Env} {s : ByteArray} {ws : List (List UInt8)} (hS : ρ.S 5 = s) (hF : ρ.F = FO) (hw : FO 30 (encS s) 0 = encW ws) (hcode : codeOf (ws.getD 0 []) = 6) (h1 : 1 ≤ ws.length) (h2 : ws.length ≤ 10001) : ∀ q ∈ sP6, SumGood Tryd.prog (βO w0 s) 54 (fun x => x = parV ws) [] ρ q := by
  have pk : parK 6 ws = numL (ws.getD 1 []) := rfl
  have pa : parA 6 ws = 0 := rfl
  have pb : parB 6 ws = 0 := rfl
  intro q hq
  simp only [sP6, List.mem_cons, List.not_mem_nil, or_false] at hq
  rcases hq with rfl | rfl | rfl | rfl | rfl | rfl | rfl | rfl
  all_goals intro ρ' hle hc
  all_goals rw [← hle.s] at hS
  all_goals rw [← hle.f] at hF
  all_goals have dW := nW_den hS hF hw
  all_goals have dX1 := nX1_den hS hF hw
  all_goals have dM1 : nM1.den ρ' = _ := nM_den dW
  all_goals have dM2 : nM2.den ρ' = _ := nM_den dM1
  all_goals have dM3 : nM3.den ρ' = _ := nM_den dM2
  all_goals have hc' := (CRel_apd.1 hc).1
  all_goals simp only [kc1, kc2, kc3, kc4, kc5, kc6, kc7, kc16, kc17, kc18, kc19, kc20, kc21, kc22, kc23, kc25, kc27, kc28, kc29, kc30, kc70, kc71, dW, nE1_den, dX1, dM1, dM2, hF, CRel_cons, CRel_nil, BT.den, IT.den, fo50, one1, intCmp, Option.some.injEq, Option.map_some, decide_eq_true_eq, decide_eq_false_iff_not, beq_iff_eq, beq_eq_false_iff_ne, Bool.not_eq_true', Bool.not_eq_false', and_true] at hc'
  all_goals
    first
    | (exfalso; omega)
    | (intro u hu
       simp only [AVal.den, AVal.denL, dX1, IT.den, BT.den, Option.map_some, Option.some.injEq] at hu
       rw [← hu]
       first
         | exact (par_bad hcode pk pa pb (.inl (by show ws.length ≠ 2; omega))).symm
         | exact (par_bad hcode pk pa pb (.inr (.inl (right_neg (by omega))))).symm
         | exact (par_good hcode (by decide) (by show ws.length = 2; omega) pk pa pb hc'.1).symm
         | exact (par_bad hcode pk pa pb (.inr (.inl hc'.1))).symm)
theorem leafQ6 {w0 : World} {ρ : Env} {s : ByteArray} {ws : List (List UInt8)} (hS : ρ.S 5 = s) (hF : ρ.F = FO) (hw : FO 30 (encS s) 0 = encW ws) (hN : ρ.I 2 = encL (numsOf ws)) (hcode : codeOf (ws.getD 0 []) = 6) (h1 : 1 ≤ ws.length) (h2 : ws.length ≤ 10001) : ∀ q ∈ sQ6, SumGood Tryd.prog (βO w0 s) 55 (fun x => x = parV ws) [] ρ q := by
  have pk : parK 6 ws = numL (ws.getD 1 []) := rfl
  have pa : parA 6 ws = 0 := rfl
  have pb : parB 6 ws = 0 := rfl
  intro q hq
  simp only [sQ6, List.mem_cons, List.not_mem_nil, or_false] at hq
  rcases hq with rfl | rfl | rfl | rfl
  all_goals intro ρ' hle hc
  all_goals rw [← hle.s] at hS
  all_goals rw [← hle.f] at hF
  all_goals rw [← hle.i] at hN
  all_goals have dW := nW_den hS hF hw
  all_goals have dY0 := nY0_den hN
  all_goals have hc' := (CRel_apd.1 hc).1
  all_goals simp only [kc3, kc4, kc6, kc7, kc13, kc32, kc33, kc35, kc36, kc72, kc73, dW, dY0, hF, CRel_cons, CRel_nil, BT.den, IT.den, fo50, one1, intBin, intCmp, IntKind.wrap_i64, Option.some.injEq, decide_eq_true_eq, decide_eq_false_iff_not, beq_iff_eq, beq_eq_false_iff_ne, and_true] at hc'
  all_goals
    first
    | (exfalso; omega)
    | (intro u hu
       simp only [AVal.den, AVal.denL, dY0, IT.den, BT.den, Option.map_some, Option.some.injEq] at hu
       rw [← hu]
       first
         | exact (par_bad hcode pk pa pb (.inl (by show ws.length ≠ 2; omega))).symm
         | (have hl : ws.length = 2 := by omega
            simp only [numsOf_get (ws := ws) (j := 0) (by omega)] at hc' ⊢
            first
               | exact (par_good hcode (by decide) hl pk pa pb hc'.1).symm
               | exact (par_bad hcode pk pa pb (.inr (.inl hc'.1))).symm))
theorem leafP7 {w0 : World} {ρ : Env} {s : ByteArray} {ws : List (List UInt8)} (hS : ρ.S 5 = s) (hF : ρ.F = FO) (hw : FO 30 (encS s) 0 = encW ws) (hcode : codeOf (ws.getD 0 []) = 7) (h1 : 1 ≤ ws.length) (h2 : ws.length ≤ 10001) : ∀ q ∈ sP7, SumGood Tryd.prog (βO w0 s) 54 (fun x => x = parV ws) [] ρ q := by
  have pk : parK 7 ws = numL (ws.getD 1 []) := rfl
  have pa : parA 7 ws = numL (ws.getD 2 []) := rfl
  have pb : parB 7 ws = numL (ws.getD 3 []) := rfl
  intro q hq
  simp only [sP7, List.mem_cons, List.not_mem_nil, or_false] at hq
  rcases hq with rfl | rfl | rfl | rfl | rfl | rfl | rfl | rfl | rfl | rfl | rfl | rfl | rfl | rfl | rfl | rfl | rfl | rfl
  all_goals intro ρ' hle hc
  all_goals rw [← hle.s] at hS
  all_goals rw [← hle.f] at hF
  all_goals have dW := nW_den hS hF hw
  all_goals have dX1 := nX1_den hS hF hw
  all_goals have dX2 := nX2_den hS hF hw
  all_goals have dX3 := nX3_den hS hF hw
  all_goals have dM1 : nM1.den ρ' = _ := nM_den dW
  all_goals have dM2 : nM2.den ρ' = _ := nM_den dM1
  all_goals have dM3 : nM3.den ρ' = _ := nM_den dM2
  all_goals have dM4 : nM4.den ρ' = _ := nM_den dM3
  all_goals have hc' := (CRel_apd.1 hc).1
  all_goals simp only [kc1, kc2, kc3, kc4, kc5, kc6, kc7, kc16, kc18, kc19, kc20, kc21, kc22, kc23, kc27, kc28, kc29, kc30, kc49, kc51, kc52, kc53, kc54, kc55, kc56, kc60, kc61, kc62, kc63, kc74, kc75, kc76, kc77, kc78, kc79, kc80, kc81, kc82, kc83, kc84, kc85, kc86, kc87, kc88, dW, nE1_den, nE2_den, nE3_den, dX1, dX2, dX3, dM1, dM2, dM3, dM4, hF, CRel_cons, CRel_nil, BT.den, IT.den, fo50, one1, intCmp, Option.some.injEq, Option.map_some, decide_eq_true_eq, decide_eq_false_iff_not, beq_iff_eq, beq_eq_false_iff_ne, Bool.not_eq_true', Bool.not_eq_false', and_true] at hc'
  all_goals
    first
    | (exfalso; omega)
    | (intro u hu
       simp only [AVal.den, AVal.denL, dX1, dX2, dX3, IT.den, BT.den, Option.map_some, Option.some.injEq] at hu
       rw [← hu]
       first
         | exact (par_bad hcode pk pa pb (.inl (by show ws.length ≠ 4; omega))).symm
         | exact (par_bad hcode pk pa pb (.inr (.inl (right_neg (by omega))))).symm
         | exact (par_good hcode (by decide) (by show ws.length = 4; omega) pk pa pb hc'.1).symm
         | exact (par_bad hcode pk pa pb (.inr (.inl hc'.1))).symm)
theorem leafQ7 {w0 : World} {ρ : Env} {s : ByteArray} {ws : List (List UInt8)} (hS : ρ.S 5 = s) (hF : ρ.F = FO) (hw : FO 30 (encS s) 0 = encW ws) (hN : ρ.I 2 = encL (numsOf ws)) (hcode : codeOf (ws.getD 0 []) = 7) (h1 : 1 ≤ ws.length) (h2 : ws.length ≤ 10001) : ∀ q ∈ sQ7, SumGood Tryd.prog (βO w0 s) 55 (fun x => x = parV ws) [] ρ q := by
  have pk : parK 7 ws = numL (ws.getD 1 []) := rfl
  have pa : parA 7 ws = numL (ws.getD 2 []) := rfl
  have pb : parB 7 ws = numL (ws.getD 3 []) := rfl
  intro q hq
  simp only [sQ7, List.mem_cons, List.not_mem_nil, or_false] at hq
  rcases hq with rfl | rfl | rfl | rfl | rfl | rfl
  all_goals intro ρ' hle hc
  all_goals rw [← hle.s] at hS
  all_goals rw [← hle.f] at hF
  all_goals rw [← hle.i] at hN
  all_goals have dW := nW_den hS hF hw
  all_goals have dY0 := nY0_den hN
  all_goals have dY1 := nY1_den hN
  all_goals have dY2 := nY2_den hN
  all_goals have hc' := (CRel_apd.1 hc).1
  all_goals simp only [kc1, kc3, kc4, kc6, kc7, kc13, kc33, kc36, kc66, kc69, kc89, kc90, kc91, kc92, kc93, kc94, kc95, dW, dY0, dY1, dY2, hF, CRel_cons, CRel_nil, BT.den, IT.den, fo50, one1, intBin, intCmp, IntKind.wrap_i64, Option.some.injEq, decide_eq_true_eq, decide_eq_false_iff_not, beq_iff_eq, beq_eq_false_iff_ne, and_true] at hc'
  all_goals
    first
    | (exfalso; omega)
    | (intro u hu
       simp only [AVal.den, AVal.denL, dY0, dY1, dY2, IT.den, BT.den, Option.map_some, Option.some.injEq] at hu
       rw [← hu]
       first
         | exact (par_bad hcode pk pa pb (.inl (by show ws.length ≠ 4; omega))).symm
         | (have hl : ws.length = 4 := by omega
            simp only [numsOf_get (ws := ws) (j := 0) (by omega), numsOf_get (ws := ws) (j := 1) (by omega), numsOf_get (ws := ws) (j := 2) (by omega)] at hc' ⊢
            first
               | exact (par_good hcode (by decide) hl pk pa pb hc'.1).symm
               | exact (par_bad hcode pk pa pb (.inr (.inl hc'.1))).symm))
theorem leafP8 {w0 : World} {ρ : Env} {s : ByteArray} {ws : List (List UInt8)} (hS : ρ.S 5 = s) (hF : ρ.F = FO) (hw : FO 30 (encS s) 0 = encW ws) (hcode : codeOf (ws.getD 0 []) = 8) (h1 : 1 ≤ ws.length) (h2 : ws.length ≤ 10001) : ∀ q ∈ sP8, SumGood Tryd.prog (βO w0 s) 54 (fun x => x = parV ws) [] ρ q := by
  have pk : parK 8 ws = 0 := rfl
  have pa : parA 8 ws = 0 := rfl
  have pb : parB 8 ws = 0 := rfl
  intro q hq
  simp only [sP8, List.mem_cons, List.not_mem_nil, or_false] at hq
  rcases hq with rfl | rfl | rfl
  all_goals intro ρ' hle hc
  all_goals rw [← hle.s] at hS
  all_goals rw [← hle.f] at hF
  all_goals have dW := nW_den hS hF hw
  all_goals have dM1 : nM1.den ρ' = _ := nM_den dW
  all_goals have dM2 : nM2.den ρ' = _ := nM_den dM1
  all_goals have dM3 : nM3.den ρ' = _ := nM_den dM2
  all_goals have hc' := (CRel_apd.1 hc).1
  all_goals simp only [kc0, kc1, kc2, kc3, kc4, kc5, kc6, kc7, kc9, kc96, kc97, dW, dM1, hF, CRel_cons, CRel_nil, BT.den, IT.den, fo50, one1, intCmp, Option.some.injEq, Option.map_some, decide_eq_true_eq, decide_eq_false_iff_not, Bool.not_eq_true', Bool.not_eq_false', and_true] at hc'
  all_goals
    first
    | (intro u hu
       simp only [AVal.den, AVal.denL, IT.den, BT.den, Option.map_some, Option.some.injEq] at hu
       rw [← hu]
       first
         | exact (par_bad hcode pk pa pb (.inl (by show ws.length ≠ 1; omega))).symm
         | exact (par_bad hcode pk pa pb (.inr (.inl (right_neg (by omega))))).symm
         | exact (par_good hcode (by decide) (by show ws.length = 1; omega) pk pa pb hc'.1).symm
         | exact (par_bad hcode pk pa pb (.inr (.inl hc'.1))).symm)
theorem leafQ8 {w0 : World} {ρ : Env} {s : ByteArray} {ws : List (List UInt8)} (hS : ρ.S 5 = s) (hF : ρ.F = FO) (hw : FO 30 (encS s) 0 = encW ws) (hN : ρ.I 2 = encL (numsOf ws)) (hcode : codeOf (ws.getD 0 []) = 8) (h1 : 1 ≤ ws.length) (h2 : ws.length ≤ 10001) : ∀ q ∈ sQ8, SumGood Tryd.prog (βO w0 s) 55 (fun x => x = parV ws) [] ρ q := by
  have pk : parK 8 ws = 0 := rfl
  have pa : parA 8 ws = 0 := rfl
  have pb : parB 8 ws = 0 := rfl
  intro q hq
  simp only [sQ8, List.mem_cons, List.not_mem_nil, or_false] at hq
  rcases hq with rfl | rfl | rfl
  all_goals intro ρ' hle hc
  all_goals rw [← hle.s] at hS
  all_goals rw [← hle.f] at hF
  all_goals rw [← hle.i] at hN
  all_goals have dW := nW_den hS hF hw
  all_goals have hc' := (CRel_apd.1 hc).1
  all_goals simp only [kc3, kc4, kc6, kc7, kc12, kc13, kc15, kc98, kc99, dW, hF, CRel_cons, CRel_nil, BT.den, IT.den, fo50, one1, intBin, intCmp, IntKind.wrap_i64, Option.some.injEq, decide_eq_true_eq, beq_iff_eq, beq_eq_false_iff_ne, and_true] at hc'
  all_goals
    first
    | (intro u hu
       simp only [AVal.den, AVal.denL, IT.den, BT.den, Option.map_some, Option.some.injEq] at hu
       rw [← hu]
       first
         | exact (par_bad hcode pk pa pb (.inl (by show ws.length ≠ 1; omega))).symm
         | exact (par_good hcode (by decide) (by show ws.length = 1; omega) pk pa pb hc'.1).symm
         | exact (par_bad hcode pk pa pb (.inr (.inl hc'.1))).symm)
theorem leafP9 {w0 : World} {ρ : Env} {s : ByteArray} {ws : List (List UInt8)} (hS : ρ.S 5 = s) (hF : ρ.F = FO) (hw : FO 30 (encS s) 0 = encW ws) (hcode : codeOf (ws.getD 0 []) = 9) (h1 : 1 ≤ ws.length) (h2 : ws.length ≤ 10001) : ∀ q ∈ sP9, SumGood Tryd.prog (βO w0 s) 54 (fun x => x = parV ws) [] ρ q := by
  have pk : parK 9 ws = numL (ws.getD 1 []) := rfl
  have pa : parA 9 ws = 0 := rfl
  have pb : parB 9 ws = 0 := rfl
  intro q hq
  simp only [sP9, List.mem_cons, List.not_mem_nil, or_false] at hq
  rcases hq with rfl | rfl | rfl | rfl | rfl | rfl | rfl | rfl
  all_goals intro ρ' hle hc
  all_goals rw [← hle.s] at hS
  all_goals rw [← hle.f] at hF
  all_goals have dW := nW_den hS hF hw
  all_goals have dX1 := nX1_den hS hF hw
  all_goals have dM1 : nM1.den ρ' = _ := nM_den dW
  all_goals have dM2 : nM2.den ρ' = _ := nM_den dM1
  all_goals have dM3 : nM3.den ρ' = _ := nM_den dM2
  all_goals have hc' := (CRel_apd.1 hc).1
  all_goals simp only [kc1, kc2, kc3, kc4, kc5, kc6, kc7, kc16, kc17, kc18, kc19, kc20, kc21, kc22, kc23, kc25, kc27, kc28, kc29, kc30, kc100, kc101, dW, nE1_den, dX1, dM1, dM2, hF, CRel_cons, CRel_nil, BT.den, IT.den, fo50, one1, intCmp, Option.some.injEq, Option.map_some, decide_eq_true_eq, decide_eq_false_iff_not, beq_iff_eq, beq_eq_false_iff_ne, Bool.not_eq_true', Bool.not_eq_false', and_true] at hc'
  all_goals
    first
    | (exfalso; omega)
    | (intro u hu
       simp only [AVal.den, AVal.denL, dX1, IT.den, BT.den, Option.map_some, Option.some.injEq] at hu
       rw [← hu]
       first
         | exact (par_bad hcode pk pa pb (.inl (by show ws.length ≠ 2; omega))).symm
         | exact (par_bad hcode pk pa pb (.inr (.inl (right_neg (by omega))))).symm
         | exact (par_good hcode (by decide) (by show ws.length = 2; omega) pk pa pb hc'.1).symm
         | exact (par_bad hcode pk pa pb (.inr (.inl hc'.1))).symm)
theorem leafQ9 {w0 : World} {ρ : Env} {s : ByteArray} {ws : List (List UInt8)} (hS : ρ.S 5 = s) (hF : ρ.F = FO) (hw : FO 30 (encS s) 0 = encW ws) (hN : ρ.I 2 = encL (numsOf ws)) (hcode : codeOf (ws.getD 0 []) = 9) (h1 : 1 ≤ ws.length) (h2 : ws.length ≤ 10001) : ∀ q ∈ sQ9, SumGood Tryd.prog (βO w0 s) 55 (fun x => x = parV ws) [] ρ q := by
  have pk : parK 9 ws = numL (ws.getD 1 []) := rfl
  have pa : parA 9 ws = 0 := rfl
  have pb : parB 9 ws = 0 := rfl
  intro q hq
  simp only [sQ9, List.mem_cons, List.not_mem_nil, or_false] at hq
  rcases hq with rfl | rfl | rfl | rfl
  all_goals intro ρ' hle hc
  all_goals rw [← hle.s] at hS
  all_goals rw [← hle.f] at hF
  all_goals rw [← hle.i] at hN
  all_goals have dW := nW_den hS hF hw
  all_goals have dY0 := nY0_den hN
  all_goals have hc' := (CRel_apd.1 hc).1
  all_goals simp only [kc3, kc4, kc6, kc7, kc13, kc32, kc33, kc35, kc36, kc102, kc103, dW, dY0, hF, CRel_cons, CRel_nil, BT.den, IT.den, fo50, one1, intBin, intCmp, IntKind.wrap_i64, Option.some.injEq, decide_eq_true_eq, decide_eq_false_iff_not, beq_iff_eq, beq_eq_false_iff_ne, and_true] at hc'
  all_goals
    first
    | (exfalso; omega)
    | (intro u hu
       simp only [AVal.den, AVal.denL, dY0, IT.den, BT.den, Option.map_some, Option.some.injEq] at hu
       rw [← hu]
       first
         | exact (par_bad hcode pk pa pb (.inl (by show ws.length ≠ 2; omega))).symm
         | (have hl : ws.length = 2 := by omega
            simp only [numsOf_get (ws := ws) (j := 0) (by omega)] at hc' ⊢
            first
               | exact (par_good hcode (by decide) hl pk pa pb hc'.1).symm
               | exact (par_bad hcode pk pa pb (.inr (.inl hc'.1))).symm))
theorem leafP10 {w0 : World} {ρ : Env} {s : ByteArray} {ws : List (List UInt8)} (hS : ρ.S 5 = s) (hF : ρ.F = FO) (hw : FO 30 (encS s) 0 = encW ws) (hcode : codeOf (ws.getD 0 []) = 10) (h1 : 1 ≤ ws.length) (h2 : ws.length ≤ 10001) : ∀ q ∈ sP10, SumGood Tryd.prog (βO w0 s) 54 (fun x => x = parV ws) [] ρ q := by
  have pk : parK 10 ws = numL (ws.getD 1 []) := rfl
  have pa : parA 10 ws = numL (ws.getD 2 []) := rfl
  have pb : parB 10 ws = 0 := rfl
  intro q hq
  simp only [sP10, List.mem_cons, List.not_mem_nil, or_false] at hq
  rcases hq with rfl | rfl | rfl | rfl | rfl | rfl | rfl | rfl | rfl | rfl | rfl | rfl | rfl
  all_goals intro ρ' hle hc
  all_goals rw [← hle.s] at hS
  all_goals rw [← hle.f] at hF
  all_goals have dW := nW_den hS hF hw
  all_goals have dX1 := nX1_den hS hF hw
  all_goals have dX2 := nX2_den hS hF hw
  all_goals have dM1 : nM1.den ρ' = _ := nM_den dW
  all_goals have dM2 : nM2.den ρ' = _ := nM_den dM1
  all_goals have dM3 : nM3.den ρ' = _ := nM_den dM2
  all_goals have hc' := (CRel_apd.1 hc).1
  all_goals simp only [kc1, kc2, kc3, kc4, kc5, kc6, kc7, kc16, kc18, kc19, kc20, kc21, kc22, kc23, kc27, kc28, kc29, kc30, kc49, kc50, kc51, kc52, kc53, kc54, kc55, kc56, kc58, kc60, kc61, kc62, kc63, kc104, kc105, dW, nE1_den, nE2_den, dX1, dX2, dM1, dM2, dM3, hF, CRel_cons, CRel_nil, BT.den, IT.den, fo50, one1, intCmp, Option.some.injEq, Option.map_some, decide_eq_true_eq, decide_eq_false_iff_not, beq_iff_eq, beq_eq_false_iff_ne, Bool.not_eq_true', Bool.not_eq_false', and_true] at hc'
  all_goals
    first
    | (exfalso; omega)
    | (intro u hu
       simp only [AVal.den, AVal.denL, dX1, dX2, IT.den, BT.den, Option.map_some, Option.some.injEq] at hu
       rw [← hu]
       first
         | exact (par_bad hcode pk pa pb (.inl (by show ws.length ≠ 3; omega))).symm
         | exact (par_bad hcode pk pa pb (.inr (.inl (right_neg (by omega))))).symm
         | exact (par_good hcode (by decide) (by show ws.length = 3; omega) pk pa pb hc'.1).symm
         | exact (par_bad hcode pk pa pb (.inr (.inl hc'.1))).symm)
theorem leafQ10 {w0 : World} {ρ : Env} {s : ByteArray} {ws : List (List UInt8)} (hS : ρ.S 5 = s) (hF : ρ.F = FO) (hw : FO 30 (encS s) 0 = encW ws) (hN : ρ.I 2 = encL (numsOf ws)) (hcode : codeOf (ws.getD 0 []) = 10) (h1 : 1 ≤ ws.length) (h2 : ws.length ≤ 10001) : ∀ q ∈ sQ10, SumGood Tryd.prog (βO w0 s) 55 (fun x => x = parV ws) [] ρ q := by
  have pk : parK 10 ws = numL (ws.getD 1 []) := rfl
  have pa : parA 10 ws = numL (ws.getD 2 []) := rfl
  have pb : parB 10 ws = 0 := rfl
  intro q hq
  simp only [sQ10, List.mem_cons, List.not_mem_nil, or_false] at hq
  rcases hq with rfl | rfl | rfl | rfl | rfl
  all_goals intro ρ' hle hc
  all_goals rw [← hle.s] at hS
  all_goals rw [← hle.f] at hF
  all_goals rw [← hle.i] at hN
  all_goals have dW := nW_den hS hF hw
  all_goals have dY0 := nY0_den hN
  all_goals have dY1 := nY1_den hN
  all_goals have hc' := (CRel_apd.1 hc).1
  all_goals simp only [kc1, kc3, kc4, kc6, kc7, kc13, kc33, kc36, kc65, kc66, kc68, kc69, kc106, kc107, dW, dY0, dY1, hF, CRel_cons, CRel_nil, BT.den, IT.den, fo50, one1, intBin, intCmp, IntKind.wrap_i64, Option.some.injEq, decide_eq_true_eq, decide_eq_false_iff_not, beq_iff_eq, beq_eq_false_iff_ne, and_true] at hc'
  all_goals
    first
    | (exfalso; omega)
    | (intro u hu
       simp only [AVal.den, AVal.denL, dY0, dY1, IT.den, BT.den, Option.map_some, Option.some.injEq] at hu
       rw [← hu]
       first
         | exact (par_bad hcode pk pa pb (.inl (by show ws.length ≠ 3; omega))).symm
         | (have hl : ws.length = 3 := by omega
            simp only [numsOf_get (ws := ws) (j := 0) (by omega), numsOf_get (ws := ws) (j := 1) (by omega)] at hc' ⊢
            first
               | exact (par_good hcode (by decide) hl pk pa pb hc'.1).symm
               | exact (par_bad hcode pk pa pb (.inr (.inl hc'.1))).symm))
theorem leafP11 {w0 : World} {ρ : Env} {s : ByteArray} {ws : List (List UInt8)} (hS : ρ.S 5 = s) (hF : ρ.F = FO) (hw : FO 30 (encS s) 0 = encW ws) (hcode : codeOf (ws.getD 0 []) = 11) (h1 : 1 ≤ ws.length) (h2 : ws.length ≤ 10001) : ∀ q ∈ sP11, SumGood Tryd.prog (βO w0 s) 54 (fun x => x = parV ws) [] ρ q := by
  have pk : parK 11 ws = numL (ws.getD 1 []) := rfl
  have pa : parA 11 ws = 0 := rfl
  have pb : parB 11 ws = 0 := rfl
  intro q hq
  simp only [sP11, List.mem_cons, List.not_mem_nil, or_false] at hq
  rcases hq with rfl | rfl | rfl | rfl | rfl | rfl | rfl | rfl
  all_goals intro ρ' hle hc
  all_goals rw [← hle.s] at hS
  all_goals rw [← hle.f] at hF
  all_goals have dW := nW_den hS hF hw
  all_goals have dX1 := nX1_den hS hF hw
  all_goals have dM1 : nM1.den ρ' = _ := nM_den dW
  all_goals have dM2 : nM2.den ρ' = _ := nM_den dM1
  all_goals have dM3 : nM3.den ρ' = _ := nM_den dM2
  all_goals have hc' := (CRel_apd.1 hc).1
  all_goals simp only [kc1, kc2, kc3, kc4, kc5, kc6, kc7, kc16, kc17, kc18, kc19, kc20, kc21, kc22, kc23, kc25, kc27, kc28, kc29, kc30, kc108, kc109, dW, nE1_den, dX1, dM1, dM2, hF, CRel_cons, CRel_nil, BT.den, IT.den, fo50, one1, intCmp, Option.some.injEq, Option.map_some, decide_eq_true_eq, decide_eq_false_iff_not, beq_iff_eq, beq_eq_false_iff_ne, Bool.not_eq_true', Bool.not_eq_false', and_true] at hc'
  all_goals
    first
    | (exfalso; omega)
    | (intro u hu
       simp only [AVal.den, AVal.denL, dX1, IT.den, BT.den, Option.map_some, Option.some.injEq] at hu
       rw [← hu]
       first
         | exact (par_bad hcode pk pa pb (.inl (by show ws.length ≠ 2; omega))).symm
         | exact (par_bad hcode pk pa pb (.inr (.inl (right_neg (by omega))))).symm
         | exact (par_good hcode (by decide) (by show ws.length = 2; omega) pk pa pb hc'.1).symm
         | exact (par_bad hcode pk pa pb (.inr (.inl hc'.1))).symm)
theorem leafQ11 {w0 : World} {ρ : Env} {s : ByteArray} {ws : List (List UInt8)} (hS : ρ.S 5 = s) (hF : ρ.F = FO) (hw : FO 30 (encS s) 0 = encW ws) (hN : ρ.I 2 = encL (numsOf ws)) (hcode : codeOf (ws.getD 0 []) = 11) (h1 : 1 ≤ ws.length) (h2 : ws.length ≤ 10001) : ∀ q ∈ sQ11, SumGood Tryd.prog (βO w0 s) 55 (fun x => x = parV ws) [] ρ q := by
  have pk : parK 11 ws = numL (ws.getD 1 []) := rfl
  have pa : parA 11 ws = 0 := rfl
  have pb : parB 11 ws = 0 := rfl
  intro q hq
  simp only [sQ11, List.mem_cons, List.not_mem_nil, or_false] at hq
  rcases hq with rfl | rfl | rfl | rfl
  all_goals intro ρ' hle hc
  all_goals rw [← hle.s] at hS
  all_goals rw [← hle.f] at hF
  all_goals rw [← hle.i] at hN
  all_goals have dW := nW_den hS hF hw
  all_goals have dY0 := nY0_den hN
  all_goals have hc' := (CRel_apd.1 hc).1
  all_goals simp only [kc3, kc4, kc6, kc7, kc13, kc32, kc33, kc35, kc36, kc110, kc111, dW, dY0, hF, CRel_cons, CRel_nil, BT.den, IT.den, fo50, one1, intBin, intCmp, IntKind.wrap_i64, Option.some.injEq, decide_eq_true_eq, decide_eq_false_iff_not, beq_iff_eq, beq_eq_false_iff_ne, and_true] at hc'
  all_goals
    first
    | (exfalso; omega)
    | (intro u hu
       simp only [AVal.den, AVal.denL, dY0, IT.den, BT.den, Option.map_some, Option.some.injEq] at hu
       rw [← hu]
       first
         | exact (par_bad hcode pk pa pb (.inl (by show ws.length ≠ 2; omega))).symm
         | (have hl : ws.length = 2 := by omega
            simp only [numsOf_get (ws := ws) (j := 0) (by omega)] at hc' ⊢
            first
               | exact (par_good hcode (by decide) hl pk pa pb hc'.1).symm
               | exact (par_bad hcode pk pa pb (.inr (.inl hc'.1))).symm))
theorem leafP12 {w0 : World} {ρ : Env} {s : ByteArray} {ws : List (List UInt8)} (hS : ρ.S 5 = s) (hF : ρ.F = FO) (hw : FO 30 (encS s) 0 = encW ws) (hcode : codeOf (ws.getD 0 []) = 12) (h1 : 1 ≤ ws.length) (h2 : ws.length ≤ 10001) : ∀ q ∈ sP12, SumGood Tryd.prog (βO w0 s) 54 (fun x => x = parV ws) [] ρ q := by
  have pk : parK 12 ws = numL (ws.getD 1 []) := rfl
  have pa : parA 12 ws = 0 := rfl
  have pb : parB 12 ws = 0 := rfl
  intro q hq
  simp only [sP12, List.mem_cons, List.not_mem_nil, or_false] at hq
  rcases hq with rfl | rfl | rfl | rfl | rfl | rfl | rfl | rfl
  all_goals intro ρ' hle hc
  all_goals rw [← hle.s] at hS
  all_goals rw [← hle.f] at hF
  all_goals have dW := nW_den hS hF hw
  all_goals have dX1 := nX1_den hS hF hw
  all_goals have dM1 : nM1.den ρ' = _ := nM_den dW
  all_goals have dM2 : nM2.den ρ' = _ := nM_den dM1
  all_goals have dM3 : nM3.den ρ' = _ := nM_den dM2
  all_goals have hc' := (CRel_apd.1 hc).1
  all_goals simp only [kc1, kc2, kc3, kc4, kc5, kc6, kc7, kc16, kc17, kc18, kc19, kc20, kc21, kc22, kc23, kc25, kc27, kc28, kc29, kc30, kc112, kc113, dW, nE1_den, dX1, dM1, dM2, hF, CRel_cons, CRel_nil, BT.den, IT.den, fo50, one1, intCmp, Option.some.injEq, Option.map_some, decide_eq_true_eq, decide_eq_false_iff_not, beq_iff_eq, beq_eq_false_iff_ne, Bool.not_eq_true', Bool.not_eq_false', and_true] at hc'
  all_goals
    first
    | (exfalso; omega)
    | (intro u hu
       simp only [AVal.den, AVal.denL, dX1, IT.den, BT.den, Option.map_some, Option.some.injEq] at hu
       rw [← hu]
       first
         | exact (par_bad hcode pk pa pb (.inl (by show ws.length ≠ 2; omega))).symm
         | exact (par_bad hcode pk pa pb (.inr (.inl (right_neg (by omega))))).symm
         | exact (par_good hcode (by decide) (by show ws.length = 2; omega) pk pa pb hc'.1).symm
         | exact (par_bad hcode pk pa pb (.inr (.inl hc'.1))).symm)
theorem leafQ12 {w0 : World} {ρ : Env} {s : ByteArray} {ws : List (List UInt8)} (hS : ρ.S 5 = s) (hF : ρ.F = FO) (hw : FO 30 (encS s) 0 = encW ws) (hN : ρ.I 2 = encL (numsOf ws)) (hcode : codeOf (ws.getD 0 []) = 12) (h1 : 1 ≤ ws.length) (h2 : ws.length ≤ 10001) : ∀ q ∈ sQ12, SumGood Tryd.prog (βO w0 s) 55 (fun x => x = parV ws) [] ρ q := by
  have pk : parK 12 ws = numL (ws.getD 1 []) := rfl
  have pa : parA 12 ws = 0 := rfl
  have pb : parB 12 ws = 0 := rfl
  intro q hq
  simp only [sQ12, List.mem_cons, List.not_mem_nil, or_false] at hq
  rcases hq with rfl | rfl | rfl | rfl
  all_goals intro ρ' hle hc
  all_goals rw [← hle.s] at hS
  all_goals rw [← hle.f] at hF
  all_goals rw [← hle.i] at hN
  all_goals have dW := nW_den hS hF hw
  all_goals have dY0 := nY0_den hN
  all_goals have hc' := (CRel_apd.1 hc).1
  all_goals simp only [kc3, kc4, kc6, kc7, kc13, kc32, kc33, kc35, kc36, kc114, kc115, dW, dY0, hF, CRel_cons, CRel_nil, BT.den, IT.den, fo50, one1, intBin, intCmp, IntKind.wrap_i64, Option.some.injEq, decide_eq_true_eq, decide_eq_false_iff_not, beq_iff_eq, beq_eq_false_iff_ne, and_true] at hc'
  all_goals
    first
    | (exfalso; omega)
    | (intro u hu
       simp only [AVal.den, AVal.denL, dY0, IT.den, BT.den, Option.map_some, Option.some.injEq] at hu
       rw [← hu]
       first
         | exact (par_bad hcode pk pa pb (.inl (by show ws.length ≠ 2; omega))).symm
         | (have hl : ws.length = 2 := by omega
            simp only [numsOf_get (ws := ws) (j := 0) (by omega)] at hc' ⊢
            first
               | exact (par_good hcode (by decide) hl pk pa pb hc'.1).symm
               | exact (par_bad hcode pk pa pb (.inr (.inl hc'.1))).symm))
theorem leafP13 {w0 : World} {ρ : Env} {s : ByteArray} {ws : List (List UInt8)} (hS : ρ.S 5 = s) (hF : ρ.F = FO) (hw : FO 30 (encS s) 0 = encW ws) (hcode : codeOf (ws.getD 0 []) = 13) (h1 : 1 ≤ ws.length) (h2 : ws.length ≤ 10001) : ∀ q ∈ sP13, SumGood Tryd.prog (βO w0 s) 54 (fun x => x = parV ws) [] ρ q := by
  have pk : parK 13 ws = numL (ws.getD 1 []) := rfl
  have pa : parA 13 ws = 0 := rfl
  have pb : parB 13 ws = 0 := rfl
  intro q hq
  simp only [sP13, List.mem_cons, List.not_mem_nil, or_false] at hq
  rcases hq with rfl | rfl | rfl | rfl | rfl | rfl | rfl | rfl
  all_goals intro ρ' hle hc
  all_goals rw [← hle.s] at hS
  all_goals rw [← hle.f] at hF
  all_goals have dW := nW_den hS hF hw
  all_goals have dX1 := nX1_den hS hF hw
  all_goals have dM1 : nM1.den ρ' = _ := nM_den dW
  all_goals have dM2 : nM2.den ρ' = _ := nM_den dM1
  all_goals have dM3 : nM3.den ρ' = _ := nM_den dM2
  all_goals have hc' := (CRel_apd.1 hc).1
  all_goals simp only [kc1, kc2, kc3, kc4, kc5, kc6, kc7, kc16, kc17, kc18, kc19, kc20, kc21, kc22, kc23, kc25, kc27, kc28, kc29, kc30, kc116, kc117, dW, nE1_den, dX1, dM1, dM2, hF, CRel_cons, CRel_nil, BT.den, IT.den, fo50, one1, intCmp, Option.some.injEq, Option.map_some, decide_eq_true_eq, decide_eq_false_iff_not, beq_iff_eq, beq_eq_false_iff_ne, Bool.not_eq_true', Bool.not_eq_false', and_true] at hc'
  all_goals
    first
    | (exfalso; omega)
    | (intro u hu
       simp only [AVal.den, AVal.denL, dX1, IT.den, BT.den, Option.map_some, Option.some.injEq] at hu
       rw [← hu]
       first
         | exact (par_bad hcode pk pa pb (.inl (by show ws.length ≠ 2; omega))).symm
         | exact (par_bad hcode pk pa pb (.inr (.inl (right_neg (by omega))))).symm
         | exact (par_good hcode (by decide) (by show ws.length = 2; omega) pk pa pb hc'.1).symm
         | exact (par_bad hcode pk pa pb (.inr (.inl hc'.1))).symm)
theorem leafQ13 {w0 : World} {ρ : Env} {s : ByteArray} {ws : List (List UInt8)} (hS : ρ.S 5 = s) (hF : ρ.F = FO) (hw : FO 30 (encS s) 0 = encW ws) (hN : ρ.I 2 = encL (numsOf ws)) (hcode : codeOf (ws.getD 0 []) = 13) (h1 : 1 ≤ ws.length) (h2 : ws.length ≤ 10001) : ∀ q ∈ sQ13, SumGood Tryd.prog (βO w0 s) 55 (fun x => x = parV ws) [] ρ q := by
  have pk : parK 13 ws = numL (ws.getD 1 []) := rfl
  have pa : parA 13 ws = 0 := rfl
  have pb : parB 13 ws = 0 := rfl
  intro q hq
  simp only [sQ13, List.mem_cons, List.not_mem_nil, or_false] at hq
  rcases hq with rfl | rfl | rfl | rfl
  all_goals intro ρ' hle hc
  all_goals rw [← hle.s] at hS
  all_goals rw [← hle.f] at hF
  all_goals rw [← hle.i] at hN
  all_goals have dW := nW_den hS hF hw
  all_goals have dY0 := nY0_den hN
  all_goals have hc' := (CRel_apd.1 hc).1
  all_goals simp only [kc3, kc4, kc6, kc7, kc13, kc32, kc33, kc35, kc36, kc118, kc119, dW, dY0, hF, CRel_cons, CRel_nil, BT.den, IT.den, fo50, one1, intBin, intCmp, IntKind.wrap_i64, Option.some.injEq, decide_eq_true_eq, decide_eq_false_iff_not, beq_iff_eq, beq_eq_false_iff_ne, and_true] at hc'
  all_goals
    first
    | (exfalso; omega)
    | (intro u hu
       simp only [AVal.den, AVal.denL, dY0, IT.den, BT.den, Option.map_some, Option.some.injEq] at hu
       rw [← hu]
       first
         | exact (par_bad hcode pk pa pb (.inl (by show ws.length ≠ 2; omega))).symm
         | (have hl : ws.length = 2 := by omega
            simp only [numsOf_get (ws := ws) (j := 0) (by omega)] at hc' ⊢
            first
               | exact (par_good hcode (by decide) hl pk pa pb hc'.1).symm
               | exact (par_bad hcode pk pa pb (.inr (.inl hc'.1))).symm))
theorem leafP14 {w0 : World} {ρ : Env} {s : ByteArray} {ws : List (List UInt8)} (hS : ρ.S 5 = s) (hF : ρ.F = FO) (hw : FO 30 (encS s) 0 = encW ws) (hcode : codeOf (ws.getD 0 []) = 14) (h1 : 1 ≤ ws.length) (h2 : ws.length ≤ 10001) : ∀ q ∈ sP14, SumGood Tryd.prog (βO w0 s) 54 (fun x => x = parV ws) [] ρ q := by
  have pk : parK 14 ws = numL (ws.getD 1 []) := rfl
  have pa : parA 14 ws = 0 := rfl
  have pb : parB 14 ws = 0 := rfl
  intro q hq
  simp only [sP14, List.mem_cons, List.not_mem_nil, or_false] at hq
  rcases hq with rfl | rfl | rfl | rfl | rfl | rfl | rfl | rfl
  all_goals intro ρ' hle hc
  all_goals rw [← hle.s] at hS
  all_goals rw [← hle.f] at hF
  all_goals have dW := nW_den hS hF hw
  all_goals have dX1 := nX1_den hS hF hw
  all_goals have dM1 : nM1.den ρ' = _ := nM_den dW
  all_goals have dM2 : nM2.den ρ' = _ := nM_den dM1
  all_goals have dM3 : nM3.den ρ' = _ := nM_den dM2
  all_goals have hc' := (CRel_apd.1 hc).1
  all_goals simp only [kc1, kc2, kc3, kc4, kc5, kc6, kc7, kc16, kc17, kc18, kc19, kc20, kc21, kc22, kc23, kc25, kc27, kc28, kc29, kc30, kc120, kc121, dW, nE1_den, dX1, dM1, dM2, hF, CRel_cons, CRel_nil, BT.den, IT.den, fo50, one1, intCmp, Option.some.injEq, Option.map_some, decide_eq_true_eq, decide_eq_false_iff_not, beq_iff_eq, beq_eq_false_iff_ne, Bool.not_eq_true', Bool.not_eq_false', and_true] at hc'
  all_goals
    first
    | (exfalso; omega)
    | (intro u hu
       simp only [AVal.den, AVal.denL, dX1, IT.den, BT.den, Option.map_some, Option.some.injEq] at hu
       rw [← hu]
       first
         | exact (par_bad hcode pk pa pb (.inl (by show ws.length ≠ 2; omega))).symm
         | exact (par_bad hcode pk pa pb (.inr (.inl (right_neg (by omega))))).symm
         | exact (par_good hcode (by decide) (by show ws.length = 2; omega) pk pa pb hc'.1).symm
         | exact (par_bad hcode pk pa pb (.inr (.inl hc'.1))).symm)
theorem leafQ14 {w0 : World} {ρ : Env} {s : ByteArray} {ws : List (List UInt8)} (hS : ρ.S 5 = s) (hF : ρ.F = FO) (hw : FO 30 (encS s) 0 = encW ws) (hN : ρ.I 2 = encL (numsOf ws)) (hcode : codeOf (ws.getD 0 []) = 14) (h1 : 1 ≤ ws.length) (h2 : ws.length ≤ 10001) : ∀ q ∈ sQ14, SumGood Tryd.prog (βO w0 s) 55 (fun x => x = parV ws) [] ρ q := by
  have pk : parK 14 ws = numL (ws.getD 1 []) := rfl
  have pa : parA 14 ws = 0 := rfl
  have pb : parB 14 ws = 0 := rfl
  intro q hq
  simp only [sQ14, List.mem_cons, List.not_mem_nil, or_false] at hq
  rcases hq with rfl | rfl | rfl | rfl
  all_goals intro ρ' hle hc
  all_goals rw [← hle.s] at hS
  all_goals rw [← hle.f] at hF
  all_goals rw [← hle.i] at hN
  all_goals have dW := nW_den hS hF hw
  all_goals have dY0 := nY0_den hN
  all_goals have hc' := (CRel_apd.1 hc).1
  all_goals simp only [kc3, kc4, kc6, kc7, kc13, kc32, kc33, kc35, kc36, kc122, kc123, dW, dY0, hF, CRel_cons, CRel_nil, BT.den, IT.den, fo50, one1, intBin, intCmp, IntKind.wrap_i64, Option.some.injEq, decide_eq_true_eq, decide_eq_false_iff_not, beq_iff_eq, beq_eq_false_iff_ne, and_true] at hc'
  all_goals
    first
    | (exfalso; omega)
    | (intro u hu
       simp only [AVal.den, AVal.denL, dY0, IT.den, BT.den, Option.map_some, Option.some.injEq] at hu
       rw [← hu]
       first
         | exact (par_bad hcode pk pa pb (.inl (by show ws.length ≠ 2; omega))).symm
         | (have hl : ws.length = 2 := by omega
            simp only [numsOf_get (ws := ws) (j := 0) (by omega)] at hc' ⊢
            first
               | exact (par_good hcode (by decide) hl pk pa pb hc'.1).symm
               | exact (par_bad hcode pk pa pb (.inr (.inl hc'.1))).symm))
theorem leafP15 {w0 : World} {ρ : Env} {s : ByteArray} {ws : List (List UInt8)} (hS : ρ.S 5 = s) (hF : ρ.F = FO) (hw : FO 30 (encS s) 0 = encW ws) (hcode : codeOf (ws.getD 0 []) = 15) (h1 : 1 ≤ ws.length) (h2 : ws.length ≤ 10001) : ∀ q ∈ sP15, SumGood Tryd.prog (βO w0 s) 54 (fun x => x = parV ws) [] ρ q := by
  have pk : parK 15 ws = parK 15 ws := rfl
  have pa : parA 15 ws = parA 15 ws := rfl
  have pb : parB 15 ws = parB 15 ws := rfl
  intro q hq
  simp only [sP15, List.mem_cons, List.not_mem_nil, or_false] at hq
  subst hq
  all_goals intro ρ' hle hc
  all_goals rw [← hle.s] at hS
  all_goals rw [← hle.f] at hF
  all_goals have dW := nW_den hS hF hw
  all_goals have hc' := (CRel_apd.1 hc).1
  all_goals simp only [kc3, kc4, kc5, kc6, kc7, dW, CRel_cons, CRel_nil, BT.den, IT.den, intCmp, Option.some.injEq, decide_eq_true_eq, and_true] at hc'
  all_goals
    first
    | (intro u hu
       simp only [AVal.den, AVal.denL, IT.den, BT.den, Option.map_some, Option.some.injEq] at hu
       rw [← hu]
       first
         | exact (par_bad hcode pk pa pb (.inr (.inr (Nat.le_refl _)))).symm)
theorem leafQ15 {w0 : World} {ρ : Env} {s : ByteArray} {ws : List (List UInt8)} (hS : ρ.S 5 = s) (hF : ρ.F = FO) (hw : FO 30 (encS s) 0 = encW ws) (hN : ρ.I 2 = encL (numsOf ws)) (hcode : codeOf (ws.getD 0 []) = 15) (h1 : 1 ≤ ws.length) (h2 : ws.length ≤ 10001) : ∀ q ∈ sQ15, SumGood Tryd.prog (βO w0 s) 55 (fun x => x = parV ws) [] ρ q := by
  have pk : parK 15 ws = parK 15 ws := rfl
  have pa : parA 15 ws = parA 15 ws := rfl
  have pb : parB 15 ws = parB 15 ws := rfl
  intro q hq
  simp only [sQ15, List.mem_cons, List.not_mem_nil, or_false] at hq
  subst hq
  all_goals intro ρ' hle hc
  all_goals rw [← hle.s] at hS
  all_goals rw [← hle.f] at hF
  all_goals rw [← hle.i] at hN
  all_goals have dW := nW_den hS hF hw
  all_goals have hc' := (CRel_apd.1 hc).1
  all_goals simp only [kc3, kc4, kc6, kc7, kc13, dW, CRel_cons, CRel_nil, BT.den, IT.den, intBin, intCmp, IntKind.wrap_i64, Option.some.injEq, decide_eq_true_eq, beq_iff_eq, and_true] at hc'
  all_goals
    first
    | (intro u hu
       simp only [AVal.den, AVal.denL, IT.den, BT.den, Option.map_some, Option.some.injEq] at hu
       rw [← hu]
       first
         | exact (par_bad hcode pk pa pb (.inr (.inr (Nat.le_refl _)))).symm)
end Txt
end Go.Proofs.YtagdcclpibjfoaaDoor
