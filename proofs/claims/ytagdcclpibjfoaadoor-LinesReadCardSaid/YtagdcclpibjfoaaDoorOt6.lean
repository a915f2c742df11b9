/-
  OpsTexts (6): Parse, the reference's and the program's: what words tell.
-/
import Derived.Test.YtagdcclpibjfoaaDoorOt5
namespace Go.Proofs.YtagdcclpibjfoaaDoor
open Go.Vm
namespace Txt
theorem ext1_ok : ExtOk Tryd.prog [(127, .same)] := fun g k h => by
  refine exts05_ok g k ?_
  simp only [Exts.get, exts05] at h ⊢
  cases hb : Nat.beq 127 g with
  | true => rw [hb] at h; exact h
  | false => rw [hb] at h; cases h
theorem fo30 (s : ByteArray) : FO 30 (encS s) 0 = encW (wordsOf s.data.toList) := by
  show encW (wordsOf (lb (encS s))) = _
  rw [lb_enc]
theorem words_len (s : ByteArray) : 1 ≤ (wordsOf s.data.toList).length ∧ (wordsOf s.data.toList).length ≤ s.size + 1 := by
  have h := words_in s.data.toList
  have h2 := h.len
  have h3 := List.length_pos_iff.2 h.ne
  have : s.data.toList.length = s.size := by simp
  omega
noncomputable def sRpE : List LM := [.next 2 (.code (.loop qb0) :: qk0) [((.cmp .geq (.lit 1) (.lit 0)), true), ((.cmp .leq (.lit 1) nW), true), ((.cmp .leq (.slen (.var 5)) (.lit 10000)), true), ((.cmp .geq nW (.lit 1)), true), ((.cmp .leq nW (.lit 10001)), true)] ⟨[(0, (.lit 0))], [], [], [], [(0, 0), (2, 2), (1, 1)]⟩]
noncomputable def sRpA : List LM := [.next 1 (.inLoop qb0 :: qk0) [((.cmp .geq (.elem (.lit 1) 1 0 (.var 0)) (.lit 0)), true), ((.cmp .lss (.elem (.lit 1) 1 0 (.var 0)) nW), true), ((.cmp .lss (.var 0) (.un 14 nW (.lit 1))), true), ((.cmp .geq (.var 0) (.lit 0)), true), ((.cmp .leq (.var 0) (.un 14 nW (.lit 1))), true), ((.cmp .geq nW (.lit 1)), true), ((.cmp .leq nW (.lit 10001)), true)] ⟨[(3, (.lit 1)), (0, (.bin .add .i64 (.var 0) (.lit 1))), (2, (.un 3 (.lit 0) (.fn 31 (.scode (.dec (.un 0 (.fn 30 (.sv 5) (.lit 0)) (.elem (.lit 1) 1 0 (.var 0))))) (.lit 0))))], [], [], [], [(0, 0), (2, 2), (1, 1), (4, 5), (3, 4)]⟩,
  .stop [((.cmp .geq (.elem (.lit 1) 1 0 (.var 0)) (.lit 0)), false), ((.cmp .lss (.var 0) (.un 14 nW (.lit 1))), true), ((.cmp .geq (.var 0) (.lit 0)), true), ((.cmp .leq (.var 0) (.un 14 nW (.lit 1))), true), ((.cmp .geq nW (.lit 1)), true), ((.cmp .leq nW (.lit 10001)), true)],
  .stop [((.cmp .lss (.elem (.lit 1) 1 0 (.var 0)) nW), false), ((.cmp .lss (.var 0) (.un 14 nW (.lit 1))), true), ((.cmp .geq (.var 0) (.lit 0)), true), ((.cmp .leq (.var 0) (.un 14 nW (.lit 1))), true), ((.cmp .geq nW (.lit 1)), true), ((.cmp .leq nW (.lit 10001)), true)],
  .next 0 (.code (.loop qb1) :: qk1) [((.cmp .lss (.var 0) (.un 14 nW (.lit 1))), false), ((.cmp .geq (.var 0) (.lit 0)), true), ((.cmp .leq (.var 0) (.un 14 nW (.lit 1))), true), ((.cmp .geq nW (.lit 1)), true), ((.cmp .leq nW (.lit 10001)), true)] ⟨[(3, (.lit 3)), (2, (.un 3 (.un 3 (.un 3 (.lit 0) (.lit 0)) (.lit 0)) (.lit 0)))], [], [], [], [(0, 0), (2, 2), (1, 1), (4, 5), (3, 4)]⟩]
noncomputable def sRpB : List LM := [.next 1 (.inLoop qb0 :: qk0) [((.cmp .leq (.var 3) (.lit 1000000)), true), ((.cmp .geq (.elem (.lit 1) 1 0 (.var 0)) (.lit 0)), true), ((.cmp .lss (.elem (.lit 1) 1 0 (.var 0)) nW), true), ((.cmp .lss (.var 0) (.un 14 nW (.lit 1))), true), ((.cmp .geq (.var 0) (.lit 0)), true), ((.cmp .leq (.var 0) (.un 14 nW (.lit 1))), true), ((.cmp .geq nW (.lit 1)), true), ((.cmp .leq nW (.lit 10001)), true), ((.cmp .geq (.var 3) (.lit 1)), true), ((.cmp .leq (.var 3) (.lit 10001)), true)] ⟨[(3, (.bin .add .i64 (.var 3) (.lit 1))), (0, (.bin .add .i64 (.var 0) (.lit 1))), (2, (.un 3 (.var 2) (.fn 31 (.scode (.dec (.un 0 (.fn 30 (.sv 5) (.lit 0)) (.elem (.lit 1) 1 0 (.var 0))))) (.lit 0))))], [], [], [], [(0, 0), (2, 2), (1, 1), (4, 7), (3, 6)]⟩,
  .stop [((.cmp .geq (.elem (.lit 1) 1 0 (.var 0)) (.lit 0)), false), ((.cmp .lss (.var 0) (.un 14 nW (.lit 1))), true), ((.cmp .geq (.var 0) (.lit 0)), true), ((.cmp .leq (.var 0) (.un 14 nW (.lit 1))), true), ((.cmp .geq nW (.lit 1)), true), ((.cmp .leq nW (.lit 10001)), true), ((.cmp .geq (.var 3) (.lit 1)), true), ((.cmp .leq (.var 3) (.lit 10001)), true)],
  .stop [((.cmp .lss (.elem (.lit 1) 1 0 (.var 0)) nW), false), ((.cmp .lss (.var 0) (.un 14 nW (.lit 1))), true), ((.cmp .geq (.var 0) (.lit 0)), true), ((.cmp .leq (.var 0) (.un 14 nW (.lit 1))), true), ((.cmp .geq nW (.lit 1)), true), ((.cmp .leq nW (.lit 10001)), true), ((.cmp .geq (.var 3) (.lit 1)), true), ((.cmp .leq (.var 3) (.lit 10001)), true)],
  .next 0 (.code (.loop qb1) :: qk1) [((.cmp .leq (.var 3) (.lit 1000000)), true), ((.cmp .lss (.var 0) (.un 14 nW (.lit 1))), false), ((.cmp .geq (.var 0) (.lit 0)), true), ((.cmp .leq (.var 0) (.un 14 nW (.lit 1))), true), ((.cmp .geq nW (.lit 1)), true), ((.cmp .leq nW (.lit 10001)), true), ((.cmp .geq (.var 3) (.lit 1)), true), ((.cmp .leq (.var 3) (.lit 10001)), true)] ⟨[(3, (.bin .add .i64 (.var 3) (.lit 3))), (2, (.un 3 (.un 3 (.un 3 (.var 2) (.lit 0)) (.lit 0)) (.lit 0)))], [], [], [], [(0, 0), (2, 2), (1, 1), (4, 7), (3, 6)]⟩]
theorem rRpE : (run Tryd.prog [(127, .same)] spPar 4000 true 55 (entry Tryd.f55 (Tryd.f55.body.getD .ret) [.str s5] .leaf 0 (lenC 10000 :: csW))).map (·.filterMap (sumM g5 [] [PQ [], PB, PA])) = some sRpE := by kernel_rfl
theorem rRpA : (run Tryd.prog [(127, .same)] spPar 4000 true 55 (PA.st (.code qb0 :: .inLoop qb0 :: qk0))).map (·.filterMap (sumM g5 [] [PQ [], PB, PA])) = some sRpA := by kernel_rfl
theorem rRpB : (run Tryd.prog [(127, .same)] spPar 4000 true 55 (PB.st (.code qb0 :: .inLoop qb0 :: qk0))).map (·.filterMap (sumM g5 [] [PQ [], PB, PA])) = some sRpB := by kernel_rfl
abbrev RPar (w0 : World) (ws : List (List UInt8)) : Value → World → Prop := fun x w' => x = parV ws ∧ Framed w0 w'
def numTo (ws : List (List UInt8)) (i : Nat) : List Int := ((ws.drop 1).take i).map numL
theorem numTo_succ {ws : List (List UInt8)} {i : Nat} (h : i + 1 < ws.length) : numTo ws (i + 1) = numTo ws i ++ [numL (ws.getD (i + 1) [])] := by
  unfold numTo
  rw [List.take_add_one, List.map_append, List.getElem?_drop, show 1 + i = i + 1 by omega, List.getElem?_eq_getElem h, List.getD_eq_getElem?_getD, List.getElem?_eq_getElem h]
  rfl
theorem numTo_all {ws : List (List UInt8)} {i : Nat} (h : i + 1 = ws.length) : numTo ws i ++ [0] ++ [0] ++ [0] = numsOf ws := by
  unfold numTo numsOf
  rw [List.take_of_length_le (by simp; omega)]
  simp
theorem un3L (l : List Int) (y : Int) : univ 3 (encL l) y = encL (l ++ [y]) := by
  show encL (decL (encL l) ++ [y]) = _
  rw [decL_encL]
section
variable {w0 : World} {s : ByteArray} {ws : List (List UInt8)} (hT : TabW w0) (hM : MaxW w0) (hE : ErrW w0) (hw : FO 30 (encS s) 0 = encW ws) (h1 : 1 ≤ ws.length) (h2 : ws.length ≤ 10001)
include hT hM hE hw h1 h2
theorem goesQ {ρ : Env} {a : Act} {w : World} (hS : ρ.S 5 = s) (hF : ρ.F = FO) (hN : ρ.I 2 = encL (numsOf ws)) (r : SRel (βO w0 s) ρ ((PQ []).st (.code (.loop qb1) :: qk1)) a w) : Goes Tryd.prog 55 (RPar w0 ws) (.code (.loop qb1) :: qk1) a w := by
  have hK := fun c (hc : codeOf (ws.getD 0 []) = c) => csKN_ok hS hF hw hc
  have hcs : ∀ c, codeOf (ws.getD 0 []) = c → CRel ρ (PQ (csKN c)).cs := fun c hc => by
    have := r.c
    refine CRel_apd.2 ⟨(CRel_apd.1 (show CRel ρ (csW ++ [(.cmp .eql (.var 3) (.bin .add .i64 nW (.lit 2)), true)] ++ []) from this)).1, hK c hc⟩
  have hle := code_le (ws.getD 0 [])
  rcases (show codeOf (ws.getD 0 []) = 0 ∨ codeOf (ws.getD 0 []) = 1 ∨ codeOf (ws.getD 0 []) = 2 ∨ codeOf (ws.getD 0 []) = 3 ∨ codeOf (ws.getD 0 []) = 4 ∨ codeOf (ws.getD 0 []) = 5 ∨ codeOf (ws.getD 0 []) = 6 ∨ codeOf (ws.getD 0 []) = 7 ∨ codeOf (ws.getD 0 []) = 8 ∨ codeOf (ws.getD 0 []) = 9 ∨ codeOf (ws.getD 0 []) = 10 ∨ codeOf (ws.getD 0 []) = 11 ∨ codeOf (ws.getD 0 []) = 12 ∨ codeOf (ws.getD 0 []) = 13 ∨ codeOf (ws.getD 0 []) = 14 ∨ codeOf (ws.getD 0 []) = 15 by omega) with h | h | h | h | h | h | h | h | h | h | h | h | h | h | h | h
  · exact goes_sums0 (β := βO w0 s) (Q := fun x => x = parV ws) noCount ext1_ok (spPar_ok w0 s hT hM hE) follows rfl rQ0 (ρ := ρ) ⟨r.d, r.n, r.t, r.h, hcs _ h⟩ (leafQ0 hS hF hw hN h h1 h2)
  · exact goes_sums0 (β := βO w0 s) (Q := fun x => x = parV ws) noCount ext1_ok (spPar_ok w0 s hT hM hE) follows rfl rQ1 (ρ := ρ) ⟨r.d, r.n, r.t, r.h, hcs _ h⟩ (leafQ1 hS hF hw hN h h1 h2)
  · exact goes_sums0 (β := βO w0 s) (Q := fun x => x = parV ws) noCount ext1_ok (spPar_ok w0 s hT hM hE) follows rfl rQ2 (ρ := ρ) ⟨r.d, r.n, r.t, r.h, hcs _ h⟩ (leafQ2 hS hF hw hN h h1 h2)
  · exact goes_sums0 (β := βO w0 s) (Q := fun x => x = parV ws) noCount ext1_ok (spPar_ok w0 s hT hM hE) follows rfl rQ3 (ρ := ρ) ⟨r.d, r.n, r.t, r.h, hcs _ h⟩ (leafQ3 hS hF hw hN h h1 h2)
  · exact goes_sums0 (β := βO w0 s) (Q := fun x => x = parV ws) noCount ext1_ok (spPar_ok w0 s hT hM hE) follows rfl rQ4 (ρ := ρ) ⟨r.d, r.n, r.t, r.h, hcs _ h⟩ (leafQ4 hS hF hw hN h h1 h2)
  · exact goes_sums0 (β := βO w0 s) (Q := fun x => x = parV ws) noCount ext1_ok (spPar_ok w0 s hT hM hE) follows rfl rQ5 (ρ := ρ) ⟨r.d, r.n, r.t, r.h, hcs _ h⟩ (leafQ5 hS hF hw hN h h1 h2)
  · exact goes_sums0 (β := βO w0 s) (Q := fun x => x = parV ws) noCount ext1_ok (spPar_ok w0 s hT hM hE) follows rfl rQ6 (ρ := ρ) ⟨r.d, r.n, r.t, r.h, hcs _ h⟩ (leafQ6 hS hF hw hN h h1 h2)
  · exact goes_sums0 (β := βO w0 s) (Q := fun x => x = parV ws) noCount ext1_ok (spPar_ok w0 s hT hM hE) follows rfl rQ7 (ρ := ρ) ⟨r.d, r.n, r.t, r.h, hcs _ h⟩ (leafQ7 hS hF hw hN h h1 h2)
  · exact goes_sums0 (β := βO w0 s) (Q := fun x => x = parV ws) noCount ext1_ok (spPar_ok w0 s hT hM hE) follows rfl rQ8 (ρ := ρ) ⟨r.d, r.n, r.t, r.h, hcs _ h⟩ (leafQ8 hS hF hw hN h h1 h2)
  · exact goes_sums0 (β := βO w0 s) (Q := fun x => x = parV ws) noCount ext1_ok (spPar_ok w0 s hT hM hE) follows rfl rQ9 (ρ := ρ) ⟨r.d, r.n, r.t, r.h, hcs _ h⟩ (leafQ9 hS hF hw hN h h1 h2)
  · exact goes_sums0 (β := βO w0 s) (Q := fun x => x = parV ws) noCount ext1_ok (spPar_ok w0 s hT hM hE) follows rfl rQ10 (ρ := ρ) ⟨r.d, r.n, r.t, r.h, hcs _ h⟩ (leafQ10 hS hF hw hN h h1 h2)
  · exact goes_sums0 (β := βO w0 s) (Q := fun x => x = parV ws) noCount ext1_ok (spPar_ok w0 s hT hM hE) follows rfl rQ11 (ρ := ρ) ⟨r.d, r.n, r.t, r.h, hcs _ h⟩ (leafQ11 hS hF hw hN h h1 h2)
  · exact goes_sums0 (β := βO w0 s) (Q := fun x => x = parV ws) noCount ext1_ok (spPar_ok w0 s hT hM hE) follows rfl rQ12 (ρ := ρ) ⟨r.d, r.n, r.t, r.h, hcs _ h⟩ (leafQ12 hS hF hw hN h h1 h2)
  · exact goes_sums0 (β := βO w0 s) (Q := fun x => x = parV ws) noCount ext1_ok (spPar_ok w0 s hT hM hE) follows rfl rQ13 (ρ := ρ) ⟨r.d, r.n, r.t, r.h, hcs _ h⟩ (leafQ13 hS hF hw hN h h1 h2)
  · exact goes_sums0 (β := βO w0 s) (Q := fun x => x = parV ws) noCount ext1_ok (spPar_ok w0 s hT hM hE) follows rfl rQ14 (ρ := ρ) ⟨r.d, r.n, r.t, r.h, hcs _ h⟩ (leafQ14 hS hF hw hN h h1 h2)
  · exact goes_sums0 (β := βO w0 s) (Q := fun x => x = parV ws) noCount ext1_ok (spPar_ok w0 s hT hM hE) follows rfl rQ15 (ρ := ρ) ⟨r.d, r.n, r.t, r.h, hcs _ h⟩ (leafQ15 hS hF hw hN h h1 h2)
omit hT hM hE in
theorem pb_cs {ρ : Env} (hS : ρ.S 5 = s) (hF : ρ.F = FO) {i : Nat} (h0 : ρ.I 0 = i) (h3 : ρ.I 3 = i) (hi : 1 ≤ i) (hl : i + 1 ≤ ws.length) : CRel ρ PB.cs := by
  have dW := nW_den hS hF hw
  have dM : (IT.un 14 nW (.lit 1)).den ρ = _ := nM_den dW
  simp only [PB, PL, csW, List.cons_append, List.nil_append, CRel_cons, CRel_nil, BT.den, dW, dM, IT.den.eq_1, IT.den.eq_2, intCmp, h0, h3, Option.some.injEq, decide_eq_true_eq, and_true]
  omega
omit hT hM hE in
theorem pa_cs {ρ : Env} (hS : ρ.S 5 = s) (hF : ρ.F = FO) (h0 : ρ.I 0 = 0) : CRel ρ PA.cs := by
  have dW := nW_den hS hF hw
  have dM : (IT.un 14 nW (.lit 1)).den ρ = _ := nM_den dW
  simp only [PA, PL, csW, List.cons_append, List.nil_append, CRel_cons, CRel_nil, BT.den, dW, dM, IT.den.eq_1, IT.den.eq_2, intCmp, h0, Option.some.injEq, decide_eq_true_eq, and_true]
  omega
omit hT hM hE in
theorem pq_cs {ρ : Env} (hS : ρ.S 5 = s) (hF : ρ.F = FO) (h3 : ρ.I 3 = ((ws.length + 2 : Nat) : Int)) : CRel ρ (PQ []).cs := by
  have dW := nW_den hS hF hw
  refine CRel_apd.2 ⟨CRel_apd.2 ⟨csW_ok hS hF hw h1 h2, CRel_cons.2 ⟨?_, CRel_nil.2 trivial⟩⟩, CRel_nil.2 trivial⟩
  simp only [BT.den, IT.den.eq_4, IT.den.eq_1, IT.den.eq_2, dW, h3, intBin, intCmp, Option.some.injEq, beq_iff_eq]
  rw [wrapI (by omega) (by omega)]; omega
def JPA : GP := fun I _ _ _ _ => I 0 = 0
def JPB (ws : List (List UInt8)) : GP := fun I _ _ _ _ => ∃ i : Nat, I 0 = i ∧ 1 ≤ i ∧ i + 1 ≤ ws.length ∧ I 2 = encL (numTo ws i) ∧ I 3 = (i : Int)
omit hT hM hE h1 h2 in
theorem nX_den {ρ : Env} (hS : ρ.S 5 = s) (hF : ρ.F = FO) {i : Nat} (h0 : ρ.I 0 = i) : (IT.fn 31 (.scode (.dec (.un 0 (.fn 30 (.sv 5) (.lit 0)) (.elem (.lit 1) 1 0 (.var 0))))) (.lit 0)).den ρ = some (numL (ws.getD (i + 1) [])) := by
  show some (ρ.F 31 (encS (decS (univ 0 (ρ.F 30 (encS (ρ.S 5)) 0) (Int.ofNat ((1 : Int).toNat + ((ρ.I 0).toNat * 1 + 0)))))) 0) = _
  rw [hS, hF, hw, h0, show (Int.ofNat ((1 : Int).toNat + ((i : Int).toNat * 1 + 0))) = ((i + 1 : Nat) : Int) by
    show ((1 + (i * 1 + 0) : Nat) : Int) = _; omega, un0_get, decS_encS, fo31]
omit hT hM hE hw h1 h2 in
theorem elem_den {ρ : Env} {i : Nat} (h0 : ρ.I 0 = i) : (IT.elem (.lit 1) 1 0 (.var 0)).den ρ = some ((i + 1 : Nat) : Int) := by
  simp only [IT.den, h0]
  congr 1
  show ((1 + (i * 1 + 0) : Nat) : Int) = _
  omega
theorem loopPB : ∀ ρ, (JPB ws).at ρ → ∀ todo a w, todo = .inLoop qb0 :: qk0 ∨ todo = .code (.loop qb0) :: qk0 → SRel (βO w0 s) ρ (PB.st todo) a w → Goes Tryd.prog 55 (RPar w0 ws) todo a w := by
  refine loop_goesM (β := βO w0 s) noCount ext1_ok (spPar_ok w0 s hT hM hE) follows rfl rRpB (JPB ws) (fun ρ => (ws.length - ρ.I 0).toNat) (fun ρ hJ hcs hG ih q hq => ?_)
  simp only [sRpB, List.mem_cons, List.not_mem_nil, or_false] at hq
  rcases hq with rfl | rfl | rfl | rfl
  all_goals intro ρ' hle hc
  all_goals obtain ⟨i, j1, j2, j3, j4, j5⟩ := GP.mono hle hJ
  all_goals obtain ⟨g1, g2⟩ := GP.mono hle hG
  all_goals have e2 : ρ.I = ρ'.I := hle.i.symm
  all_goals have dW := nW_den g1 g2 hw
  all_goals have dM : (IT.un 14 nW (.lit 1)).den ρ' = _ := nM_den dW
  all_goals have dE := elem_den j1
  all_goals simp only [CRel_cons, CRel_nil, BT.den, dW, dM, dE, IT.den.eq_1, IT.den.eq_2, intCmp, j1, j5, Option.some.injEq, decide_eq_true_eq, decide_eq_false_iff_not, and_true] at hc
  · intro T hT' hG'
    have hT' : PB = T := by simpa using hT'
    subst hT'
    have e0 : IntKind.i64.wrap (ρ'.I 0 + 1) = ((i + 1 : Nat) : Int) := by rw [j1, wrapI (by omega) (by omega)]; omega
    have e3 : IntKind.i64.wrap (ρ'.I 3 + 1) = ((i + 1 : Nat) : Int) := by rw [j5, wrapI (by omega) (by omega)]; omega
    have dX := nX_den hw g1 g2 j1
    refine ⟨GO_app hG' rfl, ?_, fun a w r => ih _ ?_ ⟨i + 1, e0, by omega, by omega, ?_, e3⟩ _ a w (.inl rfl) r⟩
    · exact pb_cs hw h1 h2 ((app_S rfl).trans g1) g2 e0 e3 (by omega) (by omega)
    · show ((ws.length : Int) - IntKind.i64.wrap (ρ'.I 0 + 1)).toNat < _
      rw [e0, e2, j1]; omega
    · show ((IT.un 3 (.var 2) (.fn 31 (.scode (.dec (.un 0 (.fn 30 (.sv 5) (.lit 0)) (.elem (.lit 1) 1 0 (.var 0))))) (.lit 0))).den ρ').getD 0 = _
      simp only [IT.den.eq_13, IT.den.eq_2, dX, j4, un3L, Option.getD_some]
      rw [numTo_succ (by omega)]
  · omega
  · omega
  · intro T hT' hG'
    have hT' : PQ [] = T := by simpa using hT'
    subst hT'
    have hil : i + 1 = ws.length := by omega
    have e3 : IntKind.i64.wrap (ρ'.I 3 + 3) = ((i + 3 : Nat) : Int) := by rw [j5, wrapI (by omega) (by omega)]; omega
    have eN : univ 3 (univ 3 (univ 3 (ρ'.I 2) 0) 0) 0 = encL (numsOf ws) := by rw [j4, un3L, un3L, un3L, numTo_all hil]
    refine ⟨GO_app hG' rfl, ?_, fun a w r => goesQ hT hM hE hw h1 h2 (ρ := _) ((app_S rfl).trans g1) g2 (by exact eN) r⟩
    exact pq_cs hw h1 h2 ((app_S rfl).trans g1) g2 (e3.trans (by omega))
theorem loopPA : ∀ ρ, JPA.at ρ → ∀ todo a w, todo = .inLoop qb0 :: qk0 ∨ todo = .code (.loop qb0) :: qk0 → SRel (βO w0 s) ρ (PA.st todo) a w → Goes Tryd.prog 55 (RPar w0 ws) todo a w := by
  refine loop_goesM (β := βO w0 s) noCount ext1_ok (spPar_ok w0 s hT hM hE) follows rfl rRpA JPA (fun ρ => (ws.length - ρ.I 0).toNat) (fun ρ hJ hcs hG ih q hq => ?_)
  simp only [sRpA, List.mem_cons, List.not_mem_nil, or_false] at hq
  rcases hq with rfl | rfl | rfl | rfl
  all_goals intro ρ' hle hc
  all_goals have j1 : ρ'.I 0 = ((0 : Nat) : Int) := GP.mono hle hJ
  all_goals obtain ⟨g1, g2⟩ := GP.mono hle hG
  all_goals have dW := nW_den g1 g2 hw
  all_goals have dM : (IT.un 14 nW (.lit 1)).den ρ' = _ := nM_den dW
  all_goals have dE := elem_den j1
  all_goals simp only [CRel_cons, CRel_nil, BT.den, dW, dM, dE, IT.den.eq_1, IT.den.eq_2, intCmp, j1, Option.some.injEq, decide_eq_true_eq, decide_eq_false_iff_not, and_true] at hc
  · intro T hT' hG'
    have hT' : PB = T := by simpa using hT'
    subst hT'
    have e0 : IntKind.i64.wrap (ρ'.I 0 + 1) = ((1 : Nat) : Int) := by rw [j1, wrapI (by omega) (by omega)]; omega
    have dX := nX_den hw g1 g2 j1
    refine ⟨GO_app hG' rfl, ?_, fun a w r => loopPB hT hM hE hw h1 h2 _ ⟨1, e0, by omega, by omega, ?_, rfl⟩ _ a w (.inl rfl) r⟩
    · exact pb_cs hw h1 h2 ((app_S rfl).trans g1) g2 e0 rfl (by omega) (by omega)
    · show ((IT.un 3 (.lit 0) (.fn 31 (.scode (.dec (.un 0 (.fn 30 (.sv 5) (.lit 0)) (.elem (.lit 1) 1 0 (.var 0))))) (.lit 0))).den ρ').getD 0 = _
      have h0 : (0 : Int) = encL [] := rfl
      simp only [IT.den.eq_13, IT.den.eq_1, dX, Option.getD_some]
      rw [h0, un3L, numTo_succ (by omega)]; rfl
  · omega
  · omega
  · intro T hT' hG'
    have hT' : PQ [] = T := by simpa using hT'
    subst hT'
    have hil : 0 + 1 = ws.length := by omega
    have h0 : (0 : Int) = encL (numTo ws 0) := by unfold numTo; simp; rfl
    have eN : univ 3 (univ 3 (univ 3 0 0) 0) 0 = encL (numsOf ws) := by
      show univ 3 (univ 3 (univ 3 (0 : Int) 0) 0) 0 = _
      have : univ 3 (univ 3 (univ 3 (encL (numTo ws 0)) 0) 0) 0 = encL (numsOf ws) := by rw [un3L, un3L, un3L, numTo_all hil]
      rw [← h0] at this; exact this
    refine ⟨GO_app hG' rfl, ?_, fun a w r => goesQ hT hM hE hw h1 h2 (ρ := _) ((app_S rfl).trans g1) g2 (by exact eN) r⟩
    exact pq_cs hw h1 h2 ((app_S rfl).trans g1) g2 (show (3 : Int) = _ by omega)
end
/-- The reference's Parse. -/
theorem parse55a (w : World) (hT : TabW w) (hM : MaxW w) (hE : ErrW w) (s : ByteArray) (hs : s.size ≤ 10000) : Calls Tryd.prog 55 #[.string s] w (fun e w' => e = .returned (parV (wordsOf s.data.toList)) ∧ Framed w w') := by
  have hl := words_len s
  have hw := fo30 s
  refine (calls_sumsM (R := RPar w (wordsOf s.data.toList)) (β := βO w s) (ρ := ρO s) noCount ext1_ok (spPar_ok w s hT hM hE) follows rfl Tryd.func55 rfl rRpE (xs := [.string s]) rfl (HRel.startG w _ (fun _ => rfl) ⟨rfl, rfl⟩) (CRel_cons.2 ⟨?_, csW_ok rfl rfl hw hl.1 (by omega)⟩) (fun q hq => ?_)).mono fun e w' ⟨v, he, hv, hf⟩ => ⟨by rw [he, hv], hf⟩
  · show some (decide ((s.size : Int) ≤ 10000)) = some true
    simp; omega
  · rcases List.mem_cons.1 hq with rfl | hq
    · intro ρ' hle hc T hT' hG
      have hT' : PA = T := by simpa using hT'
      subst hT'
      obtain ⟨g1, g2⟩ := id hG
      exact ⟨GO_app hG rfl, pa_cs hw hl.1 (by omega) ((app_S rfl).trans g1) g2 rfl, fun a w' r => loopPA hT hM hE hw hl.1 (by omega) _ (by rfl) _ a w' (.inr rfl) r⟩
    · cases hq
/-- The program's Parse. -/
theorem parse54a (w : World) (hT : TabW w) (hM : MaxW w) (hE : ErrW w) (s : ByteArray) (hs : s.size ≤ 10000) : Calls Tryd.prog 54 #[.string s] w (fun e w' => e = .returned (parV (wordsOf s.data.toList)) ∧ Framed w w') := by
  have hl := words_len s
  have hw := fo30 s
  generalize wordsOf s.data.toList = ws at hl hw ⊢
  have hS : (ρO s).S 5 = s := rfl
  have hF : (ρO s).F = FO := rfl
  have h0 : (lenC 10000).1.den (ρO s) = some true := by
    show some (decide ((s.size : Int) ≤ 10000)) = some true
    simp; omega
  have hcs : ∀ c, codeOf (ws.getD 0 []) = c → CRel (ρO s) (lenC 10000 :: (csW ++ csKN c)) := fun c hc =>
    CRel_cons.2 ⟨h0, CRel_apd.2 ⟨csW_ok hS hF hw hl.1 (by omega), csKN_ok hS hF hw hc⟩⟩
  have hle := code_le (ws.getD 0 [])
  rcases (show codeOf (ws.getD 0 []) = 0 ∨ codeOf (ws.getD 0 []) = 1 ∨ codeOf (ws.getD 0 []) = 2 ∨ codeOf (ws.getD 0 []) = 3 ∨ codeOf (ws.getD 0 []) = 4 ∨ codeOf (ws.getD 0 []) = 5 ∨ codeOf (ws.getD 0 []) = 6 ∨ codeOf (ws.getD 0 []) = 7 ∨ codeOf (ws.getD 0 []) = 8 ∨ codeOf (ws.getD 0 []) = 9 ∨ codeOf (ws.getD 0 []) = 10 ∨ codeOf (ws.getD 0 []) = 11 ∨ codeOf (ws.getD 0 []) = 12 ∨ codeOf (ws.getD 0 []) = 13 ∨ codeOf (ws.getD 0 []) = 14 ∨ codeOf (ws.getD 0 []) = 15 by omega) with h | h | h | h | h | h | h | h | h | h | h | h | h | h | h | h
  · exact calls_eq (calls_sums0 (β := βO w s) (ρ := ρO s) noCount ext1_ok (spPar_ok w s hT hM hE) follows rfl Tryd.func54 rfl rP0 (xs := [.string s]) rfl (HRel.startG w _ (fun _ => rfl) ⟨rfl, rfl⟩) (hcs _ h) (leafP0 rfl rfl hw h hl.1 (by omega)))
  · exact calls_eq (calls_sums0 (β := βO w s) (ρ := ρO s) noCount ext1_ok (spPar_ok w s hT hM hE) follows rfl Tryd.func54 rfl rP1 (xs := [.string s]) rfl (HRel.startG w _ (fun _ => rfl) ⟨rfl, rfl⟩) (hcs _ h) (leafP1 rfl rfl hw h hl.1 (by omega)))
  · exact calls_eq (calls_sums0 (β := βO w s) (ρ := ρO s) noCount ext1_ok (spPar_ok w s hT hM hE) follows rfl Tryd.func54 rfl rP2 (xs := [.string s]) rfl (HRel.startG w _ (fun _ => rfl) ⟨rfl, rfl⟩) (hcs _ h) (leafP2 rfl rfl hw h hl.1 (by omega)))
  · exact calls_eq (calls_sums0 (β := βO w s) (ρ := ρO s) noCount ext1_ok (spPar_ok w s hT hM hE) follows rfl Tryd.func54 rfl rP3 (xs := [.string s]) rfl (HRel.startG w _ (fun _ => rfl) ⟨rfl, rfl⟩) (hcs _ h) (leafP3 rfl rfl hw h hl.1 (by omega)))
  · exact calls_eq (calls_sums0 (β := βO w s) (ρ := ρO s) noCount ext1_ok (spPar_ok w s hT hM hE) follows rfl Tryd.func54 rfl rP4 (xs := [.string s]) rfl (HRel.startG w _ (fun _ => rfl) ⟨rfl, rfl⟩) (hcs _ h) (leafP4 rfl rfl hw h hl.1 (by omega)))
  · exact calls_eq (calls_sums0 (β := βO w s) (ρ := ρO s) noCount ext1_ok (spPar_ok w s hT hM hE) follows rfl Tryd.func54 rfl rP5 (xs := [.string s]) rfl (HRel.startG w _ (fun _ => rfl) ⟨rfl, rfl⟩) (hcs _ h) (leafP5 rfl rfl hw h hl.1 (by omega)))
  · exact calls_eq (calls_sums0 (β := βO w s) (ρ := ρO s) noCount ext1_ok (spPar_ok w s hT hM hE) follows rfl Tryd.func54 rfl rP6 (xs := [.string s]) rfl (HRel.startG w _ (fun _ => rfl) ⟨rfl, rfl⟩) (hcs _ h) (leafP6 rfl rfl hw h hl.1 (by omega)))
  · exact calls_eq (calls_sums0 (β := βO w s) (ρ := ρO s) noCount ext1_ok (spPar_ok w s hT hM hE) follows rfl Tryd.func54 rfl rP7 (xs := [.string s]) rfl (HRel.startG w _ (fun _ => rfl) ⟨rfl, rfl⟩) (hcs _ h) (leafP7 rfl rfl hw h hl.1 (by omega)))
  · exact calls_eq (calls_sums0 (β := βO w s) (ρ := ρO s) noCount ext1_ok (spPar_ok w s hT hM hE) follows rfl Tryd.func54 rfl rP8 (xs := [.string s]) rfl (HRel.startG w _ (fun _ => rfl) ⟨rfl, rfl⟩) (hcs _ h) (leafP8 rfl rfl hw h hl.1 (by omega)))
  · exact calls_eq (calls_sums0 (β := βO w s) (ρ := ρO s) noCount ext1_ok (spPar_ok w s hT hM hE) follows rfl Tryd.func54 rfl rP9 (xs := [.string s]) rfl (HRel.startG w _ (fun _ => rfl) ⟨rfl, rfl⟩) (hcs _ h) (leafP9 rfl rfl hw h hl.1 (by omega)))
  · exact calls_eq (calls_sums0 (β := βO w s) (ρ := ρO s) noCount ext1_ok (spPar_ok w s hT hM hE) follows rfl Tryd.func54 rfl rP10 (xs := [.string s]) rfl (HRel.startG w _ (fun _ => rfl) ⟨rfl, rfl⟩) (hcs _ h) (leafP10 rfl rfl hw h hl.1 (by omega)))
  · exact calls_eq (calls_sums0 (β := βO w s) (ρ := ρO s) noCount ext1_ok (spPar_ok w s hT hM hE) follows rfl Tryd.func54 rfl rP11 (xs := [.string s]) rfl (HRel.startG w _ (fun _ => rfl) ⟨rfl, rfl⟩) (hcs _ h) (leafP11 rfl rfl hw h hl.1 (by omega)))
  · exact calls_eq (calls_sums0 (β := βO w s) (ρ := ρO s) noCount ext1_ok (spPar_ok w s hT hM hE) follows rfl Tryd.func54 rfl rP12 (xs := [.string s]) rfl (HRel.startG w _ (fun _ => rfl) ⟨rfl, rfl⟩) (hcs _ h) (leafP12 rfl rfl hw h hl.1 (by omega)))
  · exact calls_eq (calls_sums0 (β := βO w s) (ρ := ρO s) noCount ext1_ok (spPar_ok w s hT hM hE) follows rfl Tryd.func54 rfl rP13 (xs := [.string s]) rfl (HRel.startG w _ (fun _ => rfl) ⟨rfl, rfl⟩) (hcs _ h) (leafP13 rfl rfl hw h hl.1 (by omega)))
  · exact calls_eq (calls_sums0 (β := βO w s) (ρ := ρO s) noCount ext1_ok (spPar_ok w s hT hM hE) follows rfl Tryd.func54 rfl rP14 (xs := [.string s]) rfl (HRel.startG w _ (fun _ => rfl) ⟨rfl, rfl⟩) (hcs _ h) (leafP14 rfl rfl hw h hl.1 (by omega)))
  · exact calls_eq (calls_sums0 (β := βO w s) (ρ := ρO s) noCount ext1_ok (spPar_ok w s hT hM hE) follows rfl Tryd.func54 rfl rP15 (xs := [.string s]) rfl (HRel.startG w _ (fun _ => rfl) ⟨rfl, rfl⟩) (hcs _ h) (leafP15 rfl rfl hw h hl.1 (by omega)))
end Txt
end Go.Proofs.YtagdcclpibjfoaaDoor
