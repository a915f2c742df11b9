/-
  OpsTexts (4): operations read out of texts.
-/
import Derived.Test.YtagdcclpibjfoaaDoorOt3
namespace Go.Proofs.YtagdcclpibjfoaaDoor
open Go.Vm
namespace Txt

-- PLAINLY
def nmL : List (List UInt8) := [[110, 111, 110, 101], [101, 110, 113, 117, 101, 117, 101], [100, 101, 113, 117, 101, 117, 101], [108, 101, 110, 103, 116, 104], [103, 101, 116], [112, 117, 116], [100, 101, 108, 101, 116, 101], [115, 119, 97, 112], [115, 105, 122, 101], [102, 108, 111, 111, 114], [115, 101, 116], [97, 99, 113, 117, 105, 114, 101], [114, 101, 108, 101, 97, 115, 101], [118, 97, 108, 117, 101], [100, 114, 111, 112]]
def codeOf (w : List UInt8) : Nat := nmL.idxOf w
def parN (c : Nat) : Nat := if c = 7 then 4 else if c = 5 ∨ c = 10 then 3 else if c = 0 ∨ c = 2 ∨ c = 3 ∨ c = 8 then 1 else 2
def parK (c : Nat) (ws : List (List UInt8)) : Int := if 4 ≤ c ∧ c ≠ 8 then numL (ws.getD 1 []) else 0
def parA (c : Nat) (ws : List (List UInt8)) : Int := if c = 1 then numL (ws.getD 1 []) else if c = 5 ∨ c = 7 ∨ c = 10 then numL (ws.getD 2 []) else 0
def parB (c : Nat) (ws : List (List UInt8)) : Int := if c = 7 then numL (ws.getD 3 []) else 0
/-- Do words tell an operation? -/
def parOk (ws : List (List UInt8)) : Bool := decide (codeOf (ws.getD 0 []) < 15) && decide (ws.length = parN (codeOf (ws.getD 0 []))) && rightB (codeOf (ws.getD 0 [])) (parK (codeOf (ws.getD 0 [])) ws) (parA (codeOf (ws.getD 0 [])) ws) (parB (codeOf (ws.getD 0 [])) ws)
def parV (ws : List (List UInt8)) : Value := if parOk ws = true then .tuple #[opV4 (codeOf (ws.getD 0 [])) (parK (codeOf (ws.getD 0 [])) ws) (parA (codeOf (ws.getD 0 [])) ws) (parB (codeOf (ws.getD 0 [])) ws), .bool true] else .tuple #[opV4 0 0 0 0, .bool false]
theorem par_good {ws : List (List UInt8)} {c : Nat} {k a b : Int} (hc : codeOf (ws.getD 0 []) = c) (h15 : c < 15) (hl : ws.length = parN c) (hk : parK c ws = k) (ha : parA c ws = a) (hb : parB c ws = b) (hr : rightB c k a b = true) : parV ws = .tuple #[opV4 c k a b, .bool true] := by
  have : parOk ws = true := by
    unfold parOk
    rw [hc, hk, ha, hb, hr, decide_eq_true h15, decide_eq_true hl]; rfl
  unfold parV
  rw [if_pos this, hc, hk, ha, hb]
theorem par_bad {ws : List (List UInt8)} {c : Nat} {k a b : Int} (hc : codeOf (ws.getD 0 []) = c) (hk : parK c ws = k) (ha : parA c ws = a) (hb : parB c ws = b) (h : ws.length ≠ parN c ∨ rightB c k a b = false ∨ 15 ≤ c) : parV ws = .tuple #[opV4 0 0 0 0, .bool false] := by
  have : ¬ parOk ws = true := by
    unfold parOk
    rw [hc, hk, ha, hb]
    rcases h with h | h | h
    · rw [decide_eq_false h]; simp
    · rw [h]; simp
    · rw [decide_eq_false (show ¬ c < 15 by omega)]; simp
  unfold parV
  rw [if_neg this]
theorem right_neg {c k a b : Int} (h : k < 0 ∨ a < 0 ∨ b < 0) : rightB c k a b = false := by
  unfold rightB
  rw [decide_eq_false]
  omega
def numsOf (ws : List (List UInt8)) : List Int := (ws.drop 1).map numL ++ [0, 0, 0]
theorem numsOf_get {ws : List (List UInt8)} {j : Nat} (h : j + 1 < ws.length) : (numsOf ws).getD j 0 = numL (ws.getD (j + 1) []) := by
  have h1 : j < ((ws.drop 1).map numL).length := by simp; omega
  unfold numsOf
  rw [List.getD_eq_getElem?_getD, List.getElem?_append_left h1, List.getElem?_map, List.getElem?_drop, List.getD_eq_getElem?_getD, show 1 + j = j + 1 by omega, List.getElem?_eq_getElem h]
  rfl
theorem un0_get (ws : List (List UInt8)) (i : Nat) : univ 0 (encW ws) (i : Int) = encS (bytes (ws.getD i [])) := by
  rcases Nat.lt_or_ge i ws.length with h | h
  · exact un0_enc h
  · show (decL (encL (ws.map fun w => encS (bytes w)))).getD (i : Int).toNat 0 = _
    rw [decL_encL, Int.toNat_natCast, List.getD_eq_getElem?_getD, List.getD_eq_getElem?_getD, List.getElem?_eq_none (by simpa using h), List.getElem?_eq_none h]
    rfl
theorem un0_0 (ws : List (List UInt8)) : univ 0 (encW ws) 0 = encS (bytes (ws.getD 0 [])) := un0_get ws 0
theorem un0_1 (ws : List (List UInt8)) : univ 0 (encW ws) 1 = encS (bytes (ws.getD 1 [])) := un0_get ws 1
theorem un0_2 (ws : List (List UInt8)) : univ 0 (encW ws) 2 = encS (bytes (ws.getD 2 [])) := un0_get ws 2
theorem un0_3 (ws : List (List UInt8)) : univ 0 (encW ws) 3 = encS (bytes (ws.getD 3 [])) := un0_get ws 3
theorem unN_0 (l : List Int) : univ 0 (encL l) 0 = l.getD 0 0 := by show (decL (encL l)).getD 0 0 = _; rw [decL_encL]
theorem unN_1 (l : List Int) : univ 0 (encL l) 1 = l.getD 1 0 := by show (decL (encL l)).getD 1 0 = _; rw [decL_encL]
theorem unN_2 (l : List Int) : univ 0 (encL l) 2 = l.getD 2 0 := by show (decL (encL l)).getD 2 0 = _; rw [decL_encL]
theorem fo31 (w : List UInt8) (y : Int) : FO 31 (encS (bytes w)) y = numL w := by
  show numL (lb (encS (bytes w))) = _
  rw [lb_enc, bytes_toList]
theorem fo50 (c k a b : Int) : FO 50 (univ 1 c k) (univ 1 a b) = if rightB c k a b = true then 1 else 0 := by
  show (if rightB ((decL (encL [c, k])).getD 0 0) ((decL (encL [c, k])).getD 1 0) ((decL (encL [a, b])).getD 0 0) ((decL (encL [a, b])).getD 1 0) = true then (1 : Int) else 0) = _
  rw [decL_encL, decL_encL]; rfl
theorem one1 (b : Bool) : ((if b = true then (1 : Int) else 0) == 1) = b := by cases b <;> rfl
theorem u14 (x y : Int) : univ 14 x y = if y ≤ x then x - y else 0 := rfl
theorem i20 : Int.ofNat ((2 : Int).toNat + ((0 : Int).toNat * 1 + 0)) = 2 := rfl
theorem i21 : Int.ofNat ((2 : Int).toNat + ((1 : Int).toNat * 1 + 0)) = 3 := rfl
theorem CRel_apd {ρ : Env} : ∀ {a b : Cs}, CRel ρ (a ++ b) ↔ CRel ρ a ∧ CRel ρ b
  | [], b => by simp [CRel_nil]
  | (t, v) :: a, b => by
    rw [List.cons_append, CRel_cons, CRel_cons, CRel_apd (a := a), and_assoc]
-- A RUN THAT GOES THROUGH LOOPS, TOLD IN SHORT
section
variable {P : Program} {β : Base} {f : FuncId} {Q : Value → Prop}
theorem calls_sums0 (hc : NoCount P) {E : Exts} (hE : ExtOk P E) {sp : CallF} (hsp : CallOk P β sp) (hm : P.follows .mixedOrders = true) (hown : β.own = []) {g : Gen} {Ts : List Tpl} {n : Nat} {fn : Func} {c : Code} {args : List AVal} {xs : List Value} {H : Heap} {nl : Nat} {cs : Cs} {ρ : Env} {w : World} {sums : List LS}
    (hf : P.funcs[f]? = some fn) (hb : fn.body = some c) (hrun : (run P E sp n false f (entry fn c args H nl cs)).map (·.filterMap (sumL g Ts)) = some sums) (hx : AVal.denL ρ args = some xs) (hr : HRel β ρ H nl w) (hcs : CRel ρ cs)
    (hs : ∀ s ∈ sums, SumGood P β f Q Ts ρ s) : Calls P f xs.toArray w (fun e w' => ∃ v, e = .returned v ∧ Q v ∧ Framed β.w0 w') := by
  obtain ⟨ls, hls, hsum⟩ := Option.map_eq_some_iff.1 hrun
  exact calls_of_goes hf hb (run_sound hc hE hsp hm n false f _ ls ρ _ w _ hls (entry_ok hx hr hcs) (sums_all hown hsum hs))
theorem goes_sums0 (hc : NoCount P) {E : Exts} (hE : ExtOk P E) {sp : CallF} (hsp : CallOk P β sp) (hm : P.follows .mixedOrders = true) (hown : β.own = []) {g : Gen} {Ts : List Tpl} {n : Nat} {S : St} {ρ : Env} {w : World} {a : Act} {sums : List LS}
    (hrun : (run P E sp n false f S).map (·.filterMap (sumL g Ts)) = some sums) (r : SRel β ρ S a w) (hs : ∀ s ∈ sums, SumGood P β f Q Ts ρ s) : Goes P f (fun v w' => Q v ∧ Framed β.w0 w') S.todo a w := by
  obtain ⟨ls, hls, hsum⟩ := Option.map_eq_some_iff.1 hrun
  exact run_sound hc hE hsp hm n false f _ ls ρ a w _ hls r (sums_all hown hsum hs)
end

-- WHAT IS KNOWN OF THE FUNCTIONS
theorem right_calls {g : FuncId} (hg : (g, spRight) ∈ specs05) (w : World) (c k a b : Int) : Calls Tryd.prog g #[opV4 c k a b] w (fun e w' => e = .returned (.bool (rightB c k a b)) ∧ Framed w w') := by
  refine (specs05_ok (g, spRight) hg [opA] _ (env4 c k a b) w [opV4 c k a b] rfl rfl).mono fun e w' ⟨v, he, hf, u, hu, hd, _⟩ => ⟨?_, hf⟩
  rw [List.mem_singleton.1 hu] at hd
  simp only [AVal.den, tRight_den (ρ := env4 c k a b) (c := .var 0) (k := .var 1) (a := .var 2) (b := .var 3) rfl rfl rfl rfl, Option.map_some, Option.some.injEq] at hd
  rw [he, ← hd]; rfl
def rT (c k a b : IT) : BT := .cmp .eql (.fn 50 (.un 1 c k) (.un 1 a b)) (.lit 1)
def spRightG : SpG := fun args H nl cs => match args with
  | [.agg [.int .i64 c, .int .i64 k, .int .i64 a, .int .i64 b]] => some [.ret (.bool (rT c k a b)) H nl cs]
  | _ => none
theorem spRightG_ok {β : Base} {g : FuncId} (hG : ∀ I B S V F, β.G I B S V F → F = FO) (hg : (g, spRight) ∈ specs05) : SpGOk Tryd.prog β g spRightG := by
  intro args H nl cs ls ρ w xs hr hx hh hc
  unfold spRightG at hr
  split at hr
  rotate_left
  · cases hr
  rename_i c k a b
  cases hr
  obtain ⟨x, y, z, u, h1, h2, h3, h4, rfl⟩ := den_ints4 hx
  have hF : ρ.F = FO := hG _ _ _ _ _ hh.g
  refine spV_ok (right_calls hg w x y z u) ?_ hh hc
  simp only [rT, AVal.den, BT.den, IT.den, h1, h2, h3, h4, hF, fo50, intCmp, one1, Option.map_some]
def spPar : CallF := spL [(101, spWords false), (97, spWords true), (102, spNumR), (100, spNumA), (45, spRightG), (36, spRightG)]
theorem spPar_ok (w : World) (s : ByteArray) (hT : TabW w) (hM : MaxW w) (hE : ErrW w) : CallOk Tryd.prog (βO w s) spPar := by
  have hF : ∀ I B S V F, (βO w s).G I B S V F → F = FO := fun _ _ _ _ _ h => h.2
  have hGF : ∀ k, GF k (βO w s) := fun k _ _ _ _ _ h x => by rw [h.2]
  refine spL_ok fun p hp => ?_
  simp only [List.mem_cons, List.not_mem_nil, or_false] at hp
  rcases hp with rfl | rfl | rfl | rfl | rfl | rfl
  · exact spWords_ok (hGF 30) fun w H nl ρ hh s hs => words101 w s hs
  · exact spWords_ok (hGF 30) fun w H nl ρ hh s hs => splits97 w (by obtain ⟨m, hm⟩ := hM; exact ⟨m, cell_of' hm rfl hh⟩) s hs
  · exact spNumR_ok (hGF 31)
  · exact spNumA_ok (hGF 31) (hGF 32) rfl hT hE
  · exact spRightG_ok hF (by simp [specs05])
  · exact spRightG_ok hF (by simp [specs05])
-- WHICH NAME THE FIRST WORD IS
def w0T : ST := .dec (.un 0 (.fn 30 (.sv 5) (.lit 0)) (.lit 0))
def csKN (c : Nat) : Cs := nmL.zipIdx.map fun p => (.seq (.lit p.1) w0T, Nat.beq p.2 c)
theorem nm_nodup : nmL.Nodup := by decide
theorem csKN_ok {ρ : Env} {s : ByteArray} {ws : List (List UInt8)} (hS : ρ.S 5 = s) (hF : ρ.F = FO) (hw : FO 30 (encS s) 0 = encW ws) {c : Nat} (hc : codeOf (ws.getD 0 []) = c) : CRel ρ (csKN c) := by
  intro p hp
  obtain ⟨q, hq, rfl⟩ := List.mem_map.1 hp
  have hd : w0T.den ρ = bytes (ws.getD 0 []) := by
    show decS (univ 0 (ρ.F 30 (encS (ρ.S 5)) 0) 0) = _
    rw [hS, hF, hw, un0_0, decS_encS]
  show (BT.seq (.lit q.1) w0T).den ρ = some (Nat.beq q.2 c)
  rw [seqD, hd, bytes_toList]
  show some (q.1 == ws.getD 0 []) = _
  have hg : nmL[q.2]? = some q.1 := by
    have := List.mem_zipIdx' hq
    exact (List.getElem?_eq_getElem this.1).trans (congrArg some this.2.symm)
  obtain ⟨hlt, he⟩ := List.getElem?_eq_some_iff.1 hg
  congr 1
  rw [Bool.eq_iff_iff, beq_iff_eq, Nat.beq_eq]
  constructor
  · intro e
    rw [← hc]
    unfold codeOf
    rw [← e, ← he, nm_nodup.idxOf_getElem]
  · intro e
    rw [← he]
    subst hc
    have h2 : nmL.idxOf (ws.getD 0 []) < nmL.length := by rw [← show q.2 = nmL.idxOf (ws.getD 0 []) from e]; exact hlt
    have := List.getElem_idxOf h2
    simp only [show q.2 = nmL.idxOf (ws.getD 0 []) from e, this]
theorem code_le (w : List UInt8) : codeOf w ≤ 15 := List.idxOf_le_length
def nW : IT := .un 4 (wT s5) (.lit 0)
def csW : Cs := [(.cmp .geq nW (.lit 1), true), (.cmp .leq nW (.lit 10001), true)]
theorem csW_ok {ρ : Env} {s : ByteArray} {ws : List (List UInt8)} (hS : ρ.S 5 = s) (hF : ρ.F = FO) (hw : FO 30 (encS s) 0 = encW ws) (h1 : 1 ≤ ws.length) (h2 : ws.length ≤ 10001) : CRel ρ csW := by
  have hd : nW.den ρ = some (ws.length : Int) := by
    show some (univ 4 (ρ.F 30 (encS (ρ.S 5)) 0) 0) = _
    rw [hS, hF, hw, un4_enc]
  refine CRel_cons.2 ⟨?_, CRel_cons.2 ⟨?_, CRel_nil.2 trivial⟩⟩
  · simp only [BT.den, hd, IT.den, intCmp]; exact congrArg some (decide_eq_true (by omega))
  · simp only [BT.den, hd, IT.den, intCmp]; exact congrArg some (decide_eq_true (by omega))
-- THE REFERENCE'S PARSE
def op0 : Nat × HB := (0, ⟨.cells [.int .i64 (.lit 0), .int .i64 (.lit 0), .int .i64 (.lit 0), .int .i64 (.lit 0)] 26 none, true⟩)
def slW : AVal := .slice 2 (.lit 0) nW (.nv 1)
def bkW : Nat × HB := (2, ⟨.srow (wT s5) 9 nW (some (.nv 1)), true⟩)
def slR : AVal := .slice 2 (.elem (.lit 0) 1 0 (.un 13 (.lit 1) (.nv 1))) (.un 14 nW (.lit 1)) (.un 14 (.nv 1) (.lit 1))
def PL (a : AVal) (hs : List (Nat × HB)) (nl : Nat) (cs : Cs) : Tpl := ⟨[(2, .ptr 0 (.lit 0)), (4, slW), (5, a), (15, slR), (16, .int .i64 (.un 14 nW (.lit 1))), (17, xI 0)], 85, [op0, bkW] ++ hs, nl, [(.cmp .geq (.var 0) (.lit 0), true), (.cmp .leq (.var 0) (.un 14 nW (.lit 1)), true)] ++ csW ++ cs, 3⟩
def slN : AVal := .slice 4 (.lit 0) (.var 3) (.nv 3)
def bkN : Nat × HB := (4, ⟨.arr (.code [.i64] (.var 2)) [.i64] 3 (.var 3) (.lit 0) (some (.nv 3)), true⟩)
def PA : Tpl := PL .sliceNil [] 3 []
def PB : Tpl := PL slN [bkN] 5 [(.cmp .geq (.var 3) (.lit 1), true), (.cmp .leq (.var 3) (.lit 10001), true)]
def PQ (cs : Cs) : Tpl := ⟨[(2, .ptr 0 (.lit 0)), (4, slW), (5, slN), (8, .int .i64 (.lit 0))], 85, [op0, bkW, bkN], 5, csW ++ [(.cmp .eql (.var 3) (.bin .add .i64 nW (.lit 2)), true)] ++ cs, 3⟩
noncomputable def qb0 : Code := ((loopsOf (Tryd.f55.body.getD .ret) []).getD 0 (.ret, [])).1
noncomputable def qk0 : List Item := ((loopsOf (Tryd.f55.body.getD .ret) []).getD 0 (.ret, [])).2
noncomputable def qb1 : Code := ((loopsOf (Tryd.f55.body.getD .ret) []).getD 1 (.ret, [])).1
noncomputable def qk1 : List Item := ((loopsOf (Tryd.f55.body.getD .ret) []).getD 1 (.ret, [])).2
def nE1 : IT := .elem (.lit 1) 1 0 (.lit 0)
def nE2 : IT := .elem (.elem (.lit 1) 1 0 (.lit 1)) 1 0 (.lit 0)
def nE3 : IT := .elem (.elem (.elem (.lit 1) 1 0 (.lit 1)) 1 0 (.lit 1)) 1 0 (.lit 0)
def nX1 : IT := .fn 31 (.scode (.dec (.un 0 (.fn 30 (.sv 5) (.lit 0)) (.elem (.lit 1) 1 0 (.lit 0))))) (.lit 0)
def nX2 : IT := .fn 31 (.scode (.dec (.un 0 (.fn 30 (.sv 5) (.lit 0)) (.elem (.elem (.lit 1) 1 0 (.lit 1)) 1 0 (.lit 0))))) (.lit 0)
def nX3 : IT := .fn 31 (.scode (.dec (.un 0 (.fn 30 (.sv 5) (.lit 0)) (.elem (.elem (.elem (.lit 1) 1 0 (.lit 1)) 1 0 (.lit 1)) 1 0 (.lit 0))))) (.lit 0)
def nM1 : IT := .un 14 nW (.lit 1)
def nM2 : IT := .un 14 nM1 (.lit 1)
def nM3 : IT := .un 14 nM2 (.lit 1)
def nM4 : IT := .un 14 nM3 (.lit 1)
def nY0 : IT := .un 0 (.var 2) (.elem (.lit 0) 1 0 (.lit 0))
def nY1 : IT := .un 0 (.var 2) (.elem (.lit 0) 1 0 (.lit 1))
def nY2 : IT := .un 0 (.var 2) (.elem (.lit 0) 1 0 (.lit 2))
theorem nW_den {ρ : Env} {s : ByteArray} {ws : List (List UInt8)} (hS : ρ.S 5 = s) (hF : ρ.F = FO) (hw : FO 30 (encS s) 0 = encW ws) : nW.den ρ = some (ws.length : Int) := by
  show some (univ 4 (ρ.F 30 (encS (ρ.S 5)) 0) 0) = _
  rw [hS, hF, hw, un4_enc]
theorem nX1_den {ρ : Env} {s : ByteArray} {ws : List (List UInt8)} (hS : ρ.S 5 = s) (hF : ρ.F = FO) (hw : FO 30 (encS s) 0 = encW ws) : nX1.den ρ = some (numL (ws.getD 1 [])) := by
  show some (ρ.F 31 (encS (decS (univ 0 (ρ.F 30 (encS (ρ.S 5)) 0) 1))) 0) = _
  rw [hS, hF, hw, un0_1, decS_encS, fo31]
theorem nX2_den {ρ : Env} {s : ByteArray} {ws : List (List UInt8)} (hS : ρ.S 5 = s) (hF : ρ.F = FO) (hw : FO 30 (encS s) 0 = encW ws) : nX2.den ρ = some (numL (ws.getD 2 [])) := by
  show some (ρ.F 31 (encS (decS (univ 0 (ρ.F 30 (encS (ρ.S 5)) 0) 2))) 0) = _
  rw [hS, hF, hw, un0_2, decS_encS, fo31]
theorem nX3_den {ρ : Env} {s : ByteArray} {ws : List (List UInt8)} (hS : ρ.S 5 = s) (hF : ρ.F = FO) (hw : FO 30 (encS s) 0 = encW ws) : nX3.den ρ = some (numL (ws.getD 3 [])) := by
  show some (ρ.F 31 (encS (decS (univ 0 (ρ.F 30 (encS (ρ.S 5)) 0) 3))) 0) = _
  rw [hS, hF, hw, un0_3, decS_encS, fo31]
theorem nM_den {ρ : Env} {t : IT} {m : Nat} (h : t.den ρ = some (m : Int)) : (IT.un 14 t (.lit 1)).den ρ = some ((m - 1 : Nat) : Int) := by
  simp only [IT.den, h, u14]
  congr 1
  split <;> omega
theorem nE1_den {ρ : Env} : nE1.den ρ = some 1 := rfl
theorem nE2_den {ρ : Env} : nE2.den ρ = some 2 := rfl
theorem nE3_den {ρ : Env} : nE3.den ρ = some 3 := rfl
theorem nY0_den {ρ : Env} {l : List Int} (h : ρ.I 2 = encL l) : nY0.den ρ = some (l.getD 0 0) := by
  show some (univ 0 (ρ.I 2) 0) = _
  rw [h, unN_0]
theorem nY1_den {ρ : Env} {l : List Int} (h : ρ.I 2 = encL l) : nY1.den ρ = some (l.getD 1 0) := by
  show some (univ 0 (ρ.I 2) 1) = _
  rw [h, unN_1]
theorem nY2_den {ρ : Env} {l : List Int} (h : ρ.I 2 = encL l) : nY2.den ρ = some (l.getD 2 0) := by
  show some (univ 0 (ρ.I 2) 2) = _
  rw [h, unN_2]
def kc0 : BT × Bool := ((.cmp .gtr nM1 (.lit 0)), true)
def kc1 : BT × Bool := ((.cmp .geq (.lit 1) (.lit 0)), true)
def kc2 : BT × Bool := ((.cmp .leq (.lit 1) nW), true)
def kc3 : BT × Bool := ((.cmp .geq (.lit 0) (.lit 0)), true)
def kc4 : BT × Bool := ((.cmp .lss (.lit 0) nW), true)
def kc5 : BT × Bool := ((.cmp .leq (.slen (.var 5)) (.lit 10000)), true)
def kc6 : BT × Bool := ((.cmp .geq nW (.lit 1)), true)
def kc7 : BT × Bool := ((.cmp .leq nW (.lit 10001)), true)
def kc8 : BT × Bool := ((.not (.cmp .eql (.fn 50 (.un 1 (.lit 0) (.lit 0)) (.un 1 (.lit 0) (.lit 0))) (.lit 1))), true)
def kc9 : BT × Bool := ((.cmp .gtr nM1 (.lit 0)), false)
def kc10 : BT × Bool := ((.not (.cmp .eql (.fn 50 (.un 1 (.lit 0) (.lit 0)) (.un 1 (.lit 0) (.lit 0))) (.lit 1))), false)
def kc11 : BT × Bool := ((.cmp .eql (.fn 50 (.un 1 (.lit 0) (.lit 0)) (.un 1 (.lit 0) (.lit 0))) (.lit 1)), true)
def kc12 : BT × Bool := ((.cmp .eql (.lit 0) (.bin .sub .i64 nW (.lit 1))), true)
def kc13 : BT × Bool := ((.cmp .eql (.var 3) (.bin .add .i64 nW (.lit 2))), true)
def kc14 : BT × Bool := ((.cmp .eql (.fn 50 (.un 1 (.lit 0) (.lit 0)) (.un 1 (.lit 0) (.lit 0))) (.lit 1)), false)
def kc15 : BT × Bool := ((.cmp .eql (.lit 0) (.bin .sub .i64 nW (.lit 1))), false)
def kc16 : BT × Bool := ((.cmp .eql nM1 (.lit 0)), true)
def kc17 : BT × Bool := ((.cmp .gtr nM2 (.lit 0)), true)
def kc18 : BT × Bool := ((.cmp .leq (.lit 1) nM1), true)
def kc19 : BT × Bool := ((.cmp .geq nX1 (.lit 0)), true)
def kc20 : BT × Bool := ((.cmp .geq nE1 (.lit 0)), true)
def kc21 : BT × Bool := ((.cmp .lss nE1 nW), true)
def kc22 : BT × Bool := ((.cmp .lss (.lit 0) nM1), true)
def kc23 : BT × Bool := ((.cmp .eql nM1 (.lit 0)), false)
def kc24 : BT × Bool := ((.not (.cmp .eql (.fn 50 (.un 1 (.lit 1) (.lit 0)) (.un 1 nX1 (.lit 0))) (.lit 1))), true)
def kc25 : BT × Bool := ((.cmp .gtr nM2 (.lit 0)), false)
def kc26 : BT × Bool := ((.not (.cmp .eql (.fn 50 (.un 1 (.lit 1) (.lit 0)) (.un 1 nX1 (.lit 0))) (.lit 1))), false)
def kc27 : BT × Bool := ((.cmp .geq nX1 (.lit 0)), false)
def kc28 : BT × Bool := ((.cmp .geq nE1 (.lit 0)), false)
def kc29 : BT × Bool := ((.cmp .lss nE1 nW), false)
def kc30 : BT × Bool := ((.cmp .lss (.lit 0) nM1), false)
def kc31 : BT × Bool := ((.cmp .eql (.fn 50 (.un 1 (.lit 1) (.lit 0)) (.un 1 nY0 (.lit 0))) (.lit 1)), true)
def kc32 : BT × Bool := ((.cmp .eql (.lit 1) (.bin .sub .i64 nW (.lit 1))), true)
def kc33 : BT × Bool := ((.cmp .lss (.lit 0) (.var 3)), true)
def kc34 : BT × Bool := ((.cmp .eql (.fn 50 (.un 1 (.lit 1) (.lit 0)) (.un 1 nY0 (.lit 0))) (.lit 1)), false)
def kc35 : BT × Bool := ((.cmp .eql (.lit 1) (.bin .sub .i64 nW (.lit 1))), false)
def kc36 : BT × Bool := ((.cmp .lss (.lit 0) (.var 3)), false)
def kc37 : BT × Bool := ((.not (.cmp .eql (.fn 50 (.un 1 (.lit 2) (.lit 0)) (.un 1 (.lit 0) (.lit 0))) (.lit 1))), true)
def kc38 : BT × Bool := ((.not (.cmp .eql (.fn 50 (.un 1 (.lit 2) (.lit 0)) (.un 1 (.lit 0) (.lit 0))) (.lit 1))), false)
def kc39 : BT × Bool := ((.cmp .eql (.fn 50 (.un 1 (.lit 2) (.lit 0)) (.un 1 (.lit 0) (.lit 0))) (.lit 1)), true)
def kc40 : BT × Bool := ((.cmp .eql (.fn 50 (.un 1 (.lit 2) (.lit 0)) (.un 1 (.lit 0) (.lit 0))) (.lit 1)), false)
def kc41 : BT × Bool := ((.not (.cmp .eql (.fn 50 (.un 1 (.lit 3) (.lit 0)) (.un 1 (.lit 0) (.lit 0))) (.lit 1))), true)
def kc42 : BT × Bool := ((.not (.cmp .eql (.fn 50 (.un 1 (.lit 3) (.lit 0)) (.un 1 (.lit 0) (.lit 0))) (.lit 1))), false)
def kc43 : BT × Bool := ((.cmp .eql (.fn 50 (.un 1 (.lit 3) (.lit 0)) (.un 1 (.lit 0) (.lit 0))) (.lit 1)), true)
def kc44 : BT × Bool := ((.cmp .eql (.fn 50 (.un 1 (.lit 3) (.lit 0)) (.un 1 (.lit 0) (.lit 0))) (.lit 1)), false)
def kc45 : BT × Bool := ((.not (.cmp .eql (.fn 50 (.un 1 (.lit 4) nX1) (.un 1 (.lit 0) (.lit 0))) (.lit 1))), true)
def kc46 : BT × Bool := ((.not (.cmp .eql (.fn 50 (.un 1 (.lit 4) nX1) (.un 1 (.lit 0) (.lit 0))) (.lit 1))), false)
def kc47 : BT × Bool := ((.cmp .eql (.fn 50 (.un 1 (.lit 4) nY0) (.un 1 (.lit 0) (.lit 0))) (.lit 1)), true)
def kc48 : BT × Bool := ((.cmp .eql (.fn 50 (.un 1 (.lit 4) nY0) (.un 1 (.lit 0) (.lit 0))) (.lit 1)), false)
def kc49 : BT × Bool := ((.cmp .eql nM2 (.lit 0)), true)
def kc50 : BT × Bool := ((.cmp .gtr nM3 (.lit 0)), true)
def kc51 : BT × Bool := ((.cmp .leq (.lit 1) nM2), true)
def kc52 : BT × Bool := ((.cmp .geq nX2 (.lit 0)), true)
def kc53 : BT × Bool := ((.cmp .geq nE2 (.lit 0)), true)
def kc54 : BT × Bool := ((.cmp .lss nE2 nW), true)
def kc55 : BT × Bool := ((.cmp .lss (.lit 0) nM2), true)
def kc56 : BT × Bool := ((.cmp .eql nM2 (.lit 0)), false)
def kc57 : BT × Bool := ((.not (.cmp .eql (.fn 50 (.un 1 (.lit 5) nX1) (.un 1 nX2 (.lit 0))) (.lit 1))), true)
def kc58 : BT × Bool := ((.cmp .gtr nM3 (.lit 0)), false)
def kc59 : BT × Bool := ((.not (.cmp .eql (.fn 50 (.un 1 (.lit 5) nX1) (.un 1 nX2 (.lit 0))) (.lit 1))), false)
def kc60 : BT × Bool := ((.cmp .geq nX2 (.lit 0)), false)
def kc61 : BT × Bool := ((.cmp .geq nE2 (.lit 0)), false)
def kc62 : BT × Bool := ((.cmp .lss nE2 nW), false)
def kc63 : BT × Bool := ((.cmp .lss (.lit 0) nM2), false)
def kc64 : BT × Bool := ((.cmp .eql (.fn 50 (.un 1 (.lit 5) nY0) (.un 1 nY1 (.lit 0))) (.lit 1)), true)
def kc65 : BT × Bool := ((.cmp .eql (.lit 2) (.bin .sub .i64 nW (.lit 1))), true)
def kc66 : BT × Bool := ((.cmp .lss (.lit 1) (.var 3)), true)
def kc67 : BT × Bool := ((.cmp .eql (.fn 50 (.un 1 (.lit 5) nY0) (.un 1 nY1 (.lit 0))) (.lit 1)), false)
def kc68 : BT × Bool := ((.cmp .eql (.lit 2) (.bin .sub .i64 nW (.lit 1))), false)
def kc69 : BT × Bool := ((.cmp .lss (.lit 1) (.var 3)), false)
def kc70 : BT × Bool := ((.not (.cmp .eql (.fn 50 (.un 1 (.lit 6) nX1) (.un 1 (.lit 0) (.lit 0))) (.lit 1))), true)
def kc71 : BT × Bool := ((.not (.cmp .eql (.fn 50 (.un 1 (.lit 6) nX1) (.un 1 (.lit 0) (.lit 0))) (.lit 1))), false)
def kc72 : BT × Bool := ((.cmp .eql (.fn 50 (.un 1 (.lit 6) nY0) (.un 1 (.lit 0) (.lit 0))) (.lit 1)), true)
def kc73 : BT × Bool := ((.cmp .eql (.fn 50 (.un 1 (.lit 6) nY0) (.un 1 (.lit 0) (.lit 0))) (.lit 1)), false)
def kc74 : BT × Bool := ((.cmp .eql nM3 (.lit 0)), true)
def kc75 : BT × Bool := ((.cmp .gtr nM4 (.lit 0)), true)
def kc76 : BT × Bool := ((.cmp .leq (.lit 1) nM3), true)
def kc77 : BT × Bool := ((.cmp .geq nX3 (.lit 0)), true)
def kc78 : BT × Bool := ((.cmp .geq nE3 (.lit 0)), true)
def kc79 : BT × Bool := ((.cmp .lss nE3 nW), true)
def kc80 : BT × Bool := ((.cmp .lss (.lit 0) nM3), true)
def kc81 : BT × Bool := ((.cmp .eql nM3 (.lit 0)), false)
def kc82 : BT × Bool := ((.not (.cmp .eql (.fn 50 (.un 1 (.lit 7) nX1) (.un 1 nX2 nX3)) (.lit 1))), true)
def kc83 : BT × Bool := ((.cmp .gtr nM4 (.lit 0)), false)
def kc84 : BT × Bool := ((.not (.cmp .eql (.fn 50 (.un 1 (.lit 7) nX1) (.un 1 nX2 nX3)) (.lit 1))), false)
def kc85 : BT × Bool := ((.cmp .geq nX3 (.lit 0)), false)
def kc86 : BT × Bool := ((.cmp .geq nE3 (.lit 0)), false)
def kc87 : BT × Bool := ((.cmp .lss nE3 nW), false)
def kc88 : BT × Bool := ((.cmp .lss (.lit 0) nM3), false)
def kc89 : BT × Bool := ((.cmp .eql (.fn 50 (.un 1 (.lit 7) nY0) (.un 1 nY1 nY2)) (.lit 1)), true)
def kc90 : BT × Bool := ((.cmp .eql (.lit 3) (.bin .sub .i64 nW (.lit 1))), true)
def kc91 : BT × Bool := ((.cmp .geq (.lit 2) (.lit 0)), true)
def kc92 : BT × Bool := ((.cmp .lss (.lit 2) (.var 3)), true)
def kc93 : BT × Bool := ((.cmp .eql (.fn 50 (.un 1 (.lit 7) nY0) (.un 1 nY1 nY2)) (.lit 1)), false)
def kc94 : BT × Bool := ((.cmp .eql (.lit 3) (.bin .sub .i64 nW (.lit 1))), false)
def kc95 : BT × Bool := ((.cmp .lss (.lit 2) (.var 3)), false)
def kc96 : BT × Bool := ((.not (.cmp .eql (.fn 50 (.un 1 (.lit 8) (.lit 0)) (.un 1 (.lit 0) (.lit 0))) (.lit 1))), true)
def kc97 : BT × Bool := ((.not (.cmp .eql (.fn 50 (.un 1 (.lit 8) (.lit 0)) (.un 1 (.lit 0) (.lit 0))) (.lit 1))), false)
def kc98 : BT × Bool := ((.cmp .eql (.fn 50 (.un 1 (.lit 8) (.lit 0)) (.un 1 (.lit 0) (.lit 0))) (.lit 1)), true)
def kc99 : BT × Bool := ((.cmp .eql (.fn 50 (.un 1 (.lit 8) (.lit 0)) (.un 1 (.lit 0) (.lit 0))) (.lit 1)), false)
def kc100 : BT × Bool := ((.not (.cmp .eql (.fn 50 (.un 1 (.lit 9) nX1) (.un 1 (.lit 0) (.lit 0))) (.lit 1))), true)
def kc101 : BT × Bool := ((.not (.cmp .eql (.fn 50 (.un 1 (.lit 9) nX1) (.un 1 (.lit 0) (.lit 0))) (.lit 1))), false)
def kc102 : BT × Bool := ((.cmp .eql (.fn 50 (.un 1 (.lit 9) nY0) (.un 1 (.lit 0) (.lit 0))) (.lit 1)), true)
def kc103 : BT × Bool := ((.cmp .eql (.fn 50 (.un 1 (.lit 9) nY0) (.un 1 (.lit 0) (.lit 0))) (.lit 1)), false)
def kc104 : BT × Bool := ((.not (.cmp .eql (.fn 50 (.un 1 (.lit 10) nX1) (.un 1 nX2 (.lit 0))) (.lit 1))), true)
def kc105 : BT × Bool := ((.not (.cmp .eql (.fn 50 (.un 1 (.lit 10) nX1) (.un 1 nX2 (.lit 0))) (.lit 1))), false)
def kc106 : BT × Bool := ((.cmp .eql (.fn 50 (.un 1 (.lit 10) nY0) (.un 1 nY1 (.lit 0))) (.lit 1)), true)
def kc107 : BT × Bool := ((.cmp .eql (.fn 50 (.un 1 (.lit 10) nY0) (.un 1 nY1 (.lit 0))) (.lit 1)), false)
def kc108 : BT × Bool := ((.not (.cmp .eql (.fn 50 (.un 1 (.lit 11) nX1) (.un 1 (.lit 0) (.lit 0))) (.lit 1))), true)
def kc109 : BT × Bool := ((.not (.cmp .eql (.fn 50 (.un 1 (.lit 11) nX1) (.un 1 (.lit 0) (.lit 0))) (.lit 1))), false)
def kc110 : BT × Bool := ((.cmp .eql (.fn 50 (.un 1 (.lit 11) nY0) (.un 1 (.lit 0) (.lit 0))) (.lit 1)), true)
def kc111 : BT × Bool := ((.cmp .eql (.fn 50 (.un 1 (.lit 11) nY0) (.un 1 (.lit 0) (.lit 0))) (.lit 1)), false)
def kc112 : BT × Bool := ((.not (.cmp .eql (.fn 50 (.un 1 (.lit 12) nX1) (.un 1 (.lit 0) (.lit 0))) (.lit 1))), true)
def kc113 : BT × Bool := ((.not (.cmp .eql (.fn 50 (.un 1 (.lit 12) nX1) (.un 1 (.lit 0) (.lit 0))) (.lit 1))), false)
def kc114 : BT × Bool := ((.cmp .eql (.fn 50 (.un 1 (.lit 12) nY0) (.un 1 (.lit 0) (.lit 0))) (.lit 1)), true)
def kc115 : BT × Bool := ((.cmp .eql (.fn 50 (.un 1 (.lit 12) nY0) (.un 1 (.lit 0) (.lit 0))) (.lit 1)), false)
def kc116 : BT × Bool := ((.not (.cmp .eql (.fn 50 (.un 1 (.lit 13) nX1) (.un 1 (.lit 0) (.lit 0))) (.lit 1))), true)
def kc117 : BT × Bool := ((.not (.cmp .eql (.fn 50 (.un 1 (.lit 13) nX1) (.un 1 (.lit 0) (.lit 0))) (.lit 1))), false)
def kc118 : BT × Bool := ((.cmp .eql (.fn 50 (.un 1 (.lit 13) nY0) (.un 1 (.lit 0) (.lit 0))) (.lit 1)), true)
def kc119 : BT × Bool := ((.cmp .eql (.fn 50 (.un 1 (.lit 13) nY0) (.un 1 (.lit 0) (.lit 0))) (.lit 1)), false)
def kc120 : BT × Bool := ((.not (.cmp .eql (.fn 50 (.un 1 (.lit 14) nX1) (.un 1 (.lit 0) (.lit 0))) (.lit 1))), true)
def kc121 : BT × Bool := ((.not (.cmp .eql (.fn 50 (.un 1 (.lit 14) nX1) (.un 1 (.lit 0) (.lit 0))) (.lit 1))), false)
def kc122 : BT × Bool := ((.cmp .eql (.fn 50 (.un 1 (.lit 14) nY0) (.un 1 (.lit 0) (.lit 0))) (.lit 1)), true)
def kc123 : BT × Bool := ((.cmp .eql (.fn 50 (.un 1 (.lit 14) nY0) (.un 1 (.lit 0) (.lit 0))) (.lit 1)), false)
def sP0 : List LS := [.ret (.tuple [(.agg [(.int .i64 (.lit 0)), (.int .i64 (.lit 0)), (.int .i64 (.lit 0)), (.int .i64 (.lit 0))]), (.bool (.lit false))]) ([kc0, kc1, kc2, kc3, kc4, kc5, kc6, kc7] ++ csKN 0),
  .ret (.tuple [(.agg [(.int .i64 (.lit 0)), (.int .i64 (.lit 0)), (.int .i64 (.lit 0)), (.int .i64 (.lit 0))]), (.bool (.lit false))]) ([kc8, kc9, kc1, kc2, kc3, kc4, kc5, kc6, kc7] ++ csKN 0),
  .ret (.tuple [(.agg [(.int .i64 (.lit 0)), (.int .i64 (.lit 0)), (.int .i64 (.lit 0)), (.int .i64 (.lit 0))]), (.bool (.lit true))]) ([kc10, kc9, kc1, kc2, kc3, kc4, kc5, kc6, kc7] ++ csKN 0)]
theorem rP0 : (run Tryd.prog [(127, .same)] spPar 8000 false 54 (entry Tryd.f54 (Tryd.f54.body.getD .ret) [.str s5] .leaf 0 (lenC 10000 :: csW ++ csKN 0))).map (·.filterMap (sumL g5 [])) = some sP0 := by kernel_rfl
def sQ0 : List LS := [.ret (.tuple [(.agg [(.int .i64 (.lit 0)), (.int .i64 (.lit 0)), (.int .i64 (.lit 0)), (.int .i64 (.lit 0))]), (.bool (.lit true))]) ([kc11, kc12, kc3, kc4, kc6, kc7, kc13] ++ csKN 0),
  .ret (.tuple [(.agg [(.int .i64 (.lit 0)), (.int .i64 (.lit 0)), (.int .i64 (.lit 0)), (.int .i64 (.lit 0))]), (.bool (.lit false))]) ([kc14, kc12, kc3, kc4, kc6, kc7, kc13] ++ csKN 0),
  .ret (.tuple [(.agg [(.int .i64 (.lit 0)), (.int .i64 (.lit 0)), (.int .i64 (.lit 0)), (.int .i64 (.lit 0))]), (.bool (.lit false))]) ([kc15, kc3, kc4, kc6, kc7, kc13] ++ csKN 0)]
theorem rQ0 : (run Tryd.prog [(127, .same)] spPar 8000 false 55 ((PQ (csKN 0)).st (.code (.loop qb1) :: qk1))).map (·.filterMap (sumL g5 [])) = some sQ0 := by kernel_rfl
def sP1 : List LS := [.ret (.tuple [(.agg [(.int .i64 (.lit 0)), (.int .i64 (.lit 0)), (.int .i64 (.lit 0)), (.int .i64 (.lit 0))]), (.bool (.lit false))]) ([kc16, kc1, kc2, kc3, kc4, kc5, kc6, kc7] ++ csKN 1),
  .ret (.tuple [(.agg [(.int .i64 (.lit 0)), (.int .i64 (.lit 0)), (.int .i64 (.lit 0)), (.int .i64 (.lit 0))]), (.bool (.lit false))]) ([kc17, kc18, kc19, kc20, kc21, kc22, kc23, kc1, kc2, kc3, kc4, kc5, kc6, kc7] ++ csKN 1),
  .ret (.tuple [(.agg [(.int .i64 (.lit 0)), (.int .i64 (.lit 0)), (.int .i64 (.lit 0)), (.int .i64 (.lit 0))]), (.bool (.lit false))]) ([kc24, kc25, kc18, kc19, kc20, kc21, kc22, kc23, kc1, kc2, kc3, kc4, kc5, kc6, kc7] ++ csKN 1),
  .ret (.tuple [(.agg [(.int .i64 (.lit 1)), (.int .i64 (.lit 0)), (.int .i64 nX1), (.int .i64 (.lit 0))]), (.bool (.lit true))]) ([kc26, kc25, kc18, kc19, kc20, kc21, kc22, kc23, kc1, kc2, kc3, kc4, kc5, kc6, kc7] ++ csKN 1),
  .ret (.tuple [(.agg [(.int .i64 (.lit 0)), (.int .i64 (.lit 0)), (.int .i64 (.lit 0)), (.int .i64 (.lit 0))]), (.bool (.lit false))]) ([kc27, kc20, kc21, kc22, kc23, kc1, kc2, kc3, kc4, kc5, kc6, kc7] ++ csKN 1),
  .stop ([kc28, kc22, kc23, kc1, kc2, kc3, kc4, kc5, kc6, kc7] ++ csKN 1),
  .stop ([kc29, kc22, kc23, kc1, kc2, kc3, kc4, kc5, kc6, kc7] ++ csKN 1),
  .stop ([kc30, kc23, kc1, kc2, kc3, kc4, kc5, kc6, kc7] ++ csKN 1)]
theorem rP1 : (run Tryd.prog [(127, .same)] spPar 8000 false 54 (entry Tryd.f54 (Tryd.f54.body.getD .ret) [.str s5] .leaf 0 (lenC 10000 :: csW ++ csKN 1))).map (·.filterMap (sumL g5 [])) = some sP1 := by kernel_rfl
def sQ1 : List LS := [.ret (.tuple [(.agg [(.int .i64 (.lit 1)), (.int .i64 (.lit 0)), (.int .i64 nY0), (.int .i64 (.lit 0))]), (.bool (.lit true))]) ([kc31, kc32, kc33, kc3, kc4, kc6, kc7, kc13] ++ csKN 1),
  .ret (.tuple [(.agg [(.int .i64 (.lit 0)), (.int .i64 (.lit 0)), (.int .i64 (.lit 0)), (.int .i64 (.lit 0))]), (.bool (.lit false))]) ([kc34, kc32, kc33, kc3, kc4, kc6, kc7, kc13] ++ csKN 1),
  .ret (.tuple [(.agg [(.int .i64 (.lit 0)), (.int .i64 (.lit 0)), (.int .i64 (.lit 0)), (.int .i64 (.lit 0))]), (.bool (.lit false))]) ([kc35, kc33, kc3, kc4, kc6, kc7, kc13] ++ csKN 1),
  .stop ([kc36, kc3, kc4, kc6, kc7, kc13] ++ csKN 1)]
theorem rQ1 : (run Tryd.prog [(127, .same)] spPar 8000 false 55 ((PQ (csKN 1)).st (.code (.loop qb1) :: qk1))).map (·.filterMap (sumL g5 [])) = some sQ1 := by kernel_rfl
def sP2 : List LS := [.ret (.tuple [(.agg [(.int .i64 (.lit 0)), (.int .i64 (.lit 0)), (.int .i64 (.lit 0)), (.int .i64 (.lit 0))]), (.bool (.lit false))]) ([kc0, kc1, kc2, kc3, kc4, kc5, kc6, kc7] ++ csKN 2),
  .ret (.tuple [(.agg [(.int .i64 (.lit 0)), (.int .i64 (.lit 0)), (.int .i64 (.lit 0)), (.int .i64 (.lit 0))]), (.bool (.lit false))]) ([kc37, kc9, kc1, kc2, kc3, kc4, kc5, kc6, kc7] ++ csKN 2),
  .ret (.tuple [(.agg [(.int .i64 (.lit 2)), (.int .i64 (.lit 0)), (.int .i64 (.lit 0)), (.int .i64 (.lit 0))]), (.bool (.lit true))]) ([kc38, kc9, kc1, kc2, kc3, kc4, kc5, kc6, kc7] ++ csKN 2)]
theorem rP2 : (run Tryd.prog [(127, .same)] spPar 8000 false 54 (entry Tryd.f54 (Tryd.f54.body.getD .ret) [.str s5] .leaf 0 (lenC 10000 :: csW ++ csKN 2))).map (·.filterMap (sumL g5 [])) = some sP2 := by kernel_rfl
def sQ2 : List LS := [.ret (.tuple [(.agg [(.int .i64 (.lit 2)), (.int .i64 (.lit 0)), (.int .i64 (.lit 0)), (.int .i64 (.lit 0))]), (.bool (.lit true))]) ([kc39, kc12, kc3, kc4, kc6, kc7, kc13] ++ csKN 2),
  .ret (.tuple [(.agg [(.int .i64 (.lit 0)), (.int .i64 (.lit 0)), (.int .i64 (.lit 0)), (.int .i64 (.lit 0))]), (.bool (.lit false))]) ([kc40, kc12, kc3, kc4, kc6, kc7, kc13] ++ csKN 2),
  .ret (.tuple [(.agg [(.int .i64 (.lit 0)), (.int .i64 (.lit 0)), (.int .i64 (.lit 0)), (.int .i64 (.lit 0))]), (.bool (.lit false))]) ([kc15, kc3, kc4, kc6, kc7, kc13] ++ csKN 2)]
theorem rQ2 : (run Tryd.prog [(127, .same)] spPar 8000 false 55 ((PQ (csKN 2)).st (.code (.loop qb1) :: qk1))).map (·.filterMap (sumL g5 [])) = some sQ2 := by kernel_rfl
def sP3 : List LS := [.ret (.tuple [(.agg [(.int .i64 (.lit 0)), (.int .i64 (.lit 0)), (.int .i64 (.lit 0)), (.int .i64 (.lit 0))]), (.bool (.lit false))]) ([kc0, kc1, kc2, kc3, kc4, kc5, kc6, kc7] ++ csKN 3),
  .ret (.tuple [(.agg [(.int .i64 (.lit 0)), (.int .i64 (.lit 0)), (.int .i64 (.lit 0)), (.int .i64 (.lit 0))]), (.bool (.lit false))]) ([kc41, kc9, kc1, kc2, kc3, kc4, kc5, kc6, kc7] ++ csKN 3),
  .ret (.tuple [(.agg [(.int .i64 (.lit 3)), (.int .i64 (.lit 0)), (.int .i64 (.lit 0)), (.int .i64 (.lit 0))]), (.bool (.lit true))]) ([kc42, kc9, kc1, kc2, kc3, kc4, kc5, kc6, kc7] ++ csKN 3)]
theorem rP3 : (run Tryd.prog [(127, .same)] spPar 8000 false 54 (entry Tryd.f54 (Tryd.f54.body.getD .ret) [.str s5] .leaf 0 (lenC 10000 :: csW ++ csKN 3))).map (·.filterMap (sumL g5 [])) = some sP3 := by kernel_rfl
def sQ3 : List LS := [.ret (.tuple [(.agg [(.int .i64 (.lit 3)), (.int .i64 (.lit 0)), (.int .i64 (.lit 0)), (.int .i64 (.lit 0))]), (.bool (.lit true))]) ([kc43, kc12, kc3, kc4, kc6, kc7, kc13] ++ csKN 3),
  .ret (.tuple [(.agg [(.int .i64 (.lit 0)), (.int .i64 (.lit 0)), (.int .i64 (.lit 0)), (.int .i64 (.lit 0))]), (.bool (.lit false))]) ([kc44, kc12, kc3, kc4, kc6, kc7, kc13] ++ csKN 3),
  .ret (.tuple [(.agg [(.int .i64 (.lit 0)), (.int .i64 (.lit 0)), (.int .i64 (.lit 0)), (.int .i64 (.lit 0))]), (.bool (.lit false))]) ([kc15, kc3, kc4, kc6, kc7, kc13] ++ csKN 3)]
theorem rQ3 : (run Tryd.prog [(127, .same)] spPar 8000 false 55 ((PQ (csKN 3)).st (.code (.loop qb1) :: qk1))).map (·.filterMap (sumL g5 [])) = some sQ3 := by kernel_rfl
def sP4 : List LS := [.ret (.tuple [(.agg [(.int .i64 (.lit 0)), (.int .i64 (.lit 0)), (.int .i64 (.lit 0)), (.int .i64 (.lit 0))]), (.bool (.lit false))]) ([kc16, kc1, kc2, kc3, kc4, kc5, kc6, kc7] ++ csKN 4),
  .ret (.tuple [(.agg [(.int .i64 (.lit 0)), (.int .i64 (.lit 0)), (.int .i64 (.lit 0)), (.int .i64 (.lit 0))]), (.bool (.lit false))]) ([kc17, kc18, kc19, kc20, kc21, kc22, kc23, kc1, kc2, kc3, kc4, kc5, kc6, kc7] ++ csKN 4),
  .ret (.tuple [(.agg [(.int .i64 (.lit 0)), (.int .i64 (.lit 0)), (.int .i64 (.lit 0)), (.int .i64 (.lit 0))]), (.bool (.lit false))]) ([kc45, kc25, kc18, kc19, kc20, kc21, kc22, kc23, kc1, kc2, kc3, kc4, kc5, kc6, kc7] ++ csKN 4),
  .ret (.tuple [(.agg [(.int .i64 (.lit 4)), (.int .i64 nX1), (.int .i64 (.lit 0)), (.int .i64 (.lit 0))]), (.bool (.lit true))]) ([kc46, kc25, kc18, kc19, kc20, kc21, kc22, kc23, kc1, kc2, kc3, kc4, kc5, kc6, kc7] ++ csKN 4),
  .ret (.tuple [(.agg [(.int .i64 (.lit 0)), (.int .i64 (.lit 0)), (.int .i64 (.lit 0)), (.int .i64 (.lit 0))]), (.bool (.lit false))]) ([kc27, kc20, kc21, kc22, kc23, kc1, kc2, kc3, kc4, kc5, kc6, kc7] ++ csKN 4),
  .stop ([kc28, kc22, kc23, kc1, kc2, kc3, kc4, kc5, kc6, kc7] ++ csKN 4),
  .stop ([kc29, kc22, kc23, kc1, kc2, kc3, kc4, kc5, kc6, kc7] ++ csKN 4),
  .stop ([kc30, kc23, kc1, kc2, kc3, kc4, kc5, kc6, kc7] ++ csKN 4)]
theorem rP4 : (run Tryd.prog [(127, .same)] spPar 8000 false 54 (entry Tryd.f54 (Tryd.f54.body.getD .ret) [.str s5] .leaf 0 (lenC 10000 :: csW ++ csKN 4))).map (·.filterMap (sumL g5 [])) = some sP4 := by kernel_rfl
def sQ4 : List LS := [.ret (.tuple [(.agg [(.int .i64 (.lit 4)), (.int .i64 nY0), (.int .i64 (.lit 0)), (.int .i64 (.lit 0))]), (.bool (.lit true))]) ([kc47, kc32, kc33, kc3, kc4, kc6, kc7, kc13] ++ csKN 4),
  .ret (.tuple [(.agg [(.int .i64 (.lit 0)), (.int .i64 (.lit 0)), (.int .i64 (.lit 0)), (.int .i64 (.lit 0))]), (.bool (.lit false))]) ([kc48, kc32, kc33, kc3, kc4, kc6, kc7, kc13] ++ csKN 4),
  .ret (.tuple [(.agg [(.int .i64 (.lit 0)), (.int .i64 (.lit 0)), (.int .i64 (.lit 0)), (.int .i64 (.lit 0))]), (.bool (.lit false))]) ([kc35, kc33, kc3, kc4, kc6, kc7, kc13] ++ csKN 4),
  .stop ([kc36, kc3, kc4, kc6, kc7, kc13] ++ csKN 4)]
theorem rQ4 : (run Tryd.prog [(127, .same)] spPar 8000 false 55 ((PQ (csKN 4)).st (.code (.loop qb1) :: qk1))).map (·.filterMap (sumL g5 [])) = some sQ4 := by kernel_rfl
def sP5 : List LS := [.ret (.tuple [(.agg [(.int .i64 (.lit 0)), (.int .i64 (.lit 0)), (.int .i64 (.lit 0)), (.int .i64 (.lit 0))]), (.bool (.lit false))]) ([kc16, kc1, kc2, kc3, kc4, kc5, kc6, kc7] ++ csKN 5),
  .ret (.tuple [(.agg [(.int .i64 (.lit 0)), (.int .i64 (.lit 0)), (.int .i64 (.lit 0)), (.int .i64 (.lit 0))]), (.bool (.lit false))]) ([kc49, kc18, kc19, kc20, kc21, kc22, kc23, kc1, kc2, kc3, kc4, kc5, kc6, kc7] ++ csKN 5),
  .ret (.tuple [(.agg [(.int .i64 (.lit 0)), (.int .i64 (.lit 0)), (.int .i64 (.lit 0)), (.int .i64 (.lit 0))]), (.bool (.lit false))]) ([kc50, kc51, kc52, kc53, kc54, kc55, kc56, kc18, kc19, kc20, kc21, kc22, kc23, kc1, kc2, kc3, kc4, kc5, kc6, kc7] ++ csKN 5),
  .ret (.tuple [(.agg [(.int .i64 (.lit 0)), (.int .i64 (.lit 0)), (.int .i64 (.lit 0)), (.int .i64 (.lit 0))]), (.bool (.lit false))]) ([kc57, kc58, kc51, kc52, kc53, kc54, kc55, kc56, kc18, kc19, kc20, kc21, kc22, kc23, kc1, kc2, kc3, kc4, kc5, kc6, kc7] ++ csKN 5),
  .ret (.tuple [(.agg [(.int .i64 (.lit 5)), (.int .i64 nX1), (.int .i64 nX2), (.int .i64 (.lit 0))]), (.bool (.lit true))]) ([kc59, kc58, kc51, kc52, kc53, kc54, kc55, kc56, kc18, kc19, kc20, kc21, kc22, kc23, kc1, kc2, kc3, kc4, kc5, kc6, kc7] ++ csKN 5),
  .ret (.tuple [(.agg [(.int .i64 (.lit 0)), (.int .i64 (.lit 0)), (.int .i64 (.lit 0)), (.int .i64 (.lit 0))]), (.bool (.lit false))]) ([kc60, kc53, kc54, kc55, kc56, kc18, kc19, kc20, kc21, kc22, kc23, kc1, kc2, kc3, kc4, kc5, kc6, kc7] ++ csKN 5),
  .stop ([kc61, kc55, kc56, kc18, kc19, kc20, kc21, kc22, kc23, kc1, kc2, kc3, kc4, kc5, kc6, kc7] ++ csKN 5),
  .stop ([kc62, kc55, kc56, kc18, kc19, kc20, kc21, kc22, kc23, kc1, kc2, kc3, kc4, kc5, kc6, kc7] ++ csKN 5),
  .stop ([kc63, kc56, kc18, kc19, kc20, kc21, kc22, kc23, kc1, kc2, kc3, kc4, kc5, kc6, kc7] ++ csKN 5),
  .ret (.tuple [(.agg [(.int .i64 (.lit 0)), (.int .i64 (.lit 0)), (.int .i64 (.lit 0)), (.int .i64 (.lit 0))]), (.bool (.lit false))]) ([kc27, kc20, kc21, kc22, kc23, kc1, kc2, kc3, kc4, kc5, kc6, kc7] ++ csKN 5),
  .stop ([kc28, kc22, kc23, kc1, kc2, kc3, kc4, kc5, kc6, kc7] ++ csKN 5),
  .stop ([kc29, kc22, kc23, kc1, kc2, kc3, kc4, kc5, kc6, kc7] ++ csKN 5),
  .stop ([kc30, kc23, kc1, kc2, kc3, kc4, kc5, kc6, kc7] ++ csKN 5)]
theorem rP5 : (run Tryd.prog [(127, .same)] spPar 8000 false 54 (entry Tryd.f54 (Tryd.f54.body.getD .ret) [.str s5] .leaf 0 (lenC 10000 :: csW ++ csKN 5))).map (·.filterMap (sumL g5 [])) = some sP5 := by kernel_rfl
def sQ5 : List LS := [.ret (.tuple [(.agg [(.int .i64 (.lit 5)), (.int .i64 nY0), (.int .i64 nY1), (.int .i64 (.lit 0))]), (.bool (.lit true))]) ([kc64, kc65, kc1, kc66, kc33, kc3, kc4, kc6, kc7, kc13] ++ csKN 5),
  .ret (.tuple [(.agg [(.int .i64 (.lit 0)), (.int .i64 (.lit 0)), (.int .i64 (.lit 0)), (.int .i64 (.lit 0))]), (.bool (.lit false))]) ([kc67, kc65, kc1, kc66, kc33, kc3, kc4, kc6, kc7, kc13] ++ csKN 5),
  .ret (.tuple [(.agg [(.int .i64 (.lit 0)), (.int .i64 (.lit 0)), (.int .i64 (.lit 0)), (.int .i64 (.lit 0))]), (.bool (.lit false))]) ([kc68, kc1, kc66, kc33, kc3, kc4, kc6, kc7, kc13] ++ csKN 5),
  .stop ([kc69, kc33, kc3, kc4, kc6, kc7, kc13] ++ csKN 5),
  .stop ([kc36, kc3, kc4, kc6, kc7, kc13] ++ csKN 5)]
theorem rQ5 : (run Tryd.prog [(127, .same)] spPar 8000 false 55 ((PQ (csKN 5)).st (.code (.loop qb1) :: qk1))).map (·.filterMap (sumL g5 [])) = some sQ5 := by kernel_rfl
def sP6 : List LS := [.ret (.tuple [(.agg [(.int .i64 (.lit 0)), (.int .i64 (.lit 0)), (.int .i64 (.lit 0)), (.int .i64 (.lit 0))]), (.bool (.lit false))]) ([kc16, kc1, kc2, kc3, kc4, kc5, kc6, kc7] ++ csKN 6),
  .ret (.tuple [(.agg [(.int .i64 (.lit 0)), (.int .i64 (.lit 0)), (.int .i64 (.lit 0)), (.int .i64 (.lit 0))]), (.bool (.lit false))]) ([kc17, kc18, kc19, kc20, kc21, kc22, kc23, kc1, kc2, kc3, kc4, kc5, kc6, kc7] ++ csKN 6),
  .ret (.tuple [(.agg [(.int .i64 (.lit 0)), (.int .i64 (.lit 0)), (.int .i64 (.lit 0)), (.int .i64 (.lit 0))]), (.bool (.lit false))]) ([kc70, kc25, kc18, kc19, kc20, kc21, kc22, kc23, kc1, kc2, kc3, kc4, kc5, kc6, kc7] ++ csKN 6),
  .ret (.tuple [(.agg [(.int .i64 (.lit 6)), (.int .i64 nX1), (.int .i64 (.lit 0)), (.int .i64 (.lit 0))]), (.bool (.lit true))]) ([kc71, kc25, kc18, kc19, kc20, kc21, kc22, kc23, kc1, kc2, kc3, kc4, kc5, kc6, kc7] ++ csKN 6),
  .ret (.tuple [(.agg [(.int .i64 (.lit 0)), (.int .i64 (.lit 0)), (.int .i64 (.lit 0)), (.int .i64 (.lit 0))]), (.bool (.lit false))]) ([kc27, kc20, kc21, kc22, kc23, kc1, kc2, kc3, kc4, kc5, kc6, kc7] ++ csKN 6),
  .stop ([kc28, kc22, kc23, kc1, kc2, kc3, kc4, kc5, kc6, kc7] ++ csKN 6),
  .stop ([kc29, kc22, kc23, kc1, kc2, kc3, kc4, kc5, kc6, kc7] ++ csKN 6),
  .stop ([kc30, kc23, kc1, kc2, kc3, kc4, kc5, kc6, kc7] ++ csKN 6)]
theorem rP6 : (run Tryd.prog [(127, .same)] spPar 8000 false 54 (entry Tryd.f54 (Tryd.f54.body.getD .ret) [.str s5] .leaf 0 (lenC 10000 :: csW ++ csKN 6))).map (·.filterMap (sumL g5 [])) = some sP6 := by kernel_rfl
def sQ6 : List LS := [.ret (.tuple [(.agg [(.int .i64 (.lit 6)), (.int .i64 nY0), (.int .i64 (.lit 0)), (.int .i64 (.lit 0))]), (.bool (.lit true))]) ([kc72, kc32, kc33, kc3, kc4, kc6, kc7, kc13] ++ csKN 6),
  .ret (.tuple [(.agg [(.int .i64 (.lit 0)), (.int .i64 (.lit 0)), (.int .i64 (.lit 0)), (.int .i64 (.lit 0))]), (.bool (.lit false))]) ([kc73, kc32, kc33, kc3, kc4, kc6, kc7, kc13] ++ csKN 6),
  .ret (.tuple [(.agg [(.int .i64 (.lit 0)), (.int .i64 (.lit 0)), (.int .i64 (.lit 0)), (.int .i64 (.lit 0))]), (.bool (.lit false))]) ([kc35, kc33, kc3, kc4, kc6, kc7, kc13] ++ csKN 6),
  .stop ([kc36, kc3, kc4, kc6, kc7, kc13] ++ csKN 6)]
theorem rQ6 : (run Tryd.prog [(127, .same)] spPar 8000 false 55 ((PQ (csKN 6)).st (.code (.loop qb1) :: qk1))).map (·.filterMap (sumL g5 [])) = some sQ6 := by kernel_rfl
def sP7 : List LS := [.ret (.tuple [(.agg [(.int .i64 (.lit 0)), (.int .i64 (.lit 0)), (.int .i64 (.lit 0)), (.int .i64 (.lit 0))]), (.bool (.lit false))]) ([kc16, kc1, kc2, kc3, kc4, kc5, kc6, kc7] ++ csKN 7),
  .ret (.tuple [(.agg [(.int .i64 (.lit 0)), (.int .i64 (.lit 0)), (.int .i64 (.lit 0)), (.int .i64 (.lit 0))]), (.bool (.lit false))]) ([kc49, kc18, kc19, kc20, kc21, kc22, kc23, kc1, kc2, kc3, kc4, kc5, kc6, kc7] ++ csKN 7),
  .ret (.tuple [(.agg [(.int .i64 (.lit 0)), (.int .i64 (.lit 0)), (.int .i64 (.lit 0)), (.int .i64 (.lit 0))]), (.bool (.lit false))]) ([kc74, kc51, kc52, kc53, kc54, kc55, kc56, kc18, kc19, kc20, kc21, kc22, kc23, kc1, kc2, kc3, kc4, kc5, kc6, kc7] ++ csKN 7),
  .ret (.tuple [(.agg [(.int .i64 (.lit 0)), (.int .i64 (.lit 0)), (.int .i64 (.lit 0)), (.int .i64 (.lit 0))]), (.bool (.lit false))]) ([kc75, kc76, kc77, kc78, kc79, kc80, kc81, kc51, kc52, kc53, kc54, kc55, kc56, kc18, kc19, kc20, kc21, kc22, kc23, kc1, kc2, kc3, kc4, kc5, kc6, kc7] ++ csKN 7),
  .ret (.tuple [(.agg [(.int .i64 (.lit 0)), (.int .i64 (.lit 0)), (.int .i64 (.lit 0)), (.int .i64 (.lit 0))]), (.bool (.lit false))]) ([kc82, kc83, kc76, kc77, kc78, kc79, kc80, kc81, kc51, kc52, kc53, kc54, kc55, kc56, kc18, kc19, kc20, kc21, kc22, kc23, kc1, kc2, kc3, kc4, kc5, kc6, kc7] ++ csKN 7),
  .ret (.tuple [(.agg [(.int .i64 (.lit 7)), (.int .i64 nX1), (.int .i64 nX2), (.int .i64 nX3)]), (.bool (.lit true))]) ([kc84, kc83, kc76, kc77, kc78, kc79, kc80, kc81, kc51, kc52, kc53, kc54, kc55, kc56, kc18, kc19, kc20, kc21, kc22, kc23, kc1, kc2, kc3, kc4, kc5, kc6, kc7] ++ csKN 7),
  .ret (.tuple [(.agg [(.int .i64 (.lit 0)), (.int .i64 (.lit 0)), (.int .i64 (.lit 0)), (.int .i64 (.lit 0))]), (.bool (.lit false))]) ([kc85, kc78, kc79, kc80, kc81, kc51, kc52, kc53, kc54, kc55, kc56, kc18, kc19, kc20, kc21, kc22, kc23, kc1, kc2, kc3, kc4, kc5, kc6, kc7] ++ csKN 7),
  .stop ([kc86, kc80, kc81, kc51, kc52, kc53, kc54, kc55, kc56, kc18, kc19, kc20, kc21, kc22, kc23, kc1, kc2, kc3, kc4, kc5, kc6, kc7] ++ csKN 7),
  .stop ([kc87, kc80, kc81, kc51, kc52, kc53, kc54, kc55, kc56, kc18, kc19, kc20, kc21, kc22, kc23, kc1, kc2, kc3, kc4, kc5, kc6, kc7] ++ csKN 7),
  .stop ([kc88, kc81, kc51, kc52, kc53, kc54, kc55, kc56, kc18, kc19, kc20, kc21, kc22, kc23, kc1, kc2, kc3, kc4, kc5, kc6, kc7] ++ csKN 7),
  .ret (.tuple [(.agg [(.int .i64 (.lit 0)), (.int .i64 (.lit 0)), (.int .i64 (.lit 0)), (.int .i64 (.lit 0))]), (.bool (.lit false))]) ([kc60, kc53, kc54, kc55, kc56, kc18, kc19, kc20, kc21, kc22, kc23, kc1, kc2, kc3, kc4, kc5, kc6, kc7] ++ csKN 7),
  .stop ([kc61, kc55, kc56, kc18, kc19, kc20, kc21, kc22, kc23, kc1, kc2, kc3, kc4, kc5, kc6, kc7] ++ csKN 7),
  .stop ([kc62, kc55, kc56, kc18, kc19, kc20, kc21, kc22, kc23, kc1, kc2, kc3, kc4, kc5, kc6, kc7] ++ csKN 7),
  .stop ([kc63, kc56, kc18, kc19, kc20, kc21, kc22, kc23, kc1, kc2, kc3, kc4, kc5, kc6, kc7] ++ csKN 7),
  .ret (.tuple [(.agg [(.int .i64 (.lit 0)), (.int .i64 (.lit 0)), (.int .i64 (.lit 0)), (.int .i64 (.lit 0))]), (.bool (.lit false))]) ([kc27, kc20, kc21, kc22, kc23, kc1, kc2, kc3, kc4, kc5, kc6, kc7] ++ csKN 7),
  .stop ([kc28, kc22, kc23, kc1, kc2, kc3, kc4, kc5, kc6, kc7] ++ csKN 7),
  .stop ([kc29, kc22, kc23, kc1, kc2, kc3, kc4, kc5, kc6, kc7] ++ csKN 7),
  .stop ([kc30, kc23, kc1, kc2, kc3, kc4, kc5, kc6, kc7] ++ csKN 7)]
theorem rP7 : (run Tryd.prog [(127, .same)] spPar 8000 false 54 (entry Tryd.f54 (Tryd.f54.body.getD .ret) [.str s5] .leaf 0 (lenC 10000 :: csW ++ csKN 7))).map (·.filterMap (sumL g5 [])) = some sP7 := by kernel_rfl
def sQ7 : List LS := [.ret (.tuple [(.agg [(.int .i64 (.lit 7)), (.int .i64 nY0), (.int .i64 nY1), (.int .i64 nY2)]), (.bool (.lit true))]) ([kc89, kc90, kc91, kc92, kc1, kc66, kc33, kc3, kc4, kc6, kc7, kc13] ++ csKN 7),
  .ret (.tuple [(.agg [(.int .i64 (.lit 0)), (.int .i64 (.lit 0)), (.int .i64 (.lit 0)), (.int .i64 (.lit 0))]), (.bool (.lit false))]) ([kc93, kc90, kc91, kc92, kc1, kc66, kc33, kc3, kc4, kc6, kc7, kc13] ++ csKN 7),
  .ret (.tuple [(.agg [(.int .i64 (.lit 0)), (.int .i64 (.lit 0)), (.int .i64 (.lit 0)), (.int .i64 (.lit 0))]), (.bool (.lit false))]) ([kc94, kc91, kc92, kc1, kc66, kc33, kc3, kc4, kc6, kc7, kc13] ++ csKN 7),
  .stop ([kc95, kc1, kc66, kc33, kc3, kc4, kc6, kc7, kc13] ++ csKN 7),
  .stop ([kc69, kc33, kc3, kc4, kc6, kc7, kc13] ++ csKN 7),
  .stop ([kc36, kc3, kc4, kc6, kc7, kc13] ++ csKN 7)]
theorem rQ7 : (run Tryd.prog [(127, .same)] spPar 8000 false 55 ((PQ (csKN 7)).st (.code (.loop qb1) :: qk1))).map (·.filterMap (sumL g5 [])) = some sQ7 := by kernel_rfl
def sP8 : List LS := [.ret (.tuple [(.agg [(.int .i64 (.lit 0)), (.int .i64 (.lit 0)), (.int .i64 (.lit 0)), (.int .i64 (.lit 0))]), (.bool (.lit false))]) ([kc0, kc1, kc2, kc3, kc4, kc5, kc6, kc7] ++ csKN 8),
  .ret (.tuple [(.agg [(.int .i64 (.lit 0)), (.int .i64 (.lit 0)), (.int .i64 (.lit 0)), (.int .i64 (.lit 0))]), (.bool (.lit false))]) ([kc96, kc9, kc1, kc2, kc3, kc4, kc5, kc6, kc7] ++ csKN 8),
  .ret (.tuple [(.agg [(.int .i64 (.lit 8)), (.int .i64 (.lit 0)), (.int .i64 (.lit 0)), (.int .i64 (.lit 0))]), (.bool (.lit true))]) ([kc97, kc9, kc1, kc2, kc3, kc4, kc5, kc6, kc7] ++ csKN 8)]
theorem rP8 : (run Tryd.prog [(127, .same)] spPar 8000 false 54 (entry Tryd.f54 (Tryd.f54.body.getD .ret) [.str s5] .leaf 0 (lenC 10000 :: csW ++ csKN 8))).map (·.filterMap (sumL g5 [])) = some sP8 := by kernel_rfl
def sQ8 : List LS := [.ret (.tuple [(.agg [(.int .i64 (.lit 8)), (.int .i64 (.lit 0)), (.int .i64 (.lit 0)), (.int .i64 (.lit 0))]), (.bool (.lit true))]) ([kc98, kc12, kc3, kc4, kc6, kc7, kc13] ++ csKN 8),
  .ret (.tuple [(.agg [(.int .i64 (.lit 0)), (.int .i64 (.lit 0)), (.int .i64 (.lit 0)), (.int .i64 (.lit 0))]), (.bool (.lit false))]) ([kc99, kc12, kc3, kc4, kc6, kc7, kc13] ++ csKN 8),
  .ret (.tuple [(.agg [(.int .i64 (.lit 0)), (.int .i64 (.lit 0)), (.int .i64 (.lit 0)), (.int .i64 (.lit 0))]), (.bool (.lit false))]) ([kc15, kc3, kc4, kc6, kc7, kc13] ++ csKN 8)]
theorem rQ8 : (run Tryd.prog [(127, .same)] spPar 8000 false 55 ((PQ (csKN 8)).st (.code (.loop qb1) :: qk1))).map (·.filterMap (sumL g5 [])) = some sQ8 := by kernel_rfl
def sP9 : List LS := [.ret (.tuple [(.agg [(.int .i64 (.lit 0)), (.int .i64 (.lit 0)), (.int .i64 (.lit 0)), (.int .i64 (.lit 0))]), (.bool (.lit false))]) ([kc16, kc1, kc2, kc3, kc4, kc5, kc6, kc7] ++ csKN 9),
  .ret (.tuple [(.agg [(.int .i64 (.lit 0)), (.int .i64 (.lit 0)), (.int .i64 (.lit 0)), (.int .i64 (.lit 0))]), (.bool (.lit false))]) ([kc17, kc18, kc19, kc20, kc21, kc22, kc23, kc1, kc2, kc3, kc4, kc5, kc6, kc7] ++ csKN 9),
  .ret (.tuple [(.agg [(.int .i64 (.lit 0)), (.int .i64 (.lit 0)), (.int .i64 (.lit 0)), (.int .i64 (.lit 0))]), (.bool (.lit false))]) ([kc100, kc25, kc18, kc19, kc20, kc21, kc22, kc23, kc1, kc2, kc3, kc4, kc5, kc6, kc7] ++ csKN 9),
  .ret (.tuple [(.agg [(.int .i64 (.lit 9)), (.int .i64 nX1), (.int .i64 (.lit 0)), (.int .i64 (.lit 0))]), (.bool (.lit true))]) ([kc101, kc25, kc18, kc19, kc20, kc21, kc22, kc23, kc1, kc2, kc3, kc4, kc5, kc6, kc7] ++ csKN 9),
  .ret (.tuple [(.agg [(.int .i64 (.lit 0)), (.int .i64 (.lit 0)), (.int .i64 (.lit 0)), (.int .i64 (.lit 0))]), (.bool (.lit false))]) ([kc27, kc20, kc21, kc22, kc23, kc1, kc2, kc3, kc4, kc5, kc6, kc7] ++ csKN 9),
  .stop ([kc28, kc22, kc23, kc1, kc2, kc3, kc4, kc5, kc6, kc7] ++ csKN 9),
  .stop ([kc29, kc22, kc23, kc1, kc2, kc3, kc4, kc5, kc6, kc7] ++ csKN 9),
  .stop ([kc30, kc23, kc1, kc2, kc3, kc4, kc5, kc6, kc7] ++ csKN 9)]
theorem rP9 : (run Tryd.prog [(127, .same)] spPar 8000 false 54 (entry Tryd.f54 (Tryd.f54.body.getD .ret) [.str s5] .leaf 0 (lenC 10000 :: csW ++ csKN 9))).map (·.filterMap (sumL g5 [])) = some sP9 := by kernel_rfl
def sQ9 : List LS := [.ret (.tuple [(.agg [(.int .i64 (.lit 9)), (.int .i64 nY0), (.int .i64 (.lit 0)), (.int .i64 (.lit 0))]), (.bool (.lit true))]) ([kc102, kc32, kc33, kc3, kc4, kc6, kc7, kc13] ++ csKN 9),
  .ret (.tuple [(.agg [(.int .i64 (.lit 0)), (.int .i64 (.lit 0)), (.int .i64 (.lit 0)), (.int .i64 (.lit 0))]), (.bool (.lit false))]) ([kc103, kc32, kc33, kc3, kc4, kc6, kc7, kc13] ++ csKN 9),
  .ret (.tuple [(.agg [(.int .i64 (.lit 0)), (.int .i64 (.lit 0)), (.int .i64 (.lit 0)), (.int .i64 (.lit 0))]), (.bool (.lit false))]) ([kc35, kc33, kc3, kc4, kc6, kc7, kc13] ++ csKN 9),
  .stop ([kc36, kc3, kc4, kc6, kc7, kc13] ++ csKN 9)]
theorem rQ9 : (run Tryd.prog [(127, .same)] spPar 8000 false 55 ((PQ (csKN 9)).st (.code (.loop qb1) :: qk1))).map (·.filterMap (sumL g5 [])) = some sQ9 := by kernel_rfl
def sP10 : List LS := [.ret (.tuple [(.agg [(.int .i64 (.lit 0)), (.int .i64 (.lit 0)), (.int .i64 (.lit 0)), (.int .i64 (.lit 0))]), (.bool (.lit false))]) ([kc16, kc1, kc2, kc3, kc4, kc5, kc6, kc7] ++ csKN 10),
  .ret (.tuple [(.agg [(.int .i64 (.lit 0)), (.int .i64 (.lit 0)), (.int .i64 (.lit 0)), (.int .i64 (.lit 0))]), (.bool (.lit false))]) ([kc49, kc18, kc19, kc20, kc21, kc22, kc23, kc1, kc2, kc3, kc4, kc5, kc6, kc7] ++ csKN 10),
  .ret (.tuple [(.agg [(.int .i64 (.lit 0)), (.int .i64 (.lit 0)), (.int .i64 (.lit 0)), (.int .i64 (.lit 0))]), (.bool (.lit false))]) ([kc50, kc51, kc52, kc53, kc54, kc55, kc56, kc18, kc19, kc20, kc21, kc22, kc23, kc1, kc2, kc3, kc4, kc5, kc6, kc7] ++ csKN 10),
  .ret (.tuple [(.agg [(.int .i64 (.lit 0)), (.int .i64 (.lit 0)), (.int .i64 (.lit 0)), (.int .i64 (.lit 0))]), (.bool (.lit false))]) ([kc104, kc58, kc51, kc52, kc53, kc54, kc55, kc56, kc18, kc19, kc20, kc21, kc22, kc23, kc1, kc2, kc3, kc4, kc5, kc6, kc7] ++ csKN 10),
  .ret (.tuple [(.agg [(.int .i64 (.lit 10)), (.int .i64 nX1), (.int .i64 nX2), (.int .i64 (.lit 0))]), (.bool (.lit true))]) ([kc105, kc58, kc51, kc52, kc53, kc54, kc55, kc56, kc18, kc19, kc20, kc21, kc22, kc23, kc1, kc2, kc3, kc4, kc5, kc6, kc7] ++ csKN 10),
  .ret (.tuple [(.agg [(.int .i64 (.lit 0)), (.int .i64 (.lit 0)), (.int .i64 (.lit 0)), (.int .i64 (.lit 0))]), (.bool (.lit false))]) ([kc60, kc53, kc54, kc55, kc56, kc18, kc19, kc20, kc21, kc22, kc23, kc1, kc2, kc3, kc4, kc5, kc6, kc7] ++ csKN 10),
  .stop ([kc61, kc55, kc56, kc18, kc19, kc20, kc21, kc22, kc23, kc1, kc2, kc3, kc4, kc5, kc6, kc7] ++ csKN 10),
  .stop ([kc62, kc55, kc56, kc18, kc19, kc20, kc21, kc22, kc23, kc1, kc2, kc3, kc4, kc5, kc6, kc7] ++ csKN 10),
  .stop ([kc63, kc56, kc18, kc19, kc20, kc21, kc22, kc23, kc1, kc2, kc3, kc4, kc5, kc6, kc7] ++ csKN 10),
  .ret (.tuple [(.agg [(.int .i64 (.lit 0)), (.int .i64 (.lit 0)), (.int .i64 (.lit 0)), (.int .i64 (.lit 0))]), (.bool (.lit false))]) ([kc27, kc20, kc21, kc22, kc23, kc1, kc2, kc3, kc4, kc5, kc6, kc7] ++ csKN 10),
  .stop ([kc28, kc22, kc23, kc1, kc2, kc3, kc4, kc5, kc6, kc7] ++ csKN 10),
  .stop ([kc29, kc22, kc23, kc1, kc2, kc3, kc4, kc5, kc6, kc7] ++ csKN 10),
  .stop ([kc30, kc23, kc1, kc2, kc3, kc4, kc5, kc6, kc7] ++ csKN 10)]
theorem rP10 : (run Tryd.prog [(127, .same)] spPar 8000 false 54 (entry Tryd.f54 (Tryd.f54.body.getD .ret) [.str s5] .leaf 0 (lenC 10000 :: csW ++ csKN 10))).map (·.filterMap (sumL g5 [])) = some sP10 := by kernel_rfl
def sQ10 : List LS := [.ret (.tuple [(.agg [(.int .i64 (.lit 10)), (.int .i64 nY0), (.int .i64 nY1), (.int .i64 (.lit 0))]), (.bool (.lit true))]) ([kc106, kc65, kc1, kc66, kc33, kc3, kc4, kc6, kc7, kc13] ++ csKN 10),
  .ret (.tuple [(.agg [(.int .i64 (.lit 0)), (.int .i64 (.lit 0)), (.int .i64 (.lit 0)), (.int .i64 (.lit 0))]), (.bool (.lit false))]) ([kc107, kc65, kc1, kc66, kc33, kc3, kc4, kc6, kc7, kc13] ++ csKN 10),
  .ret (.tuple [(.agg [(.int .i64 (.lit 0)), (.int .i64 (.lit 0)), (.int .i64 (.lit 0)), (.int .i64 (.lit 0))]), (.bool (.lit false))]) ([kc68, kc1, kc66, kc33, kc3, kc4, kc6, kc7, kc13] ++ csKN 10),
  .stop ([kc69, kc33, kc3, kc4, kc6, kc7, kc13] ++ csKN 10),
  .stop ([kc36, kc3, kc4, kc6, kc7, kc13] ++ csKN 10)]
theorem rQ10 : (run Tryd.prog [(127, .same)] spPar 8000 false 55 ((PQ (csKN 10)).st (.code (.loop qb1) :: qk1))).map (·.filterMap (sumL g5 [])) = some sQ10 := by kernel_rfl
def sP11 : List LS := [.ret (.tuple [(.agg [(.int .i64 (.lit 0)), (.int .i64 (.lit 0)), (.int .i64 (.lit 0)), (.int .i64 (.lit 0))]), (.bool (.lit false))]) ([kc16, kc1, kc2, kc3, kc4, kc5, kc6, kc7] ++ csKN 11),
  .ret (.tuple [(.agg [(.int .i64 (.lit 0)), (.int .i64 (.lit 0)), (.int .i64 (.lit 0)), (.int .i64 (.lit 0))]), (.bool (.lit false))]) ([kc17, kc18, kc19, kc20, kc21, kc22, kc23, kc1, kc2, kc3, kc4, kc5, kc6, kc7] ++ csKN 11),
  .ret (.tuple [(.agg [(.int .i64 (.lit 0)), (.int .i64 (.lit 0)), (.int .i64 (.lit 0)), (.int .i64 (.lit 0))]), (.bool (.lit false))]) ([kc108, kc25, kc18, kc19, kc20, kc21, kc22, kc23, kc1, kc2, kc3, kc4, kc5, kc6, kc7] ++ csKN 11),
  .ret (.tuple [(.agg [(.int .i64 (.lit 11)), (.int .i64 nX1), (.int .i64 (.lit 0)), (.int .i64 (.lit 0))]), (.bool (.lit true))]) ([kc109, kc25, kc18, kc19, kc20, kc21, kc22, kc23, kc1, kc2, kc3, kc4, kc5, kc6, kc7] ++ csKN 11),
  .ret (.tuple [(.agg [(.int .i64 (.lit 0)), (.int .i64 (.lit 0)), (.int .i64 (.lit 0)), (.int .i64 (.lit 0))]), (.bool (.lit false))]) ([kc27, kc20, kc21, kc22, kc23, kc1, kc2, kc3, kc4, kc5, kc6, kc7] ++ csKN 11),
  .stop ([kc28, kc22, kc23, kc1, kc2, kc3, kc4, kc5, kc6, kc7] ++ csKN 11),
  .stop ([kc29, kc22, kc23, kc1, kc2, kc3, kc4, kc5, kc6, kc7] ++ csKN 11),
  .stop ([kc30, kc23, kc1, kc2, kc3, kc4, kc5, kc6, kc7] ++ csKN 11)]
theorem rP11 : (run Tryd.prog [(127, .same)] spPar 8000 false 54 (entry Tryd.f54 (Tryd.f54.body.getD .ret) [.str s5] .leaf 0 (lenC 10000 :: csW ++ csKN 11))).map (·.filterMap (sumL g5 [])) = some sP11 := by kernel_rfl
def sQ11 : List LS := [.ret (.tuple [(.agg [(.int .i64 (.lit 11)), (.int .i64 nY0), (.int .i64 (.lit 0)), (.int .i64 (.lit 0))]), (.bool (.lit true))]) ([kc110, kc32, kc33, kc3, kc4, kc6, kc7, kc13] ++ csKN 11),
  .ret (.tuple [(.agg [(.int .i64 (.lit 0)), (.int .i64 (.lit 0)), (.int .i64 (.lit 0)), (.int .i64 (.lit 0))]), (.bool (.lit false))]) ([kc111, kc32, kc33, kc3, kc4, kc6, kc7, kc13] ++ csKN 11),
  .ret (.tuple [(.agg [(.int .i64 (.lit 0)), (.int .i64 (.lit 0)), (.int .i64 (.lit 0)), (.int .i64 (.lit 0))]), (.bool (.lit false))]) ([kc35, kc33, kc3, kc4, kc6, kc7, kc13] ++ csKN 11),
  .stop ([kc36, kc3, kc4, kc6, kc7, kc13] ++ csKN 11)]
theorem rQ11 : (run Tryd.prog [(127, .same)] spPar 8000 false 55 ((PQ (csKN 11)).st (.code (.loop qb1) :: qk1))).map (·.filterMap (sumL g5 [])) = some sQ11 := by kernel_rfl
def sP12 : List LS := [.ret (.tuple [(.agg [(.int .i64 (.lit 0)), (.int .i64 (.lit 0)), (.int .i64 (.lit 0)), (.int .i64 (.lit 0))]), (.bool (.lit false))]) ([kc16, kc1, kc2, kc3, kc4, kc5, kc6, kc7] ++ csKN 12),
  .ret (.tuple [(.agg [(.int .i64 (.lit 0)), (.int .i64 (.lit 0)), (.int .i64 (.lit 0)), (.int .i64 (.lit 0))]), (.bool (.lit false))]) ([kc17, kc18, kc19, kc20, kc21, kc22, kc23, kc1, kc2, kc3, kc4, kc5, kc6, kc7] ++ csKN 12),
  .ret (.tuple [(.agg [(.int .i64 (.lit 0)), (.int .i64 (.lit 0)), (.int .i64 (.lit 0)), (.int .i64 (.lit 0))]), (.bool (.lit false))]) ([kc112, kc25, kc18, kc19, kc20, kc21, kc22, kc23, kc1, kc2, kc3, kc4, kc5, kc6, kc7] ++ csKN 12),
  .ret (.tuple [(.agg [(.int .i64 (.lit 12)), (.int .i64 nX1), (.int .i64 (.lit 0)), (.int .i64 (.lit 0))]), (.bool (.lit true))]) ([kc113, kc25, kc18, kc19, kc20, kc21, kc22, kc23, kc1, kc2, kc3, kc4, kc5, kc6, kc7] ++ csKN 12),
  .ret (.tuple [(.agg [(.int .i64 (.lit 0)), (.int .i64 (.lit 0)), (.int .i64 (.lit 0)), (.int .i64 (.lit 0))]), (.bool (.lit false))]) ([kc27, kc20, kc21, kc22, kc23, kc1, kc2, kc3, kc4, kc5, kc6, kc7] ++ csKN 12),
  .stop ([kc28, kc22, kc23, kc1, kc2, kc3, kc4, kc5, kc6, kc7] ++ csKN 12),
  .stop ([kc29, kc22, kc23, kc1, kc2, kc3, kc4, kc5, kc6, kc7] ++ csKN 12),
  .stop ([kc30, kc23, kc1, kc2, kc3, kc4, kc5, kc6, kc7] ++ csKN 12)]
theorem rP12 : (run Tryd.prog [(127, .same)] spPar 8000 false 54 (entry Tryd.f54 (Tryd.f54.body.getD .ret) [.str s5] .leaf 0 (lenC 10000 :: csW ++ csKN 12))).map (·.filterMap (sumL g5 [])) = some sP12 := by kernel_rfl
def sQ12 : List LS := [.ret (.tuple [(.agg [(.int .i64 (.lit 12)), (.int .i64 nY0), (.int .i64 (.lit 0)), (.int .i64 (.lit 0))]), (.bool (.lit true))]) ([kc114, kc32, kc33, kc3, kc4, kc6, kc7, kc13] ++ csKN 12),
  .ret (.tuple [(.agg [(.int .i64 (.lit 0)), (.int .i64 (.lit 0)), (.int .i64 (.lit 0)), (.int .i64 (.lit 0))]), (.bool (.lit false))]) ([kc115, kc32, kc33, kc3, kc4, kc6, kc7, kc13] ++ csKN 12),
  .ret (.tuple [(.agg [(.int .i64 (.lit 0)), (.int .i64 (.lit 0)), (.int .i64 (.lit 0)), (.int .i64 (.lit 0))]), (.bool (.lit false))]) ([kc35, kc33, kc3, kc4, kc6, kc7, kc13] ++ csKN 12),
  .stop ([kc36, kc3, kc4, kc6, kc7, kc13] ++ csKN 12)]
theorem rQ12 : (run Tryd.prog [(127, .same)] spPar 8000 false 55 ((PQ (csKN 12)).st (.code (.loop qb1) :: qk1))).map (·.filterMap (sumL g5 [])) = some sQ12 := by kernel_rfl
def sP13 : List LS := [.ret (.tuple [(.agg [(.int .i64 (.lit 0)), (.int .i64 (.lit 0)), (.int .i64 (.lit 0)), (.int .i64 (.lit 0))]), (.bool (.lit false))]) ([kc16, kc1, kc2, kc3, kc4, kc5, kc6, kc7] ++ csKN 13),
  .ret (.tuple [(.agg [(.int .i64 (.lit 0)), (.int .i64 (.lit 0)), (.int .i64 (.lit 0)), (.int .i64 (.lit 0))]), (.bool (.lit false))]) ([kc17, kc18, kc19, kc20, kc21, kc22, kc23, kc1, kc2, kc3, kc4, kc5, kc6, kc7] ++ csKN 13),
  .ret (.tuple [(.agg [(.int .i64 (.lit 0)), (.int .i64 (.lit 0)), (.int .i64 (.lit 0)), (.int .i64 (.lit 0))]), (.bool (.lit false))]) ([kc116, kc25, kc18, kc19, kc20, kc21, kc22, kc23, kc1, kc2, kc3, kc4, kc5, kc6, kc7] ++ csKN 13),
  .ret (.tuple [(.agg [(.int .i64 (.lit 13)), (.int .i64 nX1), (.int .i64 (.lit 0)), (.int .i64 (.lit 0))]), (.bool (.lit true))]) ([kc117, kc25, kc18, kc19, kc20, kc21, kc22, kc23, kc1, kc2, kc3, kc4, kc5, kc6, kc7] ++ csKN 13),
  .ret (.tuple [(.agg [(.int .i64 (.lit 0)), (.int .i64 (.lit 0)), (.int .i64 (.lit 0)), (.int .i64 (.lit 0))]), (.bool (.lit false))]) ([kc27, kc20, kc21, kc22, kc23, kc1, kc2, kc3, kc4, kc5, kc6, kc7] ++ csKN 13),
  .stop ([kc28, kc22, kc23, kc1, kc2, kc3, kc4, kc5, kc6, kc7] ++ csKN 13),
  .stop ([kc29, kc22, kc23, kc1, kc2, kc3, kc4, kc5, kc6, kc7] ++ csKN 13),
  .stop ([kc30, kc23, kc1, kc2, kc3, kc4, kc5, kc6, kc7] ++ csKN 13)]
theorem rP13 : (run Tryd.prog [(127, .same)] spPar 8000 false 54 (entry Tryd.f54 (Tryd.f54.body.getD .ret) [.str s5] .leaf 0 (lenC 10000 :: csW ++ csKN 13))).map (·.filterMap (sumL g5 [])) = some sP13 := by kernel_rfl
def sQ13 : List LS := [.ret (.tuple [(.agg [(.int .i64 (.lit 13)), (.int .i64 nY0), (.int .i64 (.lit 0)), (.int .i64 (.lit 0))]), (.bool (.lit true))]) ([kc118, kc32, kc33, kc3, kc4, kc6, kc7, kc13] ++ csKN 13),
  .ret (.tuple [(.agg [(.int .i64 (.lit 0)), (.int .i64 (.lit 0)), (.int .i64 (.lit 0)), (.int .i64 (.lit 0))]), (.bool (.lit false))]) ([kc119, kc32, kc33, kc3, kc4, kc6, kc7, kc13] ++ csKN 13),
  .ret (.tuple [(.agg [(.int .i64 (.lit 0)), (.int .i64 (.lit 0)), (.int .i64 (.lit 0)), (.int .i64 (.lit 0))]), (.bool (.lit false))]) ([kc35, kc33, kc3, kc4, kc6, kc7, kc13] ++ csKN 13),
  .stop ([kc36, kc3, kc4, kc6, kc7, kc13] ++ csKN 13)]
theorem rQ13 : (run Tryd.prog [(127, .same)] spPar 8000 false 55 ((PQ (csKN 13)).st (.code (.loop qb1) :: qk1))).map (·.filterMap (sumL g5 [])) = some sQ13 := by kernel_rfl
def sP14 : List LS := [.ret (.tuple [(.agg [(.int .i64 (.lit 0)), (.int .i64 (.lit 0)), (.int .i64 (.lit 0)), (.int .i64 (.lit 0))]), (.bool (.lit false))]) ([kc16, kc1, kc2, kc3, kc4, kc5, kc6, kc7] ++ csKN 14),
  .ret (.tuple [(.agg [(.int .i64 (.lit 0)), (.int .i64 (.lit 0)), (.int .i64 (.lit 0)), (.int .i64 (.lit 0))]), (.bool (.lit false))]) ([kc17, kc18, kc19, kc20, kc21, kc22, kc23, kc1, kc2, kc3, kc4, kc5, kc6, kc7] ++ csKN 14),
  .ret (.tuple [(.agg [(.int .i64 (.lit 0)), (.int .i64 (.lit 0)), (.int .i64 (.lit 0)), (.int .i64 (.lit 0))]), (.bool (.lit false))]) ([kc120, kc25, kc18, kc19, kc20, kc21, kc22, kc23, kc1, kc2, kc3, kc4, kc5, kc6, kc7] ++ csKN 14),
  .ret (.tuple [(.agg [(.int .i64 (.lit 14)), (.int .i64 nX1), (.int .i64 (.lit 0)), (.int .i64 (.lit 0))]), (.bool (.lit true))]) ([kc121, kc25, kc18, kc19, kc20, kc21, kc22, kc23, kc1, kc2, kc3, kc4, kc5, kc6, kc7] ++ csKN 14),
  .ret (.tuple [(.agg [(.int .i64 (.lit 0)), (.int .i64 (.lit 0)), (.int .i64 (.lit 0)), (.int .i64 (.lit 0))]), (.bool (.lit false))]) ([kc27, kc20, kc21, kc22, kc23, kc1, kc2, kc3, kc4, kc5, kc6, kc7] ++ csKN 14),
  .stop ([kc28, kc22, kc23, kc1, kc2, kc3, kc4, kc5, kc6, kc7] ++ csKN 14),
  .stop ([kc29, kc22, kc23, kc1, kc2, kc3, kc4, kc5, kc6, kc7] ++ csKN 14),
  .stop ([kc30, kc23, kc1, kc2, kc3, kc4, kc5, kc6, kc7] ++ csKN 14)]
theorem rP14 : (run Tryd.prog [(127, .same)] spPar 8000 false 54 (entry Tryd.f54 (Tryd.f54.body.getD .ret) [.str s5] .leaf 0 (lenC 10000 :: csW ++ csKN 14))).map (·.filterMap (sumL g5 [])) = some sP14 := by kernel_rfl
def sQ14 : List LS := [.ret (.tuple [(.agg [(.int .i64 (.lit 14)), (.int .i64 nY0), (.int .i64 (.lit 0)), (.int .i64 (.lit 0))]), (.bool (.lit true))]) ([kc122, kc32, kc33, kc3, kc4, kc6, kc7, kc13] ++ csKN 14),
  .ret (.tuple [(.agg [(.int .i64 (.lit 0)), (.int .i64 (.lit 0)), (.int .i64 (.lit 0)), (.int .i64 (.lit 0))]), (.bool (.lit false))]) ([kc123, kc32, kc33, kc3, kc4, kc6, kc7, kc13] ++ csKN 14),
  .ret (.tuple [(.agg [(.int .i64 (.lit 0)), (.int .i64 (.lit 0)), (.int .i64 (.lit 0)), (.int .i64 (.lit 0))]), (.bool (.lit false))]) ([kc35, kc33, kc3, kc4, kc6, kc7, kc13] ++ csKN 14),
  .stop ([kc36, kc3, kc4, kc6, kc7, kc13] ++ csKN 14)]
theorem rQ14 : (run Tryd.prog [(127, .same)] spPar 8000 false 55 ((PQ (csKN 14)).st (.code (.loop qb1) :: qk1))).map (·.filterMap (sumL g5 [])) = some sQ14 := by kernel_rfl
def sP15 : List LS := [.ret (.tuple [(.agg [(.int .i64 (.lit 0)), (.int .i64 (.lit 0)), (.int .i64 (.lit 0)), (.int .i64 (.lit 0))]), (.bool (.lit false))]) ([kc3, kc4, kc5, kc6, kc7] ++ csKN 15)]
theorem rP15 : (run Tryd.prog [(127, .same)] spPar 8000 false 54 (entry Tryd.f54 (Tryd.f54.body.getD .ret) [.str s5] .leaf 0 (lenC 10000 :: csW ++ csKN 15))).map (·.filterMap (sumL g5 [])) = some sP15 := by kernel_rfl
def sQ15 : List LS := [.ret (.tuple [(.agg [(.int .i64 (.lit 0)), (.int .i64 (.lit 0)), (.int .i64 (.lit 0)), (.int .i64 (.lit 0))]), (.bool (.lit false))]) ([kc3, kc4, kc6, kc7, kc13] ++ csKN 15)]
theorem rQ15 : (run Tryd.prog [(127, .same)] spPar 8000 false 55 ((PQ (csKN 15)).st (.code (.loop qb1) :: qk1))).map (·.filterMap (sumL g5 [])) = some sQ15 := by kernel_rfl
end Txt
end Go.Proofs.YtagdcclpibjfoaaDoor
