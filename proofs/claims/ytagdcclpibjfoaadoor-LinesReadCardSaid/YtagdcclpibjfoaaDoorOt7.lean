/-
  OpsTexts (7): responses read out of texts.
-/
import Derived.Test.YtagdcclpibjfoaaDoorOt6
import Derived.Lib.IndexMore
namespace Go.Proofs.YtagdcclpibjfoaaDoor
open Go.Vm
namespace Txt

-- PLAINLY
def kdL : List (List UInt8) := [[100, 111, 110, 101], [110, 111, 110, 101], [102, 117, 108, 108], [98, 117, 115, 121], [117, 110, 108, 105, 107, 101], [110, 111, 109, 101, 109, 111, 114, 121]]
def kindOf (w : List UInt8) : Nat := kdL.idxOf w
def resVal (ws : List (List UInt8)) : Int := if ws.length = 2 then numL (ws.getD 1 []) else 0
def respOk (ws : List (List UInt8)) : Bool := decide (kindOf (ws.getD 0 []) < 6 ∧ ws.length < 3 ∧ (ws.length = 2 ↔ (kindOf (ws.getD 0 []) = 0 ∨ kindOf (ws.getD 0 []) = 4))) && respB (kindOf (ws.getD 0 [])) (resVal ws)
def respV (ws : List (List UInt8)) : Value := if respOk ws = true then .tuple #[rsV (kindOf (ws.getD 0 [])) (resVal ws), .bool true] else .tuple #[rsV 0 0, .bool false]
theorem rs_good2 {ws : List (List UInt8)} {c : Nat} {z : Int} (hc : kindOf (ws.getD 0 []) = c) (hz : ws.length = 2 → numL (ws.getD 1 []) = z) (hl : ws.length = 2) (h6 : c < 6 ∧ (c = 0 ∨ c = 4)) (hr : respB c z = true) : respV ws = .tuple #[rsV c z, .bool true] := by
  have hv : resVal ws = z := by unfold resVal; rw [if_pos hl, hz hl]
  have : respOk ws = true := by
    unfold respOk
    rw [hc, hv, hr, decide_eq_true ⟨h6.1, by omega, fun _ => h6.2, fun _ => hl⟩]; rfl
  unfold respV
  rw [if_pos this, hc, hv]
theorem rs_good1 {ws : List (List UInt8)} {c : Nat} (hc : kindOf (ws.getD 0 []) = c) (hl : ws.length = 1) (h6 : c < 6 ∧ c ≠ 0 ∧ c ≠ 4) (hr : respB c 0 = true) : respV ws = .tuple #[rsV c 0, .bool true] := by
  have hv : resVal ws = 0 := by unfold resVal; rw [if_neg (by omega)]
  have : respOk ws = true := by
    unfold respOk
    rw [hc, hv, hr, decide_eq_true ⟨h6.1, by omega, fun h => by omega, fun h => by omega⟩]; rfl
  unfold respV
  rw [if_pos this, hc, hv]
theorem rs_bad {ws : List (List UInt8)} {c : Nat} {z : Int} (hc : kindOf (ws.getD 0 []) = c) (hz : ws.length = 2 → numL (ws.getD 1 []) = z) (h : 6 ≤ c ∨ 3 ≤ ws.length ∨ (ws.length = 2 ∧ c ≠ 0 ∧ c ≠ 4) ∨ (ws.length ≠ 2 ∧ (c = 0 ∨ c = 4)) ∨ (ws.length = 2 ∧ z < 0) ∨ (ws.length = 2 ∧ respB c z = false) ∨ (ws.length ≠ 2 ∧ respB c 0 = false)) : respV ws = .tuple #[rsV 0 0, .bool false] := by
  have key : ¬ respOk ws = true := by
    intro ho
    unfold respOk at ho
    simp only [Bool.and_eq_true, decide_eq_true_eq, hc] at ho
    obtain ⟨⟨h1, h2, h3⟩, h4⟩ := ho
    by_cases hl : ws.length = 2
    · have hv : resVal ws = z := by unfold resVal; rw [if_pos hl, hz hl]
      rw [hv] at h4
      have hz0 : 0 ≤ z := by simp only [respB, decide_eq_true_eq] at h4; omega
      have h5 := h3.1 hl
      rcases h with h | h | h | h | h | h | h
      · omega
      · omega
      · omega
      · omega
      · omega
      · rw [h.2] at h4; cases h4
      · omega
    · have hv : resVal ws = 0 := by unfold resVal; rw [if_neg hl]
      rw [hv] at h4
      have h5 : ¬ (c = 0 ∨ c = 4) := fun h => hl (h3.2 h)
      rcases h with h | h | h | h | h | h | h
      · omega
      · omega
      · omega
      · omega
      · omega
      · omega
      · rw [h.2] at h4; cases h4
  unfold respV
  rw [if_neg key]
theorem cut_words {l : List UInt8} {ws : List (List UInt8)} (h : WordsIn ws l) : Lib.cut l [32] = (ws.getD 0 [], joinW (ws.drop 1), decide (2 ≤ ws.length)) := by
  obtain ⟨hne, hno, hj, _⟩ := h
  cases ws with
  | nil => exact absurd rfl hne
  | cons w r =>
    have hw := hno w List.mem_cons_self
    cases r with
    | nil =>
      have hj : w = l := hj
      subst hj
      unfold Lib.cut
      rw [Lib.index_one, idx_none hw, if_neg (by decide)]; rfl
    | cons v vs =>
      have hj : w ++ (32 :: joinW (v :: vs)) = l := hj
      subst hj
      unfold Lib.cut
      rw [Lib.index_one, idx_word _ hw, if_pos (Int.natCast_nonneg _), Int.toNat_natCast]
      have e1 : (w ++ 32 :: joinW (v :: vs)).take w.length = w := by simp
      have e2 : (w ++ 32 :: joinW (v :: vs)).drop (w.length + [(32 : UInt8)].length) = joinW (v :: vs) := by
        rw [List.drop_append, List.drop_eq_nil_of_le (by simp)]
        simp
      rw [e1, e2]
      simp
theorem num_bl {l : List UInt8} (h : (32 : UInt8) ∈ l) : numL l = -1 := by
  unfold numL
  rw [if_pos]
  refine .inr (.inr (.inr ?_))
  rw [List.all_eq_false]
  exact ⟨32, h, by decide⟩
theorem join_rest {l : List UInt8} {ws : List (List UInt8)} (h : WordsIn ws l) : (ws.length = 2 → numL (ws.getD 1 []) = numL (joinW (ws.drop 1))) ∧ (3 ≤ ws.length → numL (joinW (ws.drop 1)) = -1) := by
  match ws, h with
  | [], h => exact absurd rfl h.ne
  | [w], _ => simp
  | [w, v], _ => exact ⟨fun _ => rfl, fun h => by simp at h⟩
  | w :: v :: u :: r, _ =>
    refine ⟨fun h => by simp at h, fun _ => num_bl ?_⟩
    show (32 : UInt8) ∈ v ++ (32 :: joinW (u :: r))
    simp
-- WHAT IS KNOWN OF THE FUNCTIONS
theorem resp_calls {g : FuncId} (hg : (g, spResp) ∈ specs05) (w : World) (k v : Int) : Calls Tryd.prog g #[rsV k v] w (fun e w' => e = .returned (.bool (respB k v)) ∧ Framed w w') := by
  refine (specs05_ok (g, spResp) hg [respA] _ (env4 k v 0 0) w [rsV k v] rfl rfl).mono fun e w' ⟨u, he, hf, p, hp, hd, _⟩ => ⟨?_, hf⟩
  rw [List.mem_singleton.1 hp] at hd
  simp only [AVal.den, tResp_den (ρ := env4 k v 0 0) (k := .var 0) (v := .var 1) rfl rfl, Option.map_some, Option.some.injEq] at hd
  rw [he, ← hd]; rfl
def rsT (k v : IT) : BT := .cmp .eql (.fn 51 k v) (.lit 1)
def spRespG : SpG := fun args H nl cs => match args with
  | [.agg [.int .i64 k, .int .i64 v]] => some [.ret (.bool (rsT k v)) H nl cs]
  | _ => none
theorem spRespG_ok {β : Base} {g : FuncId} (hG : ∀ I B S V F, β.G I B S V F → F = FO) (hg : (g, spResp) ∈ specs05) : SpGOk Tryd.prog β g spRespG := by
  intro args H nl cs ls ρ w xs hr hx hh hc
  unfold spRespG at hr
  split at hr
  rotate_left
  · cases hr
  rename_i k v
  cases hr
  obtain ⟨x, y, h1, h2, rfl⟩ := den_ints2 hx
  have hF : ρ.F = FO := hG _ _ _ _ _ hh.g
  refine spV_ok (resp_calls hg w x y) ?_ hh hc
  have h51 : FO 51 x y = if respB x y = true then 1 else 0 := rfl
  simp only [rsT, AVal.den, BT.den, IT.den, h1, h2, hF, h51, intCmp, one1, Option.map_some]
theorem framed_drew' (w : World) (n : Nat) : Framed w (w.drewN n) := ⟨Nat.le_refl _, fun _ _ => rfl, rfl, rfl, rfl⟩
theorem cut103a (w : World) (hm : MaxW w) (s : ByteArray) (h : s.size ≤ 10000) : Calls Tryd.prog 103 #[.string s, .string (bytes [32])] w (fun e w' => e = .returned (.tuple #[.string (bytes ((wordsOf s.data.toList).getD 0 [])), .string (bytes (joinW ((wordsOf s.data.toList).drop 1))), .bool (decide (2 ≤ (wordsOf s.data.toList).length))]) ∧ Framed w w') := by
  obtain ⟨m, hm⟩ := hm
  refine (Tryd.strings_Cut s (bytes [32]) m w (by omega) hm).mono fun e w' ⟨he, n, hw⟩ => ⟨?_, by rw [hw]; exact framed_drew' w n⟩
  rw [he, bytes_toList, cut_words (words_in s.data.toList)]; rfl
def mT (s : ST) : BT := .cmp .eql (.fn 54 (.scode s) (.lit 0)) (.lit 1)
def spCutA : SpG := fun args H nl cs => match args with
  | [.str s, .str (.lit [32])] => cond (sureL cs s 10000) (some [.ret (.tuple [.str (.dec (.fn 52 s.toP (.lit 0))), .str (.dec (.fn 53 s.toP (.lit 0))), .bool (mT s)]) H nl cs]) none
  | _ => none
theorem spCutA_ok {β : Base} (hG : ∀ I B S V F, β.G I B S V F → F = FO) (hown : β.own = []) (hM : MaxW β.w0) : SpGOk Tryd.prog β 103 spCutA := by
  intro args H nl cs ls ρ w xs hr hx hh hc
  unfold spCutA at hr
  split at hr
  rotate_left
  · cases hr
  rename_i s
  cases hb : sureL cs s 10000 with
  | false => rw [hb] at hr; cases hr
  | true =>
    rw [hb] at hr; cases hr
    have hle := sureL_ok hb hc
    have hF : ρ.F = FO := hG _ _ _ _ _ hh.g
    simp only [AVal.denL, AVal.den, Option.some.injEq] at hx
    subst hx
    refine spV_ok (cut103a w (by obtain ⟨m, hm⟩ := hM; exact ⟨m, cell_of' hm hown hh⟩) (s.den ρ) (by omega)) ?_ hh hc
    have e1 : (ST.dec (.fn 52 s.toP (.lit 0))).den ρ = bytes ((wordsOf (s.den ρ).data.toList).getD 0 []) := by
      show decS (ρ.F 52 (s.toP.den ρ) 0) = _
      rw [ST.toP_den, hF]
      show decS (encS (bytes ((wordsOf (lb (encS (s.den ρ)))).getD 0 []))) = _
      rw [lb_enc, decS_encS]
    have e2 : (ST.dec (.fn 53 s.toP (.lit 0))).den ρ = bytes (joinW ((wordsOf (s.den ρ).data.toList).drop 1)) := by
      show decS (ρ.F 53 (s.toP.den ρ) 0) = _
      rw [ST.toP_den, hF]
      show decS (encS (bytes (joinW ((wordsOf (lb (encS (s.den ρ)))).drop 1)))) = _
      rw [lb_enc, decS_encS]
    have e3 : (mT s).den ρ = some (decide (2 ≤ (wordsOf (s.den ρ).data.toList).length)) := by
      show some ((ρ.F 54 (encS (s.den ρ)) 0) == 1) = _
      rw [hF]
      show some ((if 2 ≤ (wordsOf (lb (encS (s.den ρ)))).length then (1 : Int) else 0) == 1) = _
      rw [lb_enc]
      by_cases h2 : 2 ≤ (wordsOf (s.den ρ).data.toList).length
      · rw [if_pos h2, decide_eq_true h2]; rfl
      · rw [if_neg h2, decide_eq_false h2]; rfl
    simp only [AVal.den, AVal.denL, e1, e2, e3, Option.map_some]
def spPar2 : CallF := spL [(101, spWords false), (103, spCutA), (102, spNumR), (100, spNumA), (46, spRespG), (47, spRespG)]
theorem spPar2_ok (w : World) (s : ByteArray) (hT : TabW w) (hM : MaxW w) (hE : ErrW w) : CallOk Tryd.prog (βO w s) spPar2 := by
  have hF : ∀ I B S V F, (βO w s).G I B S V F → F = FO := fun _ _ _ _ _ h => h.2
  have hGF : ∀ k, GF k (βO w s) := fun k _ _ _ _ _ h x => by rw [h.2]
  refine spL_ok fun p hp => ?_
  simp only [List.mem_cons, List.not_mem_nil, or_false] at hp
  rcases hp with rfl | rfl | rfl | rfl | rfl | rfl
  · exact spWords_ok (hGF 30) fun w H nl ρ hh s hs => words101 w s hs
  · exact spCutA_ok hF rfl hM
  · exact spNumR_ok (hGF 31)
  · exact spNumA_ok (hGF 31) (hGF 32) rfl hT hE
  · exact spRespG_ok hF (by simp [specs05])
  · exact spRespG_ok hF (by simp [specs05])
def w1T : ST := .dec (.fn 52 (.sv 5) (.lit 0))
def csKR (c : Nat) : Cs := kdL.zipIdx.map fun p => (.seq (.lit p.1) w0T, Nat.beq p.2 c)
def csKD (c : Nat) : Cs := kdL.zipIdx.map fun p => (.seq w1T (.lit p.1), Nat.beq p.2 c)
theorem kd_nodup : kdL.Nodup := by decide
theorem kd_at {w : List UInt8} {c : Nat} (hc : kindOf w = c) {q : List UInt8 × Nat} (hq : q ∈ kdL.zipIdx) : (q.1 == w) = Nat.beq q.2 c := by
  have hg : kdL[q.2]? = some q.1 := by
    have := List.mem_zipIdx' hq
    exact (List.getElem?_eq_getElem this.1).trans (congrArg some this.2.symm)
  obtain ⟨hlt, he⟩ := List.getElem?_eq_some_iff.1 hg
  rw [Bool.eq_iff_iff, beq_iff_eq, Nat.beq_eq]
  constructor
  · intro e
    rw [← hc]
    unfold kindOf
    rw [← e, ← he, kd_nodup.idxOf_getElem]
  · intro e
    rw [← he]
    subst hc
    have h2 : kdL.idxOf w < kdL.length := by rw [← show q.2 = kdL.idxOf w from e]; exact hlt
    have := List.getElem_idxOf h2
    simp only [show q.2 = kdL.idxOf w from e, this]
theorem csKR_ok {ρ : Env} {s : ByteArray} {ws : List (List UInt8)} (hS : ρ.S 5 = s) (hF : ρ.F = FO) (hw : FO 30 (encS s) 0 = encW ws) {c : Nat} (hc : kindOf (ws.getD 0 []) = c) : CRel ρ (csKR c) := by
  intro p hp
  obtain ⟨q, hq, rfl⟩ := List.mem_map.1 hp
  have hd : w0T.den ρ = bytes (ws.getD 0 []) := by
    show decS (univ 0 (ρ.F 30 (encS (ρ.S 5)) 0) 0) = _
    rw [hS, hF, hw, un0_0, decS_encS]
  show (BT.seq (.lit q.1) w0T).den ρ = some (Nat.beq q.2 c)
  rw [seqD, hd, bytes_toList]
  show some (q.1 == ws.getD 0 []) = _
  rw [kd_at hc hq]
theorem w1T_den {ρ : Env} {s : ByteArray} {ws : List (List UInt8)} (hS : ρ.S 5 = s) (hF : ρ.F = FO) (hw : wordsOf s.data.toList = ws) : w1T.den ρ = bytes (ws.getD 0 []) := by
  show decS (ρ.F 52 (encS (ρ.S 5)) 0) = _
  rw [hS, hF]
  show decS (encS (bytes ((wordsOf (lb (encS s))).getD 0 []))) = _
  rw [lb_enc, decS_encS, hw]
theorem csKD_ok {ρ : Env} {s : ByteArray} {ws : List (List UInt8)} (hS : ρ.S 5 = s) (hF : ρ.F = FO) (hw : wordsOf s.data.toList = ws) {c : Nat} (hc : kindOf (ws.getD 0 []) = c) : CRel ρ (csKD c) := by
  intro p hp
  obtain ⟨q, hq, rfl⟩ := List.mem_map.1 hp
  show (BT.seq w1T (.lit q.1)).den ρ = some (Nat.beq q.2 c)
  rw [seqD, w1T_den hS hF hw, bytes_toList]
  show some (ws.getD 0 [] == q.1) = _
  rw [← kd_at hc hq]
  congr 1
  rw [Bool.eq_iff_iff, beq_iff_eq, beq_iff_eq]
  exact eq_comm
theorem kind_le (w : List UInt8) : kindOf w ≤ 6 := List.idxOf_le_length
def nV1 : IT := .fn 31 (.scode (.dec (.un 0 (.fn 30 (.sv 5) (.lit 0)) (.lit 1)))) (.lit 0)
def nZ : IT := .fn 31 (.scode (.dec (.fn 53 (.sv 5) (.lit 0)))) (.lit 0)
def bM : BT := .cmp .eql (.fn 54 (.scode (.var 5)) (.lit 0)) (.lit 1)
theorem nV1_den {ρ : Env} {s : ByteArray} {ws : List (List UInt8)} (hS : ρ.S 5 = s) (hF : ρ.F = FO) (hw : FO 30 (encS s) 0 = encW ws) : nV1.den ρ = some (numL (ws.getD 1 [])) := nX1_den hS hF hw
theorem nZ_den {ρ : Env} {s : ByteArray} {ws : List (List UInt8)} (hS : ρ.S 5 = s) (hF : ρ.F = FO) (hw : wordsOf s.data.toList = ws) : nZ.den ρ = some (numL (joinW (ws.drop 1))) := by
  show some (ρ.F 31 (encS (decS (ρ.F 53 (encS (ρ.S 5)) 0))) 0) = _
  rw [hS, hF]
  show some (FO 31 (encS (decS (encS (bytes (joinW ((wordsOf (lb (encS s))).drop 1)))))) 0) = _
  rw [lb_enc, decS_encS, fo31, hw]
theorem bM_den {ρ : Env} {s : ByteArray} {ws : List (List UInt8)} (hS : ρ.S 5 = s) (hF : ρ.F = FO) (hw : wordsOf s.data.toList = ws) : bM.den ρ = some (decide (2 ≤ ws.length)) := by
  show some ((ρ.F 54 (encS (ρ.S 5)) 0) == 1) = _
  rw [hS, hF]
  show some ((if 2 ≤ (wordsOf (lb (encS s))).length then (1 : Int) else 0) == 1) = _
  rw [lb_enc, hw]
  by_cases h2 : 2 ≤ ws.length
  · rw [if_pos h2, decide_eq_true h2]; rfl
  · rw [if_neg h2, decide_eq_false h2]; rfl
theorem fo51 (x y : Int) : FO 51 x y = if respB x y = true then 1 else 0 := rfl
def sR0 : List LS := [.ret (.tuple [(.agg [(.int .i64 (.lit 0)), (.int .i64 (.lit 0))]), (.bool (.lit false))]) ([((.cmp .eql (.fn 51 (.lit 0) nV1) (.lit 1)), false), ((.cmp .geq (.lit 0) (.lit 0)), true), ((.cmp .lss (.lit 0) nW), true), ((.cmp .geq (.lit 1) (.lit 0)), true), ((.cmp .lss (.lit 1) nW), true), ((.cmp .eql nW (.lit 2)), true), ((.cmp .leq (.slen (.var 5)) (.lit 10000)), true), ((.cmp .geq nW (.lit 1)), true), ((.cmp .leq nW (.lit 10001)), true)] ++ csKR 0),
  .ret (.tuple [(.agg [(.int .i64 (.lit 0)), (.int .i64 nV1)]), (.bool (.lit true))]) ([((.cmp .lss nW (.lit 3)), true), ((.cmp .eql (.fn 51 (.lit 0) nV1) (.lit 1)), true), ((.cmp .geq (.lit 0) (.lit 0)), true), ((.cmp .lss (.lit 0) nW), true), ((.cmp .geq (.lit 1) (.lit 0)), true), ((.cmp .lss (.lit 1) nW), true), ((.cmp .eql nW (.lit 2)), true), ((.cmp .leq (.slen (.var 5)) (.lit 10000)), true), ((.cmp .geq nW (.lit 1)), true), ((.cmp .leq nW (.lit 10001)), true)] ++ csKR 0),
  .ret (.tuple [(.agg [(.int .i64 (.lit 0)), (.int .i64 (.lit 0))]), (.bool (.lit false))]) ([((.cmp .eql (.fn 51 (.lit 0) (.lit 0)) (.lit 1)), false), ((.cmp .geq (.lit 0) (.lit 0)), true), ((.cmp .lss (.lit 0) nW), true), ((.cmp .eql nW (.lit 2)), false), ((.cmp .leq (.slen (.var 5)) (.lit 10000)), true), ((.cmp .geq nW (.lit 1)), true), ((.cmp .leq nW (.lit 10001)), true)] ++ csKR 0),
  .ret (.tuple [(.agg [(.int .i64 (.lit 0)), (.int .i64 (.lit 0))]), (.bool (.lit false))]) ([((.cmp .lss nW (.lit 3)), false), ((.cmp .eql (.fn 51 (.lit 0) (.lit 0)) (.lit 1)), true), ((.cmp .geq (.lit 0) (.lit 0)), true), ((.cmp .lss (.lit 0) nW), true), ((.cmp .eql nW (.lit 2)), false), ((.cmp .leq (.slen (.var 5)) (.lit 10000)), true), ((.cmp .geq nW (.lit 1)), true), ((.cmp .leq nW (.lit 10001)), true)] ++ csKR 0),
  .ret (.tuple [(.agg [(.int .i64 (.lit 0)), (.int .i64 (.lit 0))]), (.bool (.lit false))]) ([((.cmp .lss nW (.lit 3)), true), ((.cmp .eql (.fn 51 (.lit 0) (.lit 0)) (.lit 1)), true), ((.cmp .geq (.lit 0) (.lit 0)), true), ((.cmp .lss (.lit 0) nW), true), ((.cmp .eql nW (.lit 2)), false), ((.cmp .leq (.slen (.var 5)) (.lit 10000)), true), ((.cmp .geq nW (.lit 1)), true), ((.cmp .leq nW (.lit 10001)), true)] ++ csKR 0)]
theorem rR0 : (run Tryd.prog [(127, .same)] spPar2 8000 false 57 (entry Tryd.f57 (Tryd.f57.body.getD .ret) [.str s5] .leaf 0 (lenC 10000 :: csW ++ csKR 0))).map (·.filterMap (sumL g5 [])) = some sR0 := by kernel_rfl
theorem leafR0 {w0 : World} {ρ : Env} {s : ByteArray} {ws : List (List UInt8)} (hS : ρ.S 5 = s) (hF : ρ.F = FO) (hw : FO 30 (encS s) 0 = encW ws) (hcode : kindOf (ws.getD 0 []) = 0) (h1 : 1 ≤ ws.length) : ∀ q ∈ sR0, SumGood Tryd.prog (βO w0 s) 57 (fun x => x = respV ws) [] ρ q := by
  intro q hq
  simp only [sR0, List.mem_cons, List.not_mem_nil, or_false] at hq
  rcases hq with rfl | rfl | rfl | rfl | rfl
  all_goals intro ρ' hle hc u hu
  all_goals rw [← hle.s] at hS
  all_goals rw [← hle.f] at hF
  all_goals have dW := nW_den hS hF hw
  all_goals have dV := nV1_den hS hF hw
  all_goals have hc' := (CRel_apd.1 hc).1
  all_goals simp only [dW, dV, CRel_cons, CRel_nil, BT.den, IT.den, hF, fo51, one1, intCmp, Option.some.injEq, decide_eq_true_eq, decide_eq_false_iff_not, beq_iff_eq, beq_eq_false_iff_ne, and_true] at hc'
  all_goals simp only [AVal.den, AVal.denL, dV, IT.den, BT.den, Option.map_some, Option.some.injEq] at hu
  all_goals rw [← hu]
  all_goals
    first
    | exact (rs_bad hcode (fun _ => rfl) (by omega)).symm
    | exact (rs_bad hcode (fun _ => rfl) (.inr (.inr (.inr (.inr (.inr (.inl ⟨by omega, hc'.1⟩))))))).symm
    | exact (rs_bad hcode (fun _ => rfl) (.inr (.inr (.inr (.inr (.inr (.inr ⟨by omega, hc'.1⟩))))))).symm
    | exact (rs_good2 hcode (fun _ => rfl) (by omega) (by decide) hc'.1).symm
    | exact (rs_bad hcode (fun _ => rfl) (.inr (.inr (.inr (.inr (.inr (.inl ⟨by omega, hc'.2.1⟩))))))).symm
    | exact (rs_bad hcode (fun _ => rfl) (.inr (.inr (.inr (.inr (.inr (.inr ⟨by omega, hc'.2.1⟩))))))).symm
    | exact (rs_good2 hcode (fun _ => rfl) (by omega) (by decide) hc'.2.1).symm
def sC0 : List LS := [.ret (.tuple [(.agg [(.int .i64 (.lit 0)), (.int .i64 (.lit 0))]), (.bool (.lit false))]) ([((.not bM), true), ((.cmp .leq (.slen (.var 5)) (.lit 10000)), true)] ++ csKD 0),
  .ret (.tuple [(.agg [(.int .i64 (.lit 0)), (.int .i64 (.lit 0))]), (.bool (.lit false))]) ([((.not (.cmp .eql (.fn 51 (.lit 0) nZ) (.lit 1))), true), ((.cmp .geq nZ (.lit 0)), true), (bM, true), ((.not bM), false), ((.cmp .leq (.slen (.var 5)) (.lit 10000)), true)] ++ csKD 0),
  .ret (.tuple [(.agg [(.int .i64 (.lit 0)), (.int .i64 nZ)]), (.bool (.lit true))]) ([((.not (.cmp .eql (.fn 51 (.lit 0) nZ) (.lit 1))), false), ((.cmp .geq nZ (.lit 0)), true), (bM, true), ((.not bM), false), ((.cmp .leq (.slen (.var 5)) (.lit 10000)), true)] ++ csKD 0),
  .ret (.tuple [(.agg [(.int .i64 (.lit 0)), (.int .i64 (.lit 0))]), (.bool (.lit false))]) ([((.cmp .geq nZ (.lit 0)), false), (bM, true), ((.not bM), false), ((.cmp .leq (.slen (.var 5)) (.lit 10000)), true)] ++ csKD 0)]
theorem rC0 : (run Tryd.prog [(127, .same)] spPar2 8000 false 56 (entry Tryd.f56 (Tryd.f56.body.getD .ret) [.str s5] .leaf 0 (lenC 10000 :: csKD 0))).map (·.filterMap (sumL g5 [])) = some sC0 := by kernel_rfl
theorem leafC0 {w0 : World} {ρ : Env} {s : ByteArray} {ws : List (List UInt8)} (hS : ρ.S 5 = s) (hF : ρ.F = FO) (hw : wordsOf s.data.toList = ws) (hcode : kindOf (ws.getD 0 []) = 0) (h1 : 1 ≤ ws.length) (hz : ws.length = 2 → numL (ws.getD 1 []) = numL (joinW (ws.drop 1))) (hz3 : 3 ≤ ws.length → numL (joinW (ws.drop 1)) = -1) : ∀ q ∈ sC0, SumGood Tryd.prog (βO w0 s) 56 (fun x => x = respV ws) [] ρ q := by
  intro q hq
  simp only [sC0, List.mem_cons, List.not_mem_nil, or_false] at hq
  rcases hq with rfl | rfl | rfl | rfl
  all_goals intro ρ' hle hc u hu
  all_goals rw [← hle.s] at hS
  all_goals rw [← hle.f] at hF
  all_goals have dM := bM_den hS hF hw
  all_goals have dZ := nZ_den hS hF hw
  all_goals have hc' := (CRel_apd.1 hc).1
  all_goals simp only [dM, dZ, CRel_cons, CRel_nil, BT.den, IT.den, hF, fo51, one1, intCmp, Option.some.injEq, Option.map_some, decide_eq_true_eq, decide_eq_false_iff_not, Bool.not_eq_true', Bool.not_eq_false', and_true] at hc'
  all_goals simp only [AVal.den, AVal.denL, dZ, IT.den, BT.den, Option.map_some, Option.some.injEq] at hu
  all_goals rw [← hu]
  all_goals
    first
    | exact (rs_bad hcode hz (by omega)).symm
    | exact (rs_bad hcode hz (.inr (.inr (.inr (.inr (.inr (.inl ⟨by omega, hc'.1⟩))))))).symm
    | exact (rs_bad hcode hz (.inr (.inr (.inr (.inr (.inr (.inr ⟨by omega, hc'.1⟩))))))).symm
    | exact (rs_good2 hcode hz (by omega) (by decide) hc'.1).symm
    | exact (rs_bad hcode hz (.inr (.inr (.inr (.inr (.inr (.inl ⟨by omega, hc'.2.1⟩))))))).symm
    | exact (rs_bad hcode hz (.inr (.inr (.inr (.inr (.inr (.inr ⟨by omega, hc'.2.1⟩))))))).symm
    | exact (rs_good2 hcode hz (by omega) (by decide) hc'.2.1).symm
def sR1 : List LS := [.ret (.tuple [(.agg [(.int .i64 (.lit 0)), (.int .i64 (.lit 0))]), (.bool (.lit false))]) ([((.cmp .eql (.fn 51 (.lit 1) nV1) (.lit 1)), false), ((.cmp .geq (.lit 0) (.lit 0)), true), ((.cmp .lss (.lit 0) nW), true), ((.cmp .geq (.lit 1) (.lit 0)), true), ((.cmp .lss (.lit 1) nW), true), ((.cmp .eql nW (.lit 2)), true), ((.cmp .leq (.slen (.var 5)) (.lit 10000)), true), ((.cmp .geq nW (.lit 1)), true), ((.cmp .leq nW (.lit 10001)), true)] ++ csKR 1),
  .ret (.tuple [(.agg [(.int .i64 (.lit 0)), (.int .i64 (.lit 0))]), (.bool (.lit false))]) ([((.cmp .lss nW (.lit 3)), true), ((.cmp .eql (.fn 51 (.lit 1) nV1) (.lit 1)), true), ((.cmp .geq (.lit 0) (.lit 0)), true), ((.cmp .lss (.lit 0) nW), true), ((.cmp .geq (.lit 1) (.lit 0)), true), ((.cmp .lss (.lit 1) nW), true), ((.cmp .eql nW (.lit 2)), true), ((.cmp .leq (.slen (.var 5)) (.lit 10000)), true), ((.cmp .geq nW (.lit 1)), true), ((.cmp .leq nW (.lit 10001)), true)] ++ csKR 1),
  .ret (.tuple [(.agg [(.int .i64 (.lit 0)), (.int .i64 (.lit 0))]), (.bool (.lit false))]) ([((.cmp .eql (.fn 51 (.lit 1) (.lit 0)) (.lit 1)), false), ((.cmp .geq (.lit 0) (.lit 0)), true), ((.cmp .lss (.lit 0) nW), true), ((.cmp .eql nW (.lit 2)), false), ((.cmp .leq (.slen (.var 5)) (.lit 10000)), true), ((.cmp .geq nW (.lit 1)), true), ((.cmp .leq nW (.lit 10001)), true)] ++ csKR 1),
  .ret (.tuple [(.agg [(.int .i64 (.lit 0)), (.int .i64 (.lit 0))]), (.bool (.lit false))]) ([((.cmp .lss nW (.lit 3)), false), ((.cmp .eql (.fn 51 (.lit 1) (.lit 0)) (.lit 1)), true), ((.cmp .geq (.lit 0) (.lit 0)), true), ((.cmp .lss (.lit 0) nW), true), ((.cmp .eql nW (.lit 2)), false), ((.cmp .leq (.slen (.var 5)) (.lit 10000)), true), ((.cmp .geq nW (.lit 1)), true), ((.cmp .leq nW (.lit 10001)), true)] ++ csKR 1),
  .ret (.tuple [(.agg [(.int .i64 (.lit 1)), (.int .i64 (.lit 0))]), (.bool (.lit true))]) ([((.cmp .lss nW (.lit 3)), true), ((.cmp .eql (.fn 51 (.lit 1) (.lit 0)) (.lit 1)), true), ((.cmp .geq (.lit 0) (.lit 0)), true), ((.cmp .lss (.lit 0) nW), true), ((.cmp .eql nW (.lit 2)), false), ((.cmp .leq (.slen (.var 5)) (.lit 10000)), true), ((.cmp .geq nW (.lit 1)), true), ((.cmp .leq nW (.lit 10001)), true)] ++ csKR 1)]
theorem rR1 : (run Tryd.prog [(127, .same)] spPar2 8000 false 57 (entry Tryd.f57 (Tryd.f57.body.getD .ret) [.str s5] .leaf 0 (lenC 10000 :: csW ++ csKR 1))).map (·.filterMap (sumL g5 [])) = some sR1 := by kernel_rfl
theorem leafR1 {w0 : World} {ρ : Env} {s : ByteArray} {ws : List (List UInt8)} (hS : ρ.S 5 = s) (hF : ρ.F = FO) (hw : FO 30 (encS s) 0 = encW ws) (hcode : kindOf (ws.getD 0 []) = 1) (h1 : 1 ≤ ws.length) : ∀ q ∈ sR1, SumGood Tryd.prog (βO w0 s) 57 (fun x => x = respV ws) [] ρ q := by
  intro q hq
  simp only [sR1, List.mem_cons, List.not_mem_nil, or_false] at hq
  rcases hq with rfl | rfl | rfl | rfl | rfl
  all_goals intro ρ' hle hc u hu
  all_goals rw [← hle.s] at hS
  all_goals rw [← hle.f] at hF
  all_goals have dW := nW_den hS hF hw
  all_goals have dV := nV1_den hS hF hw
  all_goals have hc' := (CRel_apd.1 hc).1
  all_goals simp only [dW, dV, CRel_cons, CRel_nil, BT.den, IT.den, hF, fo51, one1, intCmp, Option.some.injEq, decide_eq_true_eq, decide_eq_false_iff_not, beq_iff_eq, beq_eq_false_iff_ne, and_true] at hc'
  all_goals simp only [AVal.den, AVal.denL, IT.den, BT.den, Option.map_some, Option.some.injEq] at hu
  all_goals rw [← hu]
  all_goals
    first
    | exact (rs_bad hcode (fun _ => rfl) (by omega)).symm
    | exact (rs_bad hcode (fun _ => rfl) (.inr (.inr (.inr (.inr (.inr (.inl ⟨by omega, hc'.1⟩))))))).symm
    | exact (rs_bad hcode (fun _ => rfl) (.inr (.inr (.inr (.inr (.inr (.inr ⟨by omega, hc'.1⟩))))))).symm
    | exact (rs_good1 hcode (by omega) (by decide) hc'.1).symm
    | exact (rs_bad hcode (fun _ => rfl) (.inr (.inr (.inr (.inr (.inr (.inl ⟨by omega, hc'.2.1⟩))))))).symm
    | exact (rs_bad hcode (fun _ => rfl) (.inr (.inr (.inr (.inr (.inr (.inr ⟨by omega, hc'.2.1⟩))))))).symm
    | exact (rs_good1 hcode (by omega) (by decide) hc'.2.1).symm
def sC1 : List LS := [.ret (.tuple [(.agg [(.int .i64 (.lit 0)), (.int .i64 (.lit 0))]), (.bool (.lit false))]) ([((.not (.not bM)), true), ((.cmp .leq (.slen (.var 5)) (.lit 10000)), true)] ++ csKD 1),
  .ret (.tuple [(.agg [(.int .i64 (.lit 0)), (.int .i64 (.lit 0))]), (.bool (.lit false))]) ([((.not (.cmp .eql (.fn 51 (.lit 1) (.lit 0)) (.lit 1))), true), (bM, false), ((.not (.not bM)), false), ((.cmp .leq (.slen (.var 5)) (.lit 10000)), true)] ++ csKD 1),
  .ret (.tuple [(.agg [(.int .i64 (.lit 1)), (.int .i64 (.lit 0))]), (.bool (.lit true))]) ([((.not (.cmp .eql (.fn 51 (.lit 1) (.lit 0)) (.lit 1))), false), (bM, false), ((.not (.not bM)), false), ((.cmp .leq (.slen (.var 5)) (.lit 10000)), true)] ++ csKD 1)]
theorem rC1 : (run Tryd.prog [(127, .same)] spPar2 8000 false 56 (entry Tryd.f56 (Tryd.f56.body.getD .ret) [.str s5] .leaf 0 (lenC 10000 :: csKD 1))).map (·.filterMap (sumL g5 [])) = some sC1 := by kernel_rfl
theorem leafC1 {w0 : World} {ρ : Env} {s : ByteArray} {ws : List (List UInt8)} (hS : ρ.S 5 = s) (hF : ρ.F = FO) (hw : wordsOf s.data.toList = ws) (hcode : kindOf (ws.getD 0 []) = 1) (h1 : 1 ≤ ws.length) (hz : ws.length = 2 → numL (ws.getD 1 []) = numL (joinW (ws.drop 1))) (hz3 : 3 ≤ ws.length → numL (joinW (ws.drop 1)) = -1) : ∀ q ∈ sC1, SumGood Tryd.prog (βO w0 s) 56 (fun x => x = respV ws) [] ρ q := by
  intro q hq
  simp only [sC1, List.mem_cons, List.not_mem_nil, or_false] at hq
  rcases hq with rfl | rfl | rfl
  all_goals intro ρ' hle hc u hu
  all_goals rw [← hle.s] at hS
  all_goals rw [← hle.f] at hF
  all_goals have dM := bM_den hS hF hw
  all_goals have dZ := nZ_den hS hF hw
  all_goals have hc' := (CRel_apd.1 hc).1
  all_goals simp only [dM, CRel_cons, CRel_nil, BT.den, IT.den, hF, fo51, one1, intCmp, Option.some.injEq, Option.map_some, decide_eq_true_eq, decide_eq_false_iff_not, Bool.not_eq_true', Bool.not_eq_false', and_true] at hc'
  all_goals simp only [AVal.den, AVal.denL, IT.den, BT.den, Option.map_some, Option.some.injEq] at hu
  all_goals rw [← hu]
  all_goals
    first
    | exact (rs_bad hcode hz (by omega)).symm
    | exact (rs_bad hcode hz (.inr (.inr (.inr (.inr (.inr (.inl ⟨by omega, hc'.1⟩))))))).symm
    | exact (rs_bad hcode hz (.inr (.inr (.inr (.inr (.inr (.inr ⟨by omega, hc'.1⟩))))))).symm
    | exact (rs_good1 hcode (by omega) (by decide) hc'.1).symm
    | exact (rs_bad hcode hz (.inr (.inr (.inr (.inr (.inr (.inl ⟨by omega, hc'.2.1⟩))))))).symm
    | exact (rs_bad hcode hz (.inr (.inr (.inr (.inr (.inr (.inr ⟨by omega, hc'.2.1⟩))))))).symm
    | exact (rs_good1 hcode (by omega) (by decide) hc'.2.1).symm
def sR2 : List LS := [.ret (.tuple [(.agg [(.int .i64 (.lit 0)), (.int .i64 (.lit 0))]), (.bool (.lit false))]) ([((.cmp .eql (.fn 51 (.lit 2) nV1) (.lit 1)), false), ((.cmp .geq (.lit 0) (.lit 0)), true), ((.cmp .lss (.lit 0) nW), true), ((.cmp .geq (.lit 1) (.lit 0)), true), ((.cmp .lss (.lit 1) nW), true), ((.cmp .eql nW (.lit 2)), true), ((.cmp .leq (.slen (.var 5)) (.lit 10000)), true), ((.cmp .geq nW (.lit 1)), true), ((.cmp .leq nW (.lit 10001)), true)] ++ csKR 2),
  .ret (.tuple [(.agg [(.int .i64 (.lit 0)), (.int .i64 (.lit 0))]), (.bool (.lit false))]) ([((.cmp .lss nW (.lit 3)), true), ((.cmp .eql (.fn 51 (.lit 2) nV1) (.lit 1)), true), ((.cmp .geq (.lit 0) (.lit 0)), true), ((.cmp .lss (.lit 0) nW), true), ((.cmp .geq (.lit 1) (.lit 0)), true), ((.cmp .lss (.lit 1) nW), true), ((.cmp .eql nW (.lit 2)), true), ((.cmp .leq (.slen (.var 5)) (.lit 10000)), true), ((.cmp .geq nW (.lit 1)), true), ((.cmp .leq nW (.lit 10001)), true)] ++ csKR 2),
  .ret (.tuple [(.agg [(.int .i64 (.lit 0)), (.int .i64 (.lit 0))]), (.bool (.lit false))]) ([((.cmp .eql (.fn 51 (.lit 2) (.lit 0)) (.lit 1)), false), ((.cmp .geq (.lit 0) (.lit 0)), true), ((.cmp .lss (.lit 0) nW), true), ((.cmp .eql nW (.lit 2)), false), ((.cmp .leq (.slen (.var 5)) (.lit 10000)), true), ((.cmp .geq nW (.lit 1)), true), ((.cmp .leq nW (.lit 10001)), true)] ++ csKR 2),
  .ret (.tuple [(.agg [(.int .i64 (.lit 0)), (.int .i64 (.lit 0))]), (.bool (.lit false))]) ([((.cmp .lss nW (.lit 3)), false), ((.cmp .eql (.fn 51 (.lit 2) (.lit 0)) (.lit 1)), true), ((.cmp .geq (.lit 0) (.lit 0)), true), ((.cmp .lss (.lit 0) nW), true), ((.cmp .eql nW (.lit 2)), false), ((.cmp .leq (.slen (.var 5)) (.lit 10000)), true), ((.cmp .geq nW (.lit 1)), true), ((.cmp .leq nW (.lit 10001)), true)] ++ csKR 2),
  .ret (.tuple [(.agg [(.int .i64 (.lit 2)), (.int .i64 (.lit 0))]), (.bool (.lit true))]) ([((.cmp .lss nW (.lit 3)), true), ((.cmp .eql (.fn 51 (.lit 2) (.lit 0)) (.lit 1)), true), ((.cmp .geq (.lit 0) (.lit 0)), true), ((.cmp .lss (.lit 0) nW), true), ((.cmp .eql nW (.lit 2)), false), ((.cmp .leq (.slen (.var 5)) (.lit 10000)), true), ((.cmp .geq nW (.lit 1)), true), ((.cmp .leq nW (.lit 10001)), true)] ++ csKR 2)]
theorem rR2 : (run Tryd.prog [(127, .same)] spPar2 8000 false 57 (entry Tryd.f57 (Tryd.f57.body.getD .ret) [.str s5] .leaf 0 (lenC 10000 :: csW ++ csKR 2))).map (·.filterMap (sumL g5 [])) = some sR2 := by kernel_rfl
theorem leafR2 {w0 : World} {ρ : Env} {s : ByteArray} {ws : List (List UInt8)} (hS : ρ.S 5 = s) (hF : ρ.F = FO) (hw : FO 30 (encS s) 0 = encW ws) (hcode : kindOf (ws.getD 0 []) = 2) (h1 : 1 ≤ ws.length) : ∀ q ∈ sR2, SumGood Tryd.prog (βO w0 s) 57 (fun x => x = respV ws) [] ρ q := by
  intro q hq
  simp only [sR2, List.mem_cons, List.not_mem_nil, or_false] at hq
  rcases hq with rfl | rfl | rfl | rfl | rfl
  all_goals intro ρ' hle hc u hu
  all_goals rw [← hle.s] at hS
  all_goals rw [← hle.f] at hF
  all_goals have dW := nW_den hS hF hw
  all_goals have dV := nV1_den hS hF hw
  all_goals have hc' := (CRel_apd.1 hc).1
  all_goals simp only [dW, dV, CRel_cons, CRel_nil, BT.den, IT.den, hF, fo51, one1, intCmp, Option.some.injEq, decide_eq_true_eq, decide_eq_false_iff_not, beq_iff_eq, beq_eq_false_iff_ne, and_true] at hc'
  all_goals simp only [AVal.den, AVal.denL, IT.den, BT.den, Option.map_some, Option.some.injEq] at hu
  all_goals rw [← hu]
  all_goals
    first
    | exact (rs_bad hcode (fun _ => rfl) (by omega)).symm
    | exact (rs_bad hcode (fun _ => rfl) (.inr (.inr (.inr (.inr (.inr (.inl ⟨by omega, hc'.1⟩))))))).symm
    | exact (rs_bad hcode (fun _ => rfl) (.inr (.inr (.inr (.inr (.inr (.inr ⟨by omega, hc'.1⟩))))))).symm
    | exact (rs_good1 hcode (by omega) (by decide) hc'.1).symm
    | exact (rs_bad hcode (fun _ => rfl) (.inr (.inr (.inr (.inr (.inr (.inl ⟨by omega, hc'.2.1⟩))))))).symm
    | exact (rs_bad hcode (fun _ => rfl) (.inr (.inr (.inr (.inr (.inr (.inr ⟨by omega, hc'.2.1⟩))))))).symm
    | exact (rs_good1 hcode (by omega) (by decide) hc'.2.1).symm
def sC2 : List LS := [.ret (.tuple [(.agg [(.int .i64 (.lit 0)), (.int .i64 (.lit 0))]), (.bool (.lit false))]) ([((.not (.not bM)), true), ((.cmp .leq (.slen (.var 5)) (.lit 10000)), true)] ++ csKD 2),
  .ret (.tuple [(.agg [(.int .i64 (.lit 0)), (.int .i64 (.lit 0))]), (.bool (.lit false))]) ([((.not (.cmp .eql (.fn 51 (.lit 2) (.lit 0)) (.lit 1))), true), (bM, false), ((.not (.not bM)), false), ((.cmp .leq (.slen (.var 5)) (.lit 10000)), true)] ++ csKD 2),
  .ret (.tuple [(.agg [(.int .i64 (.lit 2)), (.int .i64 (.lit 0))]), (.bool (.lit true))]) ([((.not (.cmp .eql (.fn 51 (.lit 2) (.lit 0)) (.lit 1))), false), (bM, false), ((.not (.not bM)), false), ((.cmp .leq (.slen (.var 5)) (.lit 10000)), true)] ++ csKD 2)]
theorem rC2 : (run Tryd.prog [(127, .same)] spPar2 8000 false 56 (entry Tryd.f56 (Tryd.f56.body.getD .ret) [.str s5] .leaf 0 (lenC 10000 :: csKD 2))).map (·.filterMap (sumL g5 [])) = some sC2 := by kernel_rfl
theorem leafC2 {w0 : World} {ρ : Env} {s : ByteArray} {ws : List (List UInt8)} (hS : ρ.S 5 = s) (hF : ρ.F = FO) (hw : wordsOf s.data.toList = ws) (hcode : kindOf (ws.getD 0 []) = 2) (h1 : 1 ≤ ws.length) (hz : ws.length = 2 → numL (ws.getD 1 []) = numL (joinW (ws.drop 1))) (hz3 : 3 ≤ ws.length → numL (joinW (ws.drop 1)) = -1) : ∀ q ∈ sC2, SumGood Tryd.prog (βO w0 s) 56 (fun x => x = respV ws) [] ρ q := by
  intro q hq
  simp only [sC2, List.mem_cons, List.not_mem_nil, or_false] at hq
  rcases hq with rfl | rfl | rfl
  all_goals intro ρ' hle hc u hu
  all_goals rw [← hle.s] at hS
  all_goals rw [← hle.f] at hF
  all_goals have dM := bM_den hS hF hw
  all_goals have dZ := nZ_den hS hF hw
  all_goals have hc' := (CRel_apd.1 hc).1
  all_goals simp only [dM, CRel_cons, CRel_nil, BT.den, IT.den, hF, fo51, one1, intCmp, Option.some.injEq, Option.map_some, decide_eq_true_eq, decide_eq_false_iff_not, Bool.not_eq_true', Bool.not_eq_false', and_true] at hc'
  all_goals simp only [AVal.den, AVal.denL, IT.den, BT.den, Option.map_some, Option.some.injEq] at hu
  all_goals rw [← hu]
  all_goals
    first
    | exact (rs_bad hcode hz (by omega)).symm
    | exact (rs_bad hcode hz (.inr (.inr (.inr (.inr (.inr (.inl ⟨by omega, hc'.1⟩))))))).symm
    | exact (rs_bad hcode hz (.inr (.inr (.inr (.inr (.inr (.inr ⟨by omega, hc'.1⟩))))))).symm
    | exact (rs_good1 hcode (by omega) (by decide) hc'.1).symm
    | exact (rs_bad hcode hz (.inr (.inr (.inr (.inr (.inr (.inl ⟨by omega, hc'.2.1⟩))))))).symm
    | exact (rs_bad hcode hz (.inr (.inr (.inr (.inr (.inr (.inr ⟨by omega, hc'.2.1⟩))))))).symm
    | exact (rs_good1 hcode (by omega) (by decide) hc'.2.1).symm
def sR3 : List LS := [.ret (.tuple [(.agg [(.int .i64 (.lit 0)), (.int .i64 (.lit 0))]), (.bool (.lit false))]) ([((.cmp .eql (.fn 51 (.lit 3) nV1) (.lit 1)), false), ((.cmp .geq (.lit 0) (.lit 0)), true), ((.cmp .lss (.lit 0) nW), true), ((.cmp .geq (.lit 1) (.lit 0)), true), ((.cmp .lss (.lit 1) nW), true), ((.cmp .eql nW (.lit 2)), true), ((.cmp .leq (.slen (.var 5)) (.lit 10000)), true), ((.cmp .geq nW (.lit 1)), true), ((.cmp .leq nW (.lit 10001)), true)] ++ csKR 3),
  .ret (.tuple [(.agg [(.int .i64 (.lit 0)), (.int .i64 (.lit 0))]), (.bool (.lit false))]) ([((.cmp .lss nW (.lit 3)), true), ((.cmp .eql (.fn 51 (.lit 3) nV1) (.lit 1)), true), ((.cmp .geq (.lit 0) (.lit 0)), true), ((.cmp .lss (.lit 0) nW), true), ((.cmp .geq (.lit 1) (.lit 0)), true), ((.cmp .lss (.lit 1) nW), true), ((.cmp .eql nW (.lit 2)), true), ((.cmp .leq (.slen (.var 5)) (.lit 10000)), true), ((.cmp .geq nW (.lit 1)), true), ((.cmp .leq nW (.lit 10001)), true)] ++ csKR 3),
  .ret (.tuple [(.agg [(.int .i64 (.lit 0)), (.int .i64 (.lit 0))]), (.bool (.lit false))]) ([((.cmp .eql (.fn 51 (.lit 3) (.lit 0)) (.lit 1)), false), ((.cmp .geq (.lit 0) (.lit 0)), true), ((.cmp .lss (.lit 0) nW), true), ((.cmp .eql nW (.lit 2)), false), ((.cmp .leq (.slen (.var 5)) (.lit 10000)), true), ((.cmp .geq nW (.lit 1)), true), ((.cmp .leq nW (.lit 10001)), true)] ++ csKR 3),
  .ret (.tuple [(.agg [(.int .i64 (.lit 0)), (.int .i64 (.lit 0))]), (.bool (.lit false))]) ([((.cmp .lss nW (.lit 3)), false), ((.cmp .eql (.fn 51 (.lit 3) (.lit 0)) (.lit 1)), true), ((.cmp .geq (.lit 0) (.lit 0)), true), ((.cmp .lss (.lit 0) nW), true), ((.cmp .eql nW (.lit 2)), false), ((.cmp .leq (.slen (.var 5)) (.lit 10000)), true), ((.cmp .geq nW (.lit 1)), true), ((.cmp .leq nW (.lit 10001)), true)] ++ csKR 3),
  .ret (.tuple [(.agg [(.int .i64 (.lit 3)), (.int .i64 (.lit 0))]), (.bool (.lit true))]) ([((.cmp .lss nW (.lit 3)), true), ((.cmp .eql (.fn 51 (.lit 3) (.lit 0)) (.lit 1)), true), ((.cmp .geq (.lit 0) (.lit 0)), true), ((.cmp .lss (.lit 0) nW), true), ((.cmp .eql nW (.lit 2)), false), ((.cmp .leq (.slen (.var 5)) (.lit 10000)), true), ((.cmp .geq nW (.lit 1)), true), ((.cmp .leq nW (.lit 10001)), true)] ++ csKR 3)]
theorem rR3 : (run Tryd.prog [(127, .same)] spPar2 8000 false 57 (entry Tryd.f57 (Tryd.f57.body.getD .ret) [.str s5] .leaf 0 (lenC 10000 :: csW ++ csKR 3))).map (·.filterMap (sumL g5 [])) = some sR3 := by kernel_rfl
theorem leafR3 {w0 : World} {ρ : Env} {s : ByteArray} {ws : List (List UInt8)} (hS : ρ.S 5 = s) (hF : ρ.F = FO) (hw : FO 30 (encS s) 0 = encW ws) (hcode : kindOf (ws.getD 0 []) = 3) (h1 : 1 ≤ ws.length) : ∀ q ∈ sR3, SumGood Tryd.prog (βO w0 s) 57 (fun x => x = respV ws) [] ρ q := by
  intro q hq
  simp only [sR3, List.mem_cons, List.not_mem_nil, or_false] at hq
  rcases hq with rfl | rfl | rfl | rfl | rfl
  all_goals intro ρ' hle hc u hu
  all_goals rw [← hle.s] at hS
  all_goals rw [← hle.f] at hF
  all_goals have dW := nW_den hS hF hw
  all_goals have dV := nV1_den hS hF hw
  all_goals have hc' := (CRel_apd.1 hc).1
  all_goals simp only [dW, dV, CRel_cons, CRel_nil, BT.den, IT.den, hF, fo51, one1, intCmp, Option.some.injEq, decide_eq_true_eq, decide_eq_false_iff_not, beq_iff_eq, beq_eq_false_iff_ne, and_true] at hc'
  all_goals simp only [AVal.den, AVal.denL, IT.den, BT.den, Option.map_some, Option.some.injEq] at hu
  all_goals rw [← hu]
  all_goals
    first
    | exact (rs_bad hcode (fun _ => rfl) (by omega)).symm
    | exact (rs_bad hcode (fun _ => rfl) (.inr (.inr (.inr (.inr (.inr (.inl ⟨by omega, hc'.1⟩))))))).symm
    | exact (rs_bad hcode (fun _ => rfl) (.inr (.inr (.inr (.inr (.inr (.inr ⟨by omega, hc'.1⟩))))))).symm
    | exact (rs_good1 hcode (by omega) (by decide) hc'.1).symm
    | exact (rs_bad hcode (fun _ => rfl) (.inr (.inr (.inr (.inr (.inr (.inl ⟨by omega, hc'.2.1⟩))))))).symm
    | exact (rs_bad hcode (fun _ => rfl) (.inr (.inr (.inr (.inr (.inr (.inr ⟨by omega, hc'.2.1⟩))))))).symm
    | exact (rs_good1 hcode (by omega) (by decide) hc'.2.1).symm
def sC3 : List LS := [.ret (.tuple [(.agg [(.int .i64 (.lit 0)), (.int .i64 (.lit 0))]), (.bool (.lit false))]) ([((.not (.not bM)), true), ((.cmp .leq (.slen (.var 5)) (.lit 10000)), true)] ++ csKD 3),
  .ret (.tuple [(.agg [(.int .i64 (.lit 0)), (.int .i64 (.lit 0))]), (.bool (.lit false))]) ([((.not (.cmp .eql (.fn 51 (.lit 3) (.lit 0)) (.lit 1))), true), (bM, false), ((.not (.not bM)), false), ((.cmp .leq (.slen (.var 5)) (.lit 10000)), true)] ++ csKD 3),
  .ret (.tuple [(.agg [(.int .i64 (.lit 3)), (.int .i64 (.lit 0))]), (.bool (.lit true))]) ([((.not (.cmp .eql (.fn 51 (.lit 3) (.lit 0)) (.lit 1))), false), (bM, false), ((.not (.not bM)), false), ((.cmp .leq (.slen (.var 5)) (.lit 10000)), true)] ++ csKD 3)]
theorem rC3 : (run Tryd.prog [(127, .same)] spPar2 8000 false 56 (entry Tryd.f56 (Tryd.f56.body.getD .ret) [.str s5] .leaf 0 (lenC 10000 :: csKD 3))).map (·.filterMap (sumL g5 [])) = some sC3 := by kernel_rfl
theorem leafC3 {w0 : World} {ρ : Env} {s : ByteArray} {ws : List (List UInt8)} (hS : ρ.S 5 = s) (hF : ρ.F = FO) (hw : wordsOf s.data.toList = ws) (hcode : kindOf (ws.getD 0 []) = 3) (h1 : 1 ≤ ws.length) (hz : ws.length = 2 → numL (ws.getD 1 []) = numL (joinW (ws.drop 1))) (hz3 : 3 ≤ ws.length → numL (joinW (ws.drop 1)) = -1) : ∀ q ∈ sC3, SumGood Tryd.prog (βO w0 s) 56 (fun x => x = respV ws) [] ρ q := by
  intro q hq
  simp only [sC3, List.mem_cons, List.not_mem_nil, or_false] at hq
  rcases hq with rfl | rfl | rfl
  all_goals intro ρ' hle hc u hu
  all_goals rw [← hle.s] at hS
  all_goals rw [← hle.f] at hF
  all_goals have dM := bM_den hS hF hw
  all_goals have dZ := nZ_den hS hF hw
  all_goals have hc' := (CRel_apd.1 hc).1
  all_goals simp only [dM, CRel_cons, CRel_nil, BT.den, IT.den, hF, fo51, one1, intCmp, Option.some.injEq, Option.map_some, decide_eq_true_eq, decide_eq_false_iff_not, Bool.not_eq_true', Bool.not_eq_false', and_true] at hc'
  all_goals simp only [AVal.den, AVal.denL, IT.den, BT.den, Option.map_some, Option.some.injEq] at hu
  all_goals rw [← hu]
  all_goals
    first
    | exact (rs_bad hcode hz (by omega)).symm
    | exact (rs_bad hcode hz (.inr (.inr (.inr (.inr (.inr (.inl ⟨by omega, hc'.1⟩))))))).symm
    | exact (rs_bad hcode hz (.inr (.inr (.inr (.inr (.inr (.inr ⟨by omega, hc'.1⟩))))))).symm
    | exact (rs_good1 hcode (by omega) (by decide) hc'.1).symm
    | exact (rs_bad hcode hz (.inr (.inr (.inr (.inr (.inr (.inl ⟨by omega, hc'.2.1⟩))))))).symm
    | exact (rs_bad hcode hz (.inr (.inr (.inr (.inr (.inr (.inr ⟨by omega, hc'.2.1⟩))))))).symm
    | exact (rs_good1 hcode (by omega) (by decide) hc'.2.1).symm
def sR4 : List LS := [.ret (.tuple [(.agg [(.int .i64 (.lit 0)), (.int .i64 (.lit 0))]), (.bool (.lit false))]) ([((.cmp .eql (.fn 51 (.lit 4) nV1) (.lit 1)), false), ((.cmp .geq (.lit 0) (.lit 0)), true), ((.cmp .lss (.lit 0) nW), true), ((.cmp .geq (.lit 1) (.lit 0)), true), ((.cmp .lss (.lit 1) nW), true), ((.cmp .eql nW (.lit 2)), true), ((.cmp .leq (.slen (.var 5)) (.lit 10000)), true), ((.cmp .geq nW (.lit 1)), true), ((.cmp .leq nW (.lit 10001)), true)] ++ csKR 4),
  .ret (.tuple [(.agg [(.int .i64 (.lit 4)), (.int .i64 nV1)]), (.bool (.lit true))]) ([((.cmp .lss nW (.lit 3)), true), ((.cmp .eql (.fn 51 (.lit 4) nV1) (.lit 1)), true), ((.cmp .geq (.lit 0) (.lit 0)), true), ((.cmp .lss (.lit 0) nW), true), ((.cmp .geq (.lit 1) (.lit 0)), true), ((.cmp .lss (.lit 1) nW), true), ((.cmp .eql nW (.lit 2)), true), ((.cmp .leq (.slen (.var 5)) (.lit 10000)), true), ((.cmp .geq nW (.lit 1)), true), ((.cmp .leq nW (.lit 10001)), true)] ++ csKR 4),
  .ret (.tuple [(.agg [(.int .i64 (.lit 0)), (.int .i64 (.lit 0))]), (.bool (.lit false))]) ([((.cmp .eql (.fn 51 (.lit 4) (.lit 0)) (.lit 1)), false), ((.cmp .geq (.lit 0) (.lit 0)), true), ((.cmp .lss (.lit 0) nW), true), ((.cmp .eql nW (.lit 2)), false), ((.cmp .leq (.slen (.var 5)) (.lit 10000)), true), ((.cmp .geq nW (.lit 1)), true), ((.cmp .leq nW (.lit 10001)), true)] ++ csKR 4),
  .ret (.tuple [(.agg [(.int .i64 (.lit 0)), (.int .i64 (.lit 0))]), (.bool (.lit false))]) ([((.cmp .lss nW (.lit 3)), false), ((.cmp .eql (.fn 51 (.lit 4) (.lit 0)) (.lit 1)), true), ((.cmp .geq (.lit 0) (.lit 0)), true), ((.cmp .lss (.lit 0) nW), true), ((.cmp .eql nW (.lit 2)), false), ((.cmp .leq (.slen (.var 5)) (.lit 10000)), true), ((.cmp .geq nW (.lit 1)), true), ((.cmp .leq nW (.lit 10001)), true)] ++ csKR 4),
  .ret (.tuple [(.agg [(.int .i64 (.lit 0)), (.int .i64 (.lit 0))]), (.bool (.lit false))]) ([((.cmp .lss nW (.lit 3)), true), ((.cmp .eql (.fn 51 (.lit 4) (.lit 0)) (.lit 1)), true), ((.cmp .geq (.lit 0) (.lit 0)), true), ((.cmp .lss (.lit 0) nW), true), ((.cmp .eql nW (.lit 2)), false), ((.cmp .leq (.slen (.var 5)) (.lit 10000)), true), ((.cmp .geq nW (.lit 1)), true), ((.cmp .leq nW (.lit 10001)), true)] ++ csKR 4)]
theorem rR4 : (run Tryd.prog [(127, .same)] spPar2 8000 false 57 (entry Tryd.f57 (Tryd.f57.body.getD .ret) [.str s5] .leaf 0 (lenC 10000 :: csW ++ csKR 4))).map (·.filterMap (sumL g5 [])) = some sR4 := by kernel_rfl
theorem leafR4 {w0 : World} {ρ : Env} {s : ByteArray} {ws : List (List UInt8)} (hS : ρ.S 5 = s) (hF : ρ.F = FO) (hw : FO 30 (encS s) 0 = encW ws) (hcode : kindOf (ws.getD 0 []) = 4) (h1 : 1 ≤ ws.length) : ∀ q ∈ sR4, SumGood Tryd.prog (βO w0 s) 57 (fun x => x = respV ws) [] ρ q := by
  intro q hq
  simp only [sR4, List.mem_cons, List.not_mem_nil, or_false] at hq
  rcases hq with rfl | rfl | rfl | rfl | rfl
  all_goals intro ρ' hle hc u hu
  all_goals rw [← hle.s] at hS
  all_goals rw [← hle.f] at hF
  all_goals have dW := nW_den hS hF hw
  all_goals have dV := nV1_den hS hF hw
  all_goals have hc' := (CRel_apd.1 hc).1
  all_goals simp only [dW, dV, CRel_cons, CRel_nil, BT.den, IT.den, hF, fo51, one1, intCmp, Option.some.injEq, decide_eq_true_eq, decide_eq_false_iff_not, beq_iff_eq, beq_eq_false_iff_ne, and_true] at hc'
  all_goals simp only [AVal.den, AVal.denL, dV, IT.den, BT.den, Option.map_some, Option.some.injEq] at hu
  all_goals rw [← hu]
  all_goals
    first
    | exact (rs_bad hcode (fun _ => rfl) (by omega)).symm
    | exact (rs_bad hcode (fun _ => rfl) (.inr (.inr (.inr (.inr (.inr (.inl ⟨by omega, hc'.1⟩))))))).symm
    | exact (rs_bad hcode (fun _ => rfl) (.inr (.inr (.inr (.inr (.inr (.inr ⟨by omega, hc'.1⟩))))))).symm
    | exact (rs_good2 hcode (fun _ => rfl) (by omega) (by decide) hc'.1).symm
    | exact (rs_bad hcode (fun _ => rfl) (.inr (.inr (.inr (.inr (.inr (.inl ⟨by omega, hc'.2.1⟩))))))).symm
    | exact (rs_bad hcode (fun _ => rfl) (.inr (.inr (.inr (.inr (.inr (.inr ⟨by omega, hc'.2.1⟩))))))).symm
    | exact (rs_good2 hcode (fun _ => rfl) (by omega) (by decide) hc'.2.1).symm
def sC4 : List LS := [.ret (.tuple [(.agg [(.int .i64 (.lit 0)), (.int .i64 (.lit 0))]), (.bool (.lit false))]) ([((.not bM), true), ((.cmp .leq (.slen (.var 5)) (.lit 10000)), true)] ++ csKD 4),
  .ret (.tuple [(.agg [(.int .i64 (.lit 0)), (.int .i64 (.lit 0))]), (.bool (.lit false))]) ([((.not (.cmp .eql (.fn 51 (.lit 4) nZ) (.lit 1))), true), ((.cmp .geq nZ (.lit 0)), true), (bM, true), ((.not bM), false), ((.cmp .leq (.slen (.var 5)) (.lit 10000)), true)] ++ csKD 4),
  .ret (.tuple [(.agg [(.int .i64 (.lit 4)), (.int .i64 nZ)]), (.bool (.lit true))]) ([((.not (.cmp .eql (.fn 51 (.lit 4) nZ) (.lit 1))), false), ((.cmp .geq nZ (.lit 0)), true), (bM, true), ((.not bM), false), ((.cmp .leq (.slen (.var 5)) (.lit 10000)), true)] ++ csKD 4),
  .ret (.tuple [(.agg [(.int .i64 (.lit 0)), (.int .i64 (.lit 0))]), (.bool (.lit false))]) ([((.cmp .geq nZ (.lit 0)), false), (bM, true), ((.not bM), false), ((.cmp .leq (.slen (.var 5)) (.lit 10000)), true)] ++ csKD 4)]
theorem rC4 : (run Tryd.prog [(127, .same)] spPar2 8000 false 56 (entry Tryd.f56 (Tryd.f56.body.getD .ret) [.str s5] .leaf 0 (lenC 10000 :: csKD 4))).map (·.filterMap (sumL g5 [])) = some sC4 := by kernel_rfl
theorem leafC4 {w0 : World} {ρ : Env} {s : ByteArray} {ws : List (List UInt8)} (hS : ρ.S 5 = s) (hF : ρ.F = FO) (hw : wordsOf s.data.toList = ws) (hcode : kindOf (ws.getD 0 []) = 4) (h1 : 1 ≤ ws.length) (hz : ws.length = 2 → numL (ws.getD 1 []) = numL (joinW (ws.drop 1))) (hz3 : 3 ≤ ws.length → numL (joinW (ws.drop 1)) = -1) : ∀ q ∈ sC4, SumGood Tryd.prog (βO w0 s) 56 (fun x => x = respV ws) [] ρ q := by
  intro q hq
  simp only [sC4, List.mem_cons, List.not_mem_nil, or_false] at hq
  rcases hq with rfl | rfl | rfl | rfl
  all_goals intro ρ' hle hc u hu
  all_goals rw [← hle.s] at hS
  all_goals rw [← hle.f] at hF
  all_goals have dM := bM_den hS hF hw
  all_goals have dZ := nZ_den hS hF hw
  all_goals have hc' := (CRel_apd.1 hc).1
  all_goals simp only [dM, dZ, CRel_cons, CRel_nil, BT.den, IT.den, hF, fo51, one1, intCmp, Option.some.injEq, Option.map_some, decide_eq_true_eq, decide_eq_false_iff_not, Bool.not_eq_true', Bool.not_eq_false', and_true] at hc'
  all_goals simp only [AVal.den, AVal.denL, dZ, IT.den, BT.den, Option.map_some, Option.some.injEq] at hu
  all_goals rw [← hu]
  all_goals
    first
    | exact (rs_bad hcode hz (by omega)).symm
    | exact (rs_bad hcode hz (.inr (.inr (.inr (.inr (.inr (.inl ⟨by omega, hc'.1⟩))))))).symm
    | exact (rs_bad hcode hz (.inr (.inr (.inr (.inr (.inr (.inr ⟨by omega, hc'.1⟩))))))).symm
    | exact (rs_good2 hcode hz (by omega) (by decide) hc'.1).symm
    | exact (rs_bad hcode hz (.inr (.inr (.inr (.inr (.inr (.inl ⟨by omega, hc'.2.1⟩))))))).symm
    | exact (rs_bad hcode hz (.inr (.inr (.inr (.inr (.inr (.inr ⟨by omega, hc'.2.1⟩))))))).symm
    | exact (rs_good2 hcode hz (by omega) (by decide) hc'.2.1).symm
def sR5 : List LS := [.ret (.tuple [(.agg [(.int .i64 (.lit 0)), (.int .i64 (.lit 0))]), (.bool (.lit false))]) ([((.cmp .eql (.fn 51 (.lit 5) nV1) (.lit 1)), false), ((.cmp .geq (.lit 0) (.lit 0)), true), ((.cmp .lss (.lit 0) nW), true), ((.cmp .geq (.lit 1) (.lit 0)), true), ((.cmp .lss (.lit 1) nW), true), ((.cmp .eql nW (.lit 2)), true), ((.cmp .leq (.slen (.var 5)) (.lit 10000)), true), ((.cmp .geq nW (.lit 1)), true), ((.cmp .leq nW (.lit 10001)), true)] ++ csKR 5),
  .ret (.tuple [(.agg [(.int .i64 (.lit 0)), (.int .i64 (.lit 0))]), (.bool (.lit false))]) ([((.cmp .lss nW (.lit 3)), true), ((.cmp .eql (.fn 51 (.lit 5) nV1) (.lit 1)), true), ((.cmp .geq (.lit 0) (.lit 0)), true), ((.cmp .lss (.lit 0) nW), true), ((.cmp .geq (.lit 1) (.lit 0)), true), ((.cmp .lss (.lit 1) nW), true), ((.cmp .eql nW (.lit 2)), true), ((.cmp .leq (.slen (.var 5)) (.lit 10000)), true), ((.cmp .geq nW (.lit 1)), true), ((.cmp .leq nW (.lit 10001)), true)] ++ csKR 5),
  .ret (.tuple [(.agg [(.int .i64 (.lit 0)), (.int .i64 (.lit 0))]), (.bool (.lit false))]) ([((.cmp .eql (.fn 51 (.lit 5) (.lit 0)) (.lit 1)), false), ((.cmp .geq (.lit 0) (.lit 0)), true), ((.cmp .lss (.lit 0) nW), true), ((.cmp .eql nW (.lit 2)), false), ((.cmp .leq (.slen (.var 5)) (.lit 10000)), true), ((.cmp .geq nW (.lit 1)), true), ((.cmp .leq nW (.lit 10001)), true)] ++ csKR 5),
  .ret (.tuple [(.agg [(.int .i64 (.lit 0)), (.int .i64 (.lit 0))]), (.bool (.lit false))]) ([((.cmp .lss nW (.lit 3)), false), ((.cmp .eql (.fn 51 (.lit 5) (.lit 0)) (.lit 1)), true), ((.cmp .geq (.lit 0) (.lit 0)), true), ((.cmp .lss (.lit 0) nW), true), ((.cmp .eql nW (.lit 2)), false), ((.cmp .leq (.slen (.var 5)) (.lit 10000)), true), ((.cmp .geq nW (.lit 1)), true), ((.cmp .leq nW (.lit 10001)), true)] ++ csKR 5),
  .ret (.tuple [(.agg [(.int .i64 (.lit 5)), (.int .i64 (.lit 0))]), (.bool (.lit true))]) ([((.cmp .lss nW (.lit 3)), true), ((.cmp .eql (.fn 51 (.lit 5) (.lit 0)) (.lit 1)), true), ((.cmp .geq (.lit 0) (.lit 0)), true), ((.cmp .lss (.lit 0) nW), true), ((.cmp .eql nW (.lit 2)), false), ((.cmp .leq (.slen (.var 5)) (.lit 10000)), true), ((.cmp .geq nW (.lit 1)), true), ((.cmp .leq nW (.lit 10001)), true)] ++ csKR 5)]
theorem rR5 : (run Tryd.prog [(127, .same)] spPar2 8000 false 57 (entry Tryd.f57 (Tryd.f57.body.getD .ret) [.str s5] .leaf 0 (lenC 10000 :: csW ++ csKR 5))).map (·.filterMap (sumL g5 [])) = some sR5 := by kernel_rfl
theorem leafR5 {w0 : World} {ρ : Env} {s : ByteArray} {ws : List (List UInt8)} (hS : ρ.S 5 = s) (hF : ρ.F = FO) (hw : FO 30 (encS s) 0 = encW ws) (hcode : kindOf (ws.getD 0 []) = 5) (h1 : 1 ≤ ws.length) : ∀ q ∈ sR5, SumGood Tryd.prog (βO w0 s) 57 (fun x => x = respV ws) [] ρ q := by
  intro q hq
  simp only [sR5, List.mem_cons, List.not_mem_nil, or_false] at hq
  rcases hq with rfl | rfl | rfl | rfl | rfl
  all_goals intro ρ' hle hc u hu
  all_goals rw [← hle.s] at hS
  all_goals rw [← hle.f] at hF
  all_goals have dW := nW_den hS hF hw
  all_goals have dV := nV1_den hS hF hw
  all_goals have hc' := (CRel_apd.1 hc).1
  all_goals simp only [dW, dV, CRel_cons, CRel_nil, BT.den, IT.den, hF, fo51, one1, intCmp, Option.some.injEq, decide_eq_true_eq, decide_eq_false_iff_not, beq_iff_eq, beq_eq_false_iff_ne, and_true] at hc'
  all_goals simp only [AVal.den, AVal.denL, IT.den, BT.den, Option.map_some, Option.some.injEq] at hu
  all_goals rw [← hu]
  all_goals
    first
    | exact (rs_bad hcode (fun _ => rfl) (by omega)).symm
    | exact (rs_bad hcode (fun _ => rfl) (.inr (.inr (.inr (.inr (.inr (.inl ⟨by omega, hc'.1⟩))))))).symm
    | exact (rs_bad hcode (fun _ => rfl) (.inr (.inr (.inr (.inr (.inr (.inr ⟨by omega, hc'.1⟩))))))).symm
    | exact (rs_good1 hcode (by omega) (by decide) hc'.1).symm
    | exact (rs_bad hcode (fun _ => rfl) (.inr (.inr (.inr (.inr (.inr (.inl ⟨by omega, hc'.2.1⟩))))))).symm
    | exact (rs_bad hcode (fun _ => rfl) (.inr (.inr (.inr (.inr (.inr (.inr ⟨by omega, hc'.2.1⟩))))))).symm
    | exact (rs_good1 hcode (by omega) (by decide) hc'.2.1).symm
def sC5 : List LS := [.ret (.tuple [(.agg [(.int .i64 (.lit 0)), (.int .i64 (.lit 0))]), (.bool (.lit false))]) ([((.not (.not bM)), true), ((.cmp .leq (.slen (.var 5)) (.lit 10000)), true)] ++ csKD 5),
  .ret (.tuple [(.agg [(.int .i64 (.lit 0)), (.int .i64 (.lit 0))]), (.bool (.lit false))]) ([((.not (.cmp .eql (.fn 51 (.lit 5) (.lit 0)) (.lit 1))), true), (bM, false), ((.not (.not bM)), false), ((.cmp .leq (.slen (.var 5)) (.lit 10000)), true)] ++ csKD 5),
  .ret (.tuple [(.agg [(.int .i64 (.lit 5)), (.int .i64 (.lit 0))]), (.bool (.lit true))]) ([((.not (.cmp .eql (.fn 51 (.lit 5) (.lit 0)) (.lit 1))), false), (bM, false), ((.not (.not bM)), false), ((.cmp .leq (.slen (.var 5)) (.lit 10000)), true)] ++ csKD 5)]
theorem rC5 : (run Tryd.prog [(127, .same)] spPar2 8000 false 56 (entry Tryd.f56 (Tryd.f56.body.getD .ret) [.str s5] .leaf 0 (lenC 10000 :: csKD 5))).map (·.filterMap (sumL g5 [])) = some sC5 := by kernel_rfl
theorem leafC5 {w0 : World} {ρ : Env} {s : ByteArray} {ws : List (List UInt8)} (hS : ρ.S 5 = s) (hF : ρ.F = FO) (hw : wordsOf s.data.toList = ws) (hcode : kindOf (ws.getD 0 []) = 5) (h1 : 1 ≤ ws.length) (hz : ws.length = 2 → numL (ws.getD 1 []) = numL (joinW (ws.drop 1))) (hz3 : 3 ≤ ws.length → numL (joinW (ws.drop 1)) = -1) : ∀ q ∈ sC5, SumGood Tryd.prog (βO w0 s) 56 (fun x => x = respV ws) [] ρ q := by
  intro q hq
  simp only [sC5, List.mem_cons, List.not_mem_nil, or_false] at hq
  rcases hq with rfl | rfl | rfl
  all_goals intro ρ' hle hc u hu
  all_goals rw [← hle.s] at hS
  all_goals rw [← hle.f] at hF
  all_goals have dM := bM_den hS hF hw
  all_goals have dZ := nZ_den hS hF hw
  all_goals have hc' := (CRel_apd.1 hc).1
  all_goals simp only [dM, CRel_cons, CRel_nil, BT.den, IT.den, hF, fo51, one1, intCmp, Option.some.injEq, Option.map_some, decide_eq_true_eq, decide_eq_false_iff_not, Bool.not_eq_true', Bool.not_eq_false', and_true] at hc'
  all_goals simp only [AVal.den, AVal.denL, IT.den, BT.den, Option.map_some, Option.some.injEq] at hu
  all_goals rw [← hu]
  all_goals
    first
    | exact (rs_bad hcode hz (by omega)).symm
    | exact (rs_bad hcode hz (.inr (.inr (.inr (.inr (.inr (.inl ⟨by omega, hc'.1⟩))))))).symm
    | exact (rs_bad hcode hz (.inr (.inr (.inr (.inr (.inr (.inr ⟨by omega, hc'.1⟩))))))).symm
    | exact (rs_good1 hcode (by omega) (by decide) hc'.1).symm
    | exact (rs_bad hcode hz (.inr (.inr (.inr (.inr (.inr (.inl ⟨by omega, hc'.2.1⟩))))))).symm
    | exact (rs_bad hcode hz (.inr (.inr (.inr (.inr (.inr (.inr ⟨by omega, hc'.2.1⟩))))))).symm
    | exact (rs_good1 hcode (by omega) (by decide) hc'.2.1).symm
def sR6 : List LS := [.ret (.tuple [(.agg [(.int .i64 (.lit 0)), (.int .i64 (.lit 0))]), (.bool (.lit false))]) ([((.cmp .geq (.lit 0) (.lit 0)), true), ((.cmp .lss (.lit 0) nW), true), ((.cmp .geq (.lit 1) (.lit 0)), true), ((.cmp .lss (.lit 1) nW), true), ((.cmp .eql nW (.lit 2)), true), ((.cmp .leq (.slen (.var 5)) (.lit 10000)), true), ((.cmp .geq nW (.lit 1)), true), ((.cmp .leq nW (.lit 10001)), true)] ++ csKR 6),
  .ret (.tuple [(.agg [(.int .i64 (.lit 0)), (.int .i64 (.lit 0))]), (.bool (.lit false))]) ([((.cmp .geq (.lit 0) (.lit 0)), true), ((.cmp .lss (.lit 0) nW), true), ((.cmp .eql nW (.lit 2)), false), ((.cmp .leq (.slen (.var 5)) (.lit 10000)), true), ((.cmp .geq nW (.lit 1)), true), ((.cmp .leq nW (.lit 10001)), true)] ++ csKR 6)]
theorem rR6 : (run Tryd.prog [(127, .same)] spPar2 8000 false 57 (entry Tryd.f57 (Tryd.f57.body.getD .ret) [.str s5] .leaf 0 (lenC 10000 :: csW ++ csKR 6))).map (·.filterMap (sumL g5 [])) = some sR6 := by kernel_rfl
theorem leafR6 {w0 : World} {ρ : Env} {s : ByteArray} {ws : List (List UInt8)} (hS : ρ.S 5 = s) (hF : ρ.F = FO) (hw : FO 30 (encS s) 0 = encW ws) (hcode : kindOf (ws.getD 0 []) = 6) (h1 : 1 ≤ ws.length) : ∀ q ∈ sR6, SumGood Tryd.prog (βO w0 s) 57 (fun x => x = respV ws) [] ρ q := by
  intro q hq
  simp only [sR6, List.mem_cons, List.not_mem_nil, or_false] at hq
  rcases hq with rfl | rfl
  all_goals intro ρ' hle hc u hu
  all_goals rw [← hle.s] at hS
  all_goals rw [← hle.f] at hF
  all_goals have dW := nW_den hS hF hw
  all_goals have dV := nV1_den hS hF hw
  all_goals have hc' := (CRel_apd.1 hc).1
  all_goals simp only [dW, CRel_cons, CRel_nil, BT.den, IT.den, intCmp, Option.some.injEq, decide_eq_true_eq, beq_iff_eq, beq_eq_false_iff_ne, and_true] at hc'
  all_goals simp only [AVal.den, AVal.denL, IT.den, BT.den, Option.map_some, Option.some.injEq] at hu
  all_goals rw [← hu]
  all_goals
    first
    | exact (rs_bad hcode (fun _ => rfl) (by omega)).symm
def sC6 : List LS := [.ret (.tuple [(.agg [(.int .i64 (.lit 0)), (.int .i64 (.lit 0))]), (.bool (.lit false))]) ([((.cmp .leq (.slen (.var 5)) (.lit 10000)), true)] ++ csKD 6)]
theorem rC6 : (run Tryd.prog [(127, .same)] spPar2 8000 false 56 (entry Tryd.f56 (Tryd.f56.body.getD .ret) [.str s5] .leaf 0 (lenC 10000 :: csKD 6))).map (·.filterMap (sumL g5 [])) = some sC6 := by kernel_rfl
theorem leafC6 {w0 : World} {ρ : Env} {s : ByteArray} {ws : List (List UInt8)} (hS : ρ.S 5 = s) (hF : ρ.F = FO) (hw : wordsOf s.data.toList = ws) (hcode : kindOf (ws.getD 0 []) = 6) (h1 : 1 ≤ ws.length) (hz : ws.length = 2 → numL (ws.getD 1 []) = numL (joinW (ws.drop 1))) (hz3 : 3 ≤ ws.length → numL (joinW (ws.drop 1)) = -1) : ∀ q ∈ sC6, SumGood Tryd.prog (βO w0 s) 56 (fun x => x = respV ws) [] ρ q := by
  intro q hq
  simp only [sC6, List.mem_cons, List.not_mem_nil, or_false] at hq
  subst hq
  all_goals intro ρ' hle hc u hu
  all_goals rw [← hle.s] at hS
  all_goals rw [← hle.f] at hF
  all_goals have dM := bM_den hS hF hw
  all_goals have dZ := nZ_den hS hF hw
  all_goals have hc' := (CRel_apd.1 hc).1
  all_goals simp only [CRel_cons, CRel_nil, BT.den, IT.den, intCmp, Option.some.injEq, decide_eq_true_eq, and_true] at hc'
  all_goals simp only [AVal.den, AVal.denL, IT.den, BT.den, Option.map_some, Option.some.injEq] at hu
  all_goals rw [← hu]
  all_goals
    first
    | exact (rs_bad hcode hz (by omega)).symm
/-- The reference's ParseResp. -/
theorem resp57a (w : World) (hT : TabW w) (hM : MaxW w) (hE : ErrW w) (s : ByteArray) (hs : s.size ≤ 10000) : Calls Tryd.prog 57 #[.string s] w (fun e w' => e = .returned (respV (wordsOf s.data.toList)) ∧ Framed w w') := by
  have hl := words_len s
  have hw := fo30 s
  generalize wordsOf s.data.toList = ws at hl hw ⊢
  have hS : (ρO s).S 5 = s := rfl
  have hF : (ρO s).F = FO := rfl
  have h0 : (lenC 10000).1.den (ρO s) = some true := by
    show some (decide ((s.size : Int) ≤ 10000)) = some true
    simp; omega
  have hcs : ∀ c, kindOf (ws.getD 0 []) = c → CRel (ρO s) (lenC 10000 :: (csW ++ csKR c)) := fun c hc =>
    CRel_cons.2 ⟨h0, CRel_apd.2 ⟨csW_ok hS hF hw hl.1 (by omega), csKR_ok hS hF hw hc⟩⟩
  have hle := kind_le (ws.getD 0 [])
  rcases (show kindOf (ws.getD 0 []) = 0 ∨ kindOf (ws.getD 0 []) = 1 ∨ kindOf (ws.getD 0 []) = 2 ∨ kindOf (ws.getD 0 []) = 3 ∨ kindOf (ws.getD 0 []) = 4 ∨ kindOf (ws.getD 0 []) = 5 ∨ kindOf (ws.getD 0 []) = 6 by omega) with h | h | h | h | h | h | h
  · exact calls_eq (calls_sums0 (β := βO w s) (ρ := ρO s) noCount ext1_ok (spPar2_ok w s hT hM hE) follows rfl Tryd.func57 rfl rR0 (xs := [.string s]) rfl (HRel.startG w _ (fun _ => rfl) ⟨rfl, rfl⟩) (hcs _ h) (leafR0 rfl rfl hw h hl.1))
  · exact calls_eq (calls_sums0 (β := βO w s) (ρ := ρO s) noCount ext1_ok (spPar2_ok w s hT hM hE) follows rfl Tryd.func57 rfl rR1 (xs := [.string s]) rfl (HRel.startG w _ (fun _ => rfl) ⟨rfl, rfl⟩) (hcs _ h) (leafR1 rfl rfl hw h hl.1))
  · exact calls_eq (calls_sums0 (β := βO w s) (ρ := ρO s) noCount ext1_ok (spPar2_ok w s hT hM hE) follows rfl Tryd.func57 rfl rR2 (xs := [.string s]) rfl (HRel.startG w _ (fun _ => rfl) ⟨rfl, rfl⟩) (hcs _ h) (leafR2 rfl rfl hw h hl.1))
  · exact calls_eq (calls_sums0 (β := βO w s) (ρ := ρO s) noCount ext1_ok (spPar2_ok w s hT hM hE) follows rfl Tryd.func57 rfl rR3 (xs := [.string s]) rfl (HRel.startG w _ (fun _ => rfl) ⟨rfl, rfl⟩) (hcs _ h) (leafR3 rfl rfl hw h hl.1))
  · exact calls_eq (calls_sums0 (β := βO w s) (ρ := ρO s) noCount ext1_ok (spPar2_ok w s hT hM hE) follows rfl Tryd.func57 rfl rR4 (xs := [.string s]) rfl (HRel.startG w _ (fun _ => rfl) ⟨rfl, rfl⟩) (hcs _ h) (leafR4 rfl rfl hw h hl.1))
  · exact calls_eq (calls_sums0 (β := βO w s) (ρ := ρO s) noCount ext1_ok (spPar2_ok w s hT hM hE) follows rfl Tryd.func57 rfl rR5 (xs := [.string s]) rfl (HRel.startG w _ (fun _ => rfl) ⟨rfl, rfl⟩) (hcs _ h) (leafR5 rfl rfl hw h hl.1))
  · exact calls_eq (calls_sums0 (β := βO w s) (ρ := ρO s) noCount ext1_ok (spPar2_ok w s hT hM hE) follows rfl Tryd.func57 rfl rR6 (xs := [.string s]) rfl (HRel.startG w _ (fun _ => rfl) ⟨rfl, rfl⟩) (hcs _ h) (leafR6 rfl rfl hw h hl.1))
/-- The program's ParseResp. -/
theorem resp56a (w : World) (hT : TabW w) (hM : MaxW w) (hE : ErrW w) (s : ByteArray) (hs : s.size ≤ 10000) : Calls Tryd.prog 56 #[.string s] w (fun e w' => e = .returned (respV (wordsOf s.data.toList)) ∧ Framed w w') := by
  have hl := words_len s
  have hj := join_rest (words_in s.data.toList)
  obtain ⟨ws, hw⟩ : ∃ ws, wordsOf s.data.toList = ws := ⟨_, rfl⟩
  rw [hw] at hl hj ⊢
  have hS : (ρO s).S 5 = s := rfl
  have hF : (ρO s).F = FO := rfl
  have h0 : (lenC 10000).1.den (ρO s) = some true := by
    show some (decide ((s.size : Int) ≤ 10000)) = some true
    simp; omega
  have hcs : ∀ c, kindOf (ws.getD 0 []) = c → CRel (ρO s) (lenC 10000 :: csKD c) := fun c hc =>
    CRel_cons.2 ⟨h0, csKD_ok hS hF hw hc⟩
  have hle := kind_le (ws.getD 0 [])
  rcases (show kindOf (ws.getD 0 []) = 0 ∨ kindOf (ws.getD 0 []) = 1 ∨ kindOf (ws.getD 0 []) = 2 ∨ kindOf (ws.getD 0 []) = 3 ∨ kindOf (ws.getD 0 []) = 4 ∨ kindOf (ws.getD 0 []) = 5 ∨ kindOf (ws.getD 0 []) = 6 by omega) with h | h | h | h | h | h | h
  · exact calls_eq (calls_sums0 (β := βO w s) (ρ := ρO s) noCount ext1_ok (spPar2_ok w s hT hM hE) follows rfl Tryd.func56 rfl rC0 (xs := [.string s]) rfl (HRel.startG w _ (fun _ => rfl) ⟨rfl, rfl⟩) (hcs _ h) (leafC0 rfl rfl hw h hl.1 hj.1 hj.2))
  · exact calls_eq (calls_sums0 (β := βO w s) (ρ := ρO s) noCount ext1_ok (spPar2_ok w s hT hM hE) follows rfl Tryd.func56 rfl rC1 (xs := [.string s]) rfl (HRel.startG w _ (fun _ => rfl) ⟨rfl, rfl⟩) (hcs _ h) (leafC1 rfl rfl hw h hl.1 hj.1 hj.2))
  · exact calls_eq (calls_sums0 (β := βO w s) (ρ := ρO s) noCount ext1_ok (spPar2_ok w s hT hM hE) follows rfl Tryd.func56 rfl rC2 (xs := [.string s]) rfl (HRel.startG w _ (fun _ => rfl) ⟨rfl, rfl⟩) (hcs _ h) (leafC2 rfl rfl hw h hl.1 hj.1 hj.2))
  · exact calls_eq (calls_sums0 (β := βO w s) (ρ := ρO s) noCount ext1_ok (spPar2_ok w s hT hM hE) follows rfl Tryd.func56 rfl rC3 (xs := [.string s]) rfl (HRel.startG w _ (fun _ => rfl) ⟨rfl, rfl⟩) (hcs _ h) (leafC3 rfl rfl hw h hl.1 hj.1 hj.2))
  · exact calls_eq (calls_sums0 (β := βO w s) (ρ := ρO s) noCount ext1_ok (spPar2_ok w s hT hM hE) follows rfl Tryd.func56 rfl rC4 (xs := [.string s]) rfl (HRel.startG w _ (fun _ => rfl) ⟨rfl, rfl⟩) (hcs _ h) (leafC4 rfl rfl hw h hl.1 hj.1 hj.2))
  · exact calls_eq (calls_sums0 (β := βO w s) (ρ := ρO s) noCount ext1_ok (spPar2_ok w s hT hM hE) follows rfl Tryd.func56 rfl rC5 (xs := [.string s]) rfl (HRel.startG w _ (fun _ => rfl) ⟨rfl, rfl⟩) (hcs _ h) (leafC5 rfl rfl hw h hl.1 hj.1 hj.2))
  · exact calls_eq (calls_sums0 (β := βO w s) (ρ := ρO s) noCount ext1_ok (spPar2_ok w s hT hM hE) follows rfl Tryd.func56 rfl rC6 (xs := [.string s]) rfl (HRel.startG w _ (fun _ => rfl) ⟨rfl, rfl⟩) (hcs _ h) (leafC6 rfl rfl hw h hl.1 hj.1 hj.2))
end Txt
end Go.Proofs.YtagdcclpibjfoaaDoor
