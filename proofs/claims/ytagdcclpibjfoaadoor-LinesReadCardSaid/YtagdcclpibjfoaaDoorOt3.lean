/-
  OpsTexts (3): numbers in texts: the reference's Number, strconv.Atoi at any text, ops.number.
-/
import Derived.Test.YtagdcclpibjfoaaDoorOt2
import Derived.Shelf.Strconv.AtoiAll
import Derived.Test.YtagdcclpibjfoaaDoorTx9
namespace Go.Proofs
theorem Tryd.laysM172 : Go.Proofs.LaysM.n172 Tryd.prog Tryd.lays172_ren := { Tryd.lays172 with
  t80 := Tryd.underlying104
  a80 := Tryd.isAgg104
  z80 := Tryd.sizeOf104
  v80 := Tryd.zeroValue104
  i0 := by kernel_rfl
  i2 := by kernel_rfl
  i3 := by kernel_rfl
  i4 := by kernel_rfl
  i5 := by kernel_rfl
  i9 := by kernel_rfl
  i20 := by kernel_rfl
  i21 := by kernel_rfl
  i37 := by kernel_rfl
  i46 := by kernel_rfl
  i51 := by kernel_rfl
  i53 := by kernel_rfl
  i75 := by kernel_rfl
  i76 := by kernel_rfl
  i80 := by kernel_rfl
  i85 := by kernel_rfl
  i127 := by kernel_rfl
  i143 := by kernel_rfl
  i145 := by kernel_rfl
  i167 := by kernel_rfl
  i168 := by kernel_rfl
  i171 := by kernel_rfl
  i173 := by kernel_rfl
  i175 := by kernel_rfl
  i210 := by kernel_rfl
  i212 := by kernel_rfl
  i232 := by kernel_rfl
  i233 := by kernel_rfl
  m15 := by kernel_rfl
  m16 := by kernel_rfl
  m17 := by kernel_rfl
  m18 := by kernel_rfl
  m19 := by kernel_rfl }
theorem Tryd.laysC172 : Go.Proofs.LaysC.n172 Tryd.prog Tryd.lays172_ren := { Tryd.laysM172 with
  c0 := by kernel_rfl
  c2 := by kernel_rfl
  c3 := by kernel_rfl
  c4 := by kernel_rfl
  c5 := by kernel_rfl
  c9 := by kernel_rfl
  c20 := by kernel_rfl
  c21 := by kernel_rfl
  c37 := by kernel_rfl
  c46 := by kernel_rfl
  c51 := by kernel_rfl
  c53 := by kernel_rfl
  c75 := by kernel_rfl
  c76 := by kernel_rfl
  c80 := by kernel_rfl
  c85 := by kernel_rfl
  c127 := by kernel_rfl
  c143 := by kernel_rfl
  c145 := by kernel_rfl
  c167 := by kernel_rfl
  c168 := by kernel_rfl
  c171 := by kernel_rfl
  c173 := by kernel_rfl
  c175 := by kernel_rfl
  c210 := by kernel_rfl
  c212 := by kernel_rfl
  c213 := by kernel_rfl
  c232 := by kernel_rfl
  c233 := by kernel_rfl }
end Go.Proofs
namespace Go.Proofs.YtagdcclpibjfoaaDoor
open Go.Vm
namespace Txt

-- THE REFERENCE'S NUMBER
def NT : Tpl := ⟨[(0, .str s5), (3, xI 1), (4, xI 0)], 47, [], 0, [(.cmp .geq (.var 0) (.lit 0), true), (.cmp .leq (.var 0) (.slen s5), true), lenC 9], 3⟩
noncomputable def nb0 : Code := ((loopsOf (Tryd.f102.body.getD .ret) []).getD 0 (.ret, [])).1
noncomputable def nk0 : List Item := ((loopsOf (Tryd.f102.body.getD .ret) []).getD 0 (.ret, [])).2
noncomputable def sNumE : List LS := [.ret (.int .i64 (.lit (-1))) [((.seq (.var 5) (.lit [])), true)],
  .ret (.int .i64 (.lit (-1))) [((.cmp .gtr (.slen (.var 5)) (.lit 9)), true), ((.seq (.var 5) (.lit [])), false)],
  .ret (.int .i64 (.lit (-1))) [((.cmp .eql (.un 0 (.scode (.var 5)) (.lit 0)) (.lit 48)), true), ((.cmp .geq (.lit 0) (.lit 0)), true), ((.cmp .lss (.lit 0) (.slen (.var 5))), true), ((.cmp .gtr (.slen (.var 5)) (.lit 1)), true), ((.cmp .gtr (.slen (.var 5)) (.lit 9)), false), ((.seq (.var 5) (.lit [])), false)],
  .next 0 (.code (.loop nb0) :: nk0) [((.cmp .eql (.un 0 (.scode (.var 5)) (.lit 0)) (.lit 48)), false), ((.cmp .geq (.lit 0) (.lit 0)), true), ((.cmp .lss (.lit 0) (.slen (.var 5))), true), ((.cmp .gtr (.slen (.var 5)) (.lit 1)), true), ((.cmp .gtr (.slen (.var 5)) (.lit 9)), false), ((.seq (.var 5) (.lit [])), false)] ⟨[(1, (.lit 0)), (0, (.lit 0))], [], [], [], []⟩,
  .next 0 (.code (.loop nb0) :: nk0) [((.cmp .gtr (.slen (.var 5)) (.lit 1)), false), ((.cmp .gtr (.slen (.var 5)) (.lit 9)), false), ((.seq (.var 5) (.lit [])), false)] ⟨[(1, (.lit 0)), (0, (.lit 0))], [], [], [], []⟩]
noncomputable def sNum : List LS := [.ret (.int .i64 (.lit (-1))) [((.cmp .lss (.un 0 (.scode (.var 5)) (.var 0)) (.lit 48)), true), ((.cmp .lss (.var 0) (.slen (.var 5))), true), ((.cmp .geq (.var 0) (.lit 0)), true), ((.cmp .leq (.var 0) (.slen (.var 5))), true), ((.cmp .leq (.slen (.var 5)) (.lit 9)), true)],
  .ret (.int .i64 (.lit (-1))) [((.cmp .gtr (.un 0 (.scode (.var 5)) (.var 0)) (.lit 57)), true), ((.cmp .lss (.un 0 (.scode (.var 5)) (.var 0)) (.lit 48)), false), ((.cmp .lss (.var 0) (.slen (.var 5))), true), ((.cmp .geq (.var 0) (.lit 0)), true), ((.cmp .leq (.var 0) (.slen (.var 5))), true), ((.cmp .leq (.slen (.var 5)) (.lit 9)), true)],
  .next 0 (.inLoop nb0 :: nk0) [((.cmp .gtr (.un 0 (.scode (.var 5)) (.var 0)) (.lit 57)), false), ((.cmp .lss (.un 0 (.scode (.var 5)) (.var 0)) (.lit 48)), false), ((.cmp .lss (.var 0) (.slen (.var 5))), true), ((.cmp .geq (.var 0) (.lit 0)), true), ((.cmp .leq (.var 0) (.slen (.var 5))), true), ((.cmp .leq (.slen (.var 5)) (.lit 9)), true)] ⟨[(1, (.bin .add .i64 (.bin .mul .i64 (.lit 10) (.var 1)) (.cv .i64 (.bin .sub .u8 (.un 0 (.scode (.var 5)) (.var 0)) (.lit 48))))), (0, (.bin .add .i64 (.var 0) (.lit 1)))], [], [], [], []⟩,
  .ret (.int .i64 (.var 1)) [((.cmp .lss (.var 0) (.slen (.var 5))), false), ((.cmp .geq (.var 0) (.lit 0)), true), ((.cmp .leq (.var 0) (.slen (.var 5))), true), ((.cmp .leq (.slen (.var 5)) (.lit 9)), true)]]
noncomputable def sN100 : List LS := [.ret (.tuple [(.int .i64 (.lit 0)), (.bool (.lit false))]) [((.cmp .gtr (.slen (.var 5)) (.lit 9)), true)],
  .ret (.tuple [(.int .i64 (.fn 33 (.scode (.var 5)) (.lit 0))), (.bool (.seq (.fn 1 (.fn 33 (.sv 5) (.lit 0)) (.lit 0)) (.var 5)))]) [((.cmp .geq (.fn 33 (.scode (.var 5)) (.lit 0)) (.lit 0)), true), ((.cmp .eql (.fn 34 (.scode (.var 5)) (.lit 0)) (.lit 1)), true), ((.cmp .gtr (.slen (.var 5)) (.lit 9)), false)],
  .ret (.tuple [(.int .i64 (.fn 33 (.scode (.var 5)) (.lit 0))), (.bool (.lit false))]) [((.cmp .geq (.fn 33 (.scode (.var 5)) (.lit 0)) (.lit 0)), false), ((.cmp .eql (.fn 34 (.scode (.var 5)) (.lit 0)) (.lit 1)), true), ((.cmp .gtr (.slen (.var 5)) (.lit 9)), false)],
  .ret (.tuple [(.int .i64 (.fn 33 (.scode (.var 5)) (.lit 0))), (.bool (.lit false))]) [((.cmp .eql (.fn 34 (.scode (.var 5)) (.lit 0)) (.lit 1)), false), ((.cmp .gtr (.slen (.var 5)) (.lit 9)), false)]]
theorem rNumE : (run Tryd.prog [] noSpx 4000 true 102 (entry Tryd.f102 (Tryd.f102.body.getD .ret) [.str s5] .leaf 0 [])).map (·.filterMap (sumL g5 [NT])) = some sNumE := by kernel_rfl
theorem rNum : (run Tryd.prog [] noSpx 4000 true 102 (NT.st (.code nb0 :: .inLoop nb0 :: nk0))).map (·.filterMap (sumL g5 [NT])) = some sNum := by kernel_rfl
/-- What is seen of a text at once. -/
def NumMid (l : List UInt8) : Prop := l ≠ [] ∧ l.length ≤ 9 ∧ (1 < l.length → l.getD 0 0 ≠ 48)
theorem numL_mid {l : List UInt8} (h : NumMid l) : numL l = if l.all dig = true then (dv l : Int) else -1 := by
  obtain ⟨h1, h2, h3⟩ := h
  unfold numL
  cases hd : l.all dig with
  | true =>
    rw [if_neg, if_pos rfl]
    simp only [not_or, not_and, Nat.not_lt]
    exact ⟨h1, h2, h3, by simp⟩
  | false => rw [if_pos (by simp), if_neg (by simp)]
theorem numL_bad {l : List UInt8} (h : NumMid l) {i : Nat} {b : UInt8} (hb : l[i]? = some b) (hd : dig b = false) : numL l = -1 := by
  rw [numL_mid h, if_neg]
  intro hall
  have := List.all_eq_true.1 hall b (List.mem_of_getElem? hb)
  rw [hd] at this; cases this
def JN (s : ByteArray) : GP := fun I _ _ _ _ => ∃ i : Nat, I 0 = i ∧ i ≤ s.size ∧ I 1 = (dv (s.data.toList.take i) : Int) ∧ (s.data.toList.take i).all dig = true
abbrev RN (s : ByteArray) : Value → Prop := fun x => x = .int .i64 (numL s.data.toList)
theorem dv9 {l : List UInt8} (h : l.all dig = true) (hl : l.length ≤ 9) : dv l < 1000000000 := by
  have h1 := dv_lt l h
  have hp9 : 10 ^ l.length ≤ 10 ^ 9 := Nat.pow_le_pow_right (by decide) hl
  have h9 : (10 : Nat) ^ 9 = 1000000000 := by decide
  omega
theorem loopN (w0 : World) (s : ByteArray) (hm : NumMid s.data.toList) : ∀ ρ, (JN s).at ρ → ∀ todo a w, todo = .inLoop nb0 :: nk0 ∨ todo = .code (.loop nb0) :: nk0 → SRel (βO w0 s) ρ (NT.st todo) a w → Goes Tryd.prog 102 (fun x w' => RN s x ∧ Framed w0 w') todo a w := by
  have hsz : s.data.toList.length = s.size := by simp
  have hs : s.size ≤ 9 := by have := hm.2.1; omega
  refine loop_goes (β := βO w0 s) noCount noExt noSpx_ok follows rfl rNum (JN s) (fun ρ => (s.size - ρ.I 0).toNat) (fun ρ hJ hcs hG ih q hq => ?_)
  simp only [sNum, List.mem_cons, List.not_mem_nil, or_false] at hq
  rcases hq with rfl | rfl | rfl | rfl
  all_goals intro ρ' hle hc
  all_goals obtain ⟨i, j1, j2, j3, j4⟩ := GP.mono hle hJ
  all_goals obtain ⟨g1, g2⟩ := GP.mono hle hG
  all_goals have e2 : ρ.I = ρ'.I := hle.i.symm
  all_goals obtain ⟨b, hbb⟩ : ∃ b, s.data.toList.getD i 0 = b := ⟨_, rfl⟩
  all_goals have hu0 : univ 0 (encS s) (i : Int) = (b.toNat : Int) := by rw [un0_byte, hbb]
  · intro u hu
    simp [CRel_cons, CRel_nil, BT.den, IT.den, ST.den, intCmp, j1, g1, hu0] at hc
    have hi : i < s.size := by omega
    simp only [AVal.den, IT.den, Option.map_some, Option.some.injEq] at hu
    rw [← hu]
    show Value.int .i64 (-1) = .int .i64 (numL s.data.toList)
    rw [numL_bad hm (at_i s hi) (by rw [hbb]; simp only [dig, decide_eq_false_iff_not]; omega)]
  · intro u hu
    simp [CRel_cons, CRel_nil, BT.den, IT.den, ST.den, intCmp, j1, g1, hu0] at hc
    have hi : i < s.size := by omega
    simp only [AVal.den, IT.den, Option.map_some, Option.some.injEq] at hu
    rw [← hu]
    show Value.int .i64 (-1) = .int .i64 (numL s.data.toList)
    rw [numL_bad hm (at_i s hi) (by rw [hbb]; simp only [dig, decide_eq_false_iff_not]; omega)]
  · intro T hT hG'
    simp [CRel_cons, CRel_nil, BT.den, IT.den, ST.den, intCmp, j1, g1, hu0] at hc
    have hi : i < s.size := by omega
    have hT : NT = T := by simpa using hT
    subst hT
    have hget : s.data.toList[i]? = some b := by rw [at_i s hi, hbb]
    have hdig : dig b = true := by simp only [dig, decide_eq_true_eq]; omega
    have h9 := dv9 j4 (by rw [List.length_take]; omega)
    have e0 : IntKind.i64.wrap (ρ'.I 0 + 1) = ((i + 1 : Nat) : Int) := by rw [j1, wrapI (by omega) (by omega)]; omega
    have hv : dv (s.data.toList.take (i + 1)) = 10 * dv (s.data.toList.take i) + (b.toNat - 48) := dv_succ hget
    have hd1 : (s.data.toList.take (i + 1)).all dig = true := by rw [all_succ hget, j4, hdig]; rfl
    refine ⟨GO_app hG' rfl, ?_, fun a w r => ih _ ?_ ⟨i + 1, e0, by omega, ?_, hd1⟩ _ a w (.inl rfl) r⟩
    · simp [NT, lenC, s5, CRel_cons, CRel_nil, BT.den, IT.den, ST.den, intCmp, intBin, Go.Vm.Sub.app, lk_cons, lk_nil, e0, g1]
      omega
    · show ((s.size : Int) - IntKind.i64.wrap (ρ'.I 0 + 1)).toNat < _
      rw [e0, e2, j1]; omega
    · rw [hv]
      have eb : univ 0 (encS (ρ'.S 5)) (ρ'.I 0) = (b.toNat : Int) := by rw [g1, j1, hu0]
      show IntKind.i64.wrap (IntKind.i64.wrap (10 * ρ'.I 1) + IntKind.i64.wrap (IntKind.u8.wrap (univ 0 (encS (ρ'.S 5)) (ρ'.I 0) - 48))) = _
      have e8 : IntKind.u8.wrap ((b.toNat : Int) - 48) = (b.toNat : Int) - 48 := by rw [IntKind.wrap_u8]; omega
      rw [eb, e8, j3, wrapI (x := 10 * (dv (s.data.toList.take i) : Int)) (by omega) (by omega), wrapI (x := (b.toNat : Int) - 48) (by omega) (by omega), wrapI (by omega) (by omega)]
      omega
  · intro u hu
    simp [CRel_cons, CRel_nil, BT.den, IT.den, ST.den, intCmp, j1, g1] at hc
    have hij : i = s.size := by omega
    subst hij
    simp only [AVal.den, IT.den, Option.map_some, Option.some.injEq] at hu
    rw [List.take_of_length_le (by omega)] at j3 j4
    rw [← hu, j3]
    show _ = Value.int .i64 (numL s.data.toList)
    rw [numL_mid hm, if_pos j4]
/-- The reference's Number. -/
theorem number102 (w : World) (s : ByteArray) : Calls Tryd.prog 102 #[.string s] w (fun e w' => e = .returned (.int .i64 (numL s.data.toList)) ∧ Framed w w') := by
  have hsz : s.data.toList.length = s.size := by simp
  refine calls_eq (calls_sums (β := βO w s) (ρ := ρO s) noCount noExt noSpx_ok follows rfl Tryd.func102 rfl rNumE (xs := [.string s]) rfl (HRel.startG w _ (fun _ => rfl) ⟨rfl, rfl⟩) (CRel_nil.2 trivial) (fun q hq => ?_))
  have hnil : ∀ ρ' : Env, ρ'.S 5 = s → ∀ b, (BT.seq (.var 5) (.lit [])).den ρ' = some b → (b = true ↔ s.data.toList = []) := fun ρ' hS b h => by
    rw [seqD] at h
    simp only [ST.den, hS, Option.some.injEq] at h
    rw [← h, beq_iff_eq]
  have h0 : univ 0 (encS s) 0 = ((s.data.toList.getD 0 0).toNat : Int) := un0_byte s 0
  simp only [sNumE, List.mem_cons, List.not_mem_nil, or_false] at hq
  rcases hq with rfl | rfl | rfl | rfl | rfl
  · intro ρ' hle hc u hu
    have hS : ρ'.S 5 = s := by rw [hle.s]; rfl
    have h1 := (hnil ρ' hS _ (hc _ List.mem_cons_self)).1 rfl
    simp only [AVal.den, IT.den, Option.map_some, Option.some.injEq] at hu
    rw [← hu]; unfold numL; rw [if_pos (.inl h1)]
  · intro ρ' hle hc u hu
    have hS : ρ'.S 5 = s := by rw [hle.s]; rfl
    have h1 := hc _ List.mem_cons_self
    simp only [BT.den, IT.den, ST.den, hS, intCmp, Option.some.injEq, decide_eq_true_eq] at h1
    simp only [AVal.den, IT.den, Option.map_some, Option.some.injEq] at hu
    rw [← hu]; unfold numL; rw [if_pos (.inr (.inl (by omega)))]
  · intro ρ' hle hc u hu
    have hS : ρ'.S 5 = s := by rw [hle.s]; rfl
    have h1 := hc _ List.mem_cons_self
    have h2 := hc (.cmp .gtr (.slen (.var 5)) (.lit 1), true) (by simp)
    simp only [BT.den, IT.den, ST.den, hS, h0, intCmp, Option.some.injEq, decide_eq_true_eq, beq_iff_eq] at h1 h2
    simp only [AVal.den, IT.den, Option.map_some, Option.some.injEq] at hu
    rw [← hu]; unfold numL
    rw [if_pos (.inr (.inr (.inl ⟨by omega, UInt8.toNat_inj.1 (by show _ = 48; omega)⟩)))]
  · intro ρ' hle hc T hT hG
    have hS : ρ'.S 5 = s := by rw [hle.s]; rfl
    have h1 := hc _ List.mem_cons_self
    have h2 := hc (.cmp .gtr (.slen (.var 5)) (.lit 1), true) (by simp)
    have h3 := hc (.cmp .gtr (.slen (.var 5)) (.lit 9), false) (by simp)
    simp only [BT.den, IT.den, ST.den, hS, h0, intCmp, Option.some.injEq, decide_eq_true_eq, decide_eq_false_iff_not, beq_eq_false_iff_ne] at h1 h2 h3
    have hm : NumMid s.data.toList := ⟨by intro e; rw [e] at hsz; simp at hsz; omega, by omega, fun _ e => h1 (by rw [e]; rfl)⟩
    have hT : NT = T := by simpa using hT
    subst hT
    obtain ⟨g1, g2⟩ := id hG
    refine ⟨GO_app hG rfl, ?_, fun a w' r => loopN w s hm _ ⟨0, rfl, Nat.zero_le _, by simp [dv]; rfl, by simp⟩ _ a w' (.inr rfl) r⟩
    simp [NT, lenC, s5, CRel_cons, CRel_nil, BT.den, IT.den, ST.den, intCmp, Go.Vm.Sub.app, lk_cons, lk_nil, g1]
    omega
  · intro ρ' hle hc T hT hG
    have hS : ρ'.S 5 = s := by rw [hle.s]; rfl
    have h2 := hc _ List.mem_cons_self
    have h3 := hc (.cmp .gtr (.slen (.var 5)) (.lit 9), false) (by simp)
    have h4 := hnil ρ' hS _ (hc (.seq (.var 5) (.lit []), false) (by simp))
    simp only [BT.den, IT.den, ST.den, hS, intCmp, Option.some.injEq, decide_eq_false_iff_not] at h2 h3
    have hm : NumMid s.data.toList := ⟨(fun e => by cases h4.2 e), by omega, fun _ => by omega⟩
    have hT : NT = T := by simpa using hT
    subst hT
    obtain ⟨g1, g2⟩ := id hG
    refine ⟨GO_app hG rfl, ?_, fun a w' r => loopN w s hm _ ⟨0, rfl, Nat.zero_le _, by simp [dv]; rfl, by simp⟩ _ a w' (.inr rfl) r⟩
    simp [NT, lenC, s5, CRel_cons, CRel_nil, BT.den, IT.den, ST.den, intCmp, Go.Vm.Sub.app, lk_cons, lk_nil, g1]
    omega
def nT (s : ST) : IT := .fn 31 (.scode s) (.lit 0)
def spNumR : SpG := fun args H nl cs => match args with
  | [.str s] => some [.ret (.int .i64 (nT s)) H nl cs]
  | _ => none
theorem nT_den {β : Base} {ρ : Env} {H : Heap} {nl : Nat} {w : World} (hG : GF 31 β) (hh : HRel β ρ H nl w) (s : ST) : (nT s).den ρ = some (numL (s.den ρ).data.toList) := by
  simp only [nT, IT.den, hG _ _ _ _ _ hh.g]
  show some (numL (lb (encS (s.den ρ)))) = _
  rw [lb_enc]
theorem spNumR_ok {β : Base} (hG : GF 31 β) : SpGOk Tryd.prog β 102 spNumR := by
  intro args H nl cs ls ρ w xs hr hx hh hc
  unfold spNumR at hr
  split at hr
  rotate_left
  · cases hr
  rename_i s
  cases hr
  simp only [AVal.denL, AVal.den, Option.some.injEq] at hx
  subst hx
  exact spV_ok (number102 w (s.den ρ)) (by simp only [AVal.den, nT_den hG hh]; rfl) hh hc
-- strconv.Atoi, AT ANY TEXT
/-- The cells of the library's two errors. -/
def ErrW (w : World) : Prop := (∃ ev, w.cell? ⟨2, 0, none⟩ = some ev ∧ (ev = .nilIface ∨ ∃ te pe, ev = .iface te pe)) ∧ ∃ ev, w.cell? ⟨3, 0, none⟩ = some ev ∧ (ev = .nilIface ∨ ∃ te pe, ev = .iface te pe)
theorem cell_of' {β : Base} {ρ : Env} {H : Heap} {nl : Nat} {w : World} {b : Nat} {v : Value} (h : β.w0.cell? ⟨b, 0, none⟩ = some v) (hown : β.own = []) (hr : HRel β ρ H nl w) : w.cell? ⟨b, 0, none⟩ = some v := by
  have hb : w.heap[b]? = β.w0.heap[b]? := by
    rcases Nat.lt_or_ge b β.w0.heap.size with h1 | h1
    · exact hr.frame b h1 fun l hl => by rw [hown] at hl; cases hl
    · have h2 : β.w0.heap[b]? = none := Array.getElem?_eq_none h1
      simp [World.cell?, h2] at h
  unfold World.cell? at h ⊢
  simp only [hb]
  exact h
theorem ErrW.of {β : Base} {ρ : Env} {H : Heap} {nl : Nat} {w : World} (h : ErrW β.w0) (hown : β.own = []) (hr : HRel β ρ H nl w) : ErrW w := by
  obtain ⟨⟨e1, h1, h2⟩, e2, h3, h4⟩ := h
  exact ⟨⟨e1, cell_of' h1 hown hr, h2⟩, e2, cell_of' h3 hown hr, h4⟩
theorem atoi122a (w : World) (hE : ErrW w) (s : ByteArray) (hs : s.size ≤ 281474976710656) : Calls Tryd.prog 122 #[.string s] w (fun e w' => ((atoiV s.data.toList).2 = true ∧ e = .returned (.tuple #[.int .i64 (atoiV s.data.toList).1, .nilIface]) ∧ Framed w w') ∨
    ((atoiV s.data.toList).2 = false ∧ ∃ N : Nat, e = .returned (.tuple #[.int .i64 (atoiV s.data.toList).1, .iface 180 (.pointer (some ⟨N, 0, none⟩))]) ∧ Framed w w')) := by
  obtain ⟨⟨e1, h1, h2⟩, e2, h3, h4⟩ := hE
  cases ha : Lib.atoiAll s.data.toList
  case ok v =>
    have hv : atoiV s.data.toList = (v, true) := by unfold atoiV; rw [ha]
    rw [hv]
    refine (Any.strconv_Atoi_ok Tryd.laysC172 s (by omega) v ha w).mono fun e w' ⟨he, hw⟩ => .inl ⟨rfl, he, ?_⟩
    rcases hw with rfl | ⟨t, rfl⟩
    · exact Framed.refl _
    · exact framed_of_below (Joins.below_bytesWorld _ w _ t (Nat.le_refl _))
  case range =>
    have hv : atoiV s.data.toList = (Lib.atoiSat s.data.toList, false) := by unfold atoiV; rw [ha]
    rw [hv]
    exact (Any.strconv_Atoi_range Tryd.laysC172 s hs ha e2 w h3 h4).mono fun e w' ⟨N, he, _, _, hb⟩ => .inr ⟨rfl, N, he, framed_of_below hb⟩
  all_goals
    have hv : atoiV s.data.toList = (0, false) := by unfold atoiV; rw [ha]
    rw [hv]
    exact (Any.strconv_Atoi_syntax Tryd.laysC172 s hs ha e1 w h1 h2).mono fun e w' ⟨N, he, _, _, hb⟩ => .inr ⟨rfl, N, he, framed_of_below hb⟩
def aV (s : ST) : IT := .fn 33 (.scode s) (.lit 0)
def aB (s : ST) : BT := .cmp .eql (.fn 34 (.scode s) (.lit 0)) (.lit 1)
def spAtoiA : SpG := fun args H nl cs => match args with
  | [.str s] => cond (sureL cs s 100000) (some [.ret (.tuple [.int .i64 (aV s), .nilIface]) H nl ((aB s, true) :: cs), .ret (.tuple [.int .i64 (aV s), .iface 180 (.ptr nl (.lit 0))]) H (nl + 1) ((aB s, false) :: cs)]) none
  | _ => none
theorem aV_den {β : Base} {ρ : Env} {H : Heap} {nl : Nat} {w : World} (hG : GF 33 β) (hh : HRel β ρ H nl w) (s : ST) : (aV s).den ρ = some (atoiV (s.den ρ).data.toList).1 := by
  simp only [aV, IT.den, hG _ _ _ _ _ hh.g]
  show some (atoiV (lb (encS (s.den ρ)))).1 = _
  rw [lb_enc]
theorem aB_den {β : Base} {ρ : Env} {H : Heap} {nl : Nat} {w : World} (hG : GF 34 β) (hh : HRel β ρ H nl w) (s : ST) : (aB s).den ρ = some (atoiV (s.den ρ).data.toList).2 := by
  simp only [aB, BT.den, IT.den, hG _ _ _ _ _ hh.g]
  show some ((if (atoiV (lb (encS (s.den ρ)))).2 then (1 : Int) else 0) == 1) = _
  rw [lb_enc]
  cases (atoiV (s.den ρ).data.toList).2 <;> rfl
theorem spAtoiA_ok {β : Base} (hG : GF 33 β) (hG4 : GF 34 β) (hown : β.own = []) (hE : ErrW β.w0) : SpGOk Tryd.prog β 122 spAtoiA := by
  intro args H nl cs ls ρ w xs hr hx hh hc
  unfold spAtoiA at hr
  split at hr
  rotate_left
  · cases hr
  rename_i s
  cases hb : sureL cs s 100000 with
  | false => rw [hb] at hr; cases hr
  | true =>
    rw [hb] at hr; cases hr
    have hle := sureL_ok hb hc
    simp only [AVal.denL, AVal.den, Option.some.injEq] at hx
    subst hx
    have hv := aV_den hG hh s
    have hbd := aB_den hG4 hh s
    refine (atoi122a w (hE.of hown hh) (s.den ρ) (by omega)).mono fun e w' ha => ?_
    rcases ha with ⟨h1, he, hf⟩ | ⟨h1, N, he, hf⟩
    · exact ⟨_, he, _, _, _, _, ρ, List.mem_cons_self, Env.Le.refl ρ, by simp only [AVal.den, AVal.denL, hv, Option.map_some], hh.framed hf, CRel_cons.2 ⟨by rw [hbd, h1], hc⟩⟩
    · have hN := (hh.framed hf).num N
      have hle := Env.le_put (b := N) (hh.fresh nl (Nat.le_refl _))
      refine ⟨_, he, _, _, _, _, ρ.put nl N, List.mem_cons_of_mem _ List.mem_cons_self, hle, ?_, hN, CRel_cons.2 ⟨BT.den_mono hle (by rw [hbd, h1]), hc.mono hle⟩⟩
      have e0 : natOf ((IT.lit 0).den (ρ.put nl N)) = some 0 := rfl
      simp only [AVal.den, AVal.denL, IT.den_mono hle hv, Env.put_same, e0, Option.map_some]
-- ops.number
def spItA : SpG := fun args H nl cs => match args with
  | [.int .i64 (.fn 33 a b)] => match (IT.fn 33 a b).toP with
    | some p => some [.ret (.str (.fn 1 p (.lit 0))) H nl cs]
    | none => none
  | _ => none
/-- The text of a number, under its name; what the library reads is an int. -/
def G100 (s : ByteArray) : GP := fun _ _ S _ F => S 5 = s ∧ F = FO ∧ ∀ x, S (codN 1 x 0) = ⟨(Lib.itoa x).toArray⟩
theorem FO33 (x y : Int) : -9223372036854775808 ≤ FO 33 x y ∧ FO 33 x y < 9223372036854775808 := atoiV_rng _
theorem spItA_ok {w0 : World} {s : ByteArray} (hT : TabW w0) : SpGOk Tryd.prog ⟨w0, [], G100 s⟩ 74 spItA := by
  intro args H nl cs ls ρ w xs hr hx hh hc
  unfold spItA at hr
  split at hr
  rotate_left
  · cases hr
  rename_i a b
  split at hr
  rotate_left
  · cases hr
  rename_i p hp
  cases hr
  obtain ⟨g1, g2, g3⟩ := hh.g
  have hd := IT.toP_den (ρ := ρ) hp
  have hr : -9223372036854775808 ≤ p.den ρ ∧ p.den ρ < 9223372036854775808 := by
    simp only [IT.den] at hd
    cases ha : a.den ρ with
    | none => rw [ha] at hd; cases hd
    | some x =>
      cases hb : b.den ρ with
      | none => rw [ha, hb] at hd; cases hd
      | some y =>
        rw [ha, hb] at hd
        have := Option.some.inj hd
        rw [← this, g2]
        exact FO33 x y
  simp only [AVal.denL, AVal.den, hd, Option.map_some, Option.some.injEq] at hx
  subst hx
  refine spV_ok (itoa74 (TabW.of hT rfl hh) (p.den ρ) hr.1 hr.2) ?_ hh hc
  have := itoa_len hr.1 hr.2
  show some (Value.string (cutM (ρ.S (codN 1 (p.den ρ) 0)))) = _
  rw [g3, cutM_eq (by show (Lib.itoa (p.den ρ)).toArray.size ≤ _; simp; omega)]
def sp100 : CallF := spL [(122, spAtoiA), (74, spItA)]
theorem rN100 : (run Tryd.prog [] sp100 4000 true 100 (entry Tryd.f100 (Tryd.f100.body.getD .ret) [.str s5] .leaf 0 [])).map (·.filterMap (sumL g5 [])) = some sN100 := by kernel_rfl
open Classical in
/-- Texts: those of numbers, and one. -/
noncomputable def S100 (s : ByteArray) : Nat → ByteArray := fun n => if h : ∃ x : Int, n = codN 1 x 0 then ⟨(Lib.itoa h.choose).toArray⟩ else s
theorem S100_5 (s : ByteArray) : S100 s 5 = s := by
  have h : ¬ ∃ x : Int, 5 = codN 1 x 0 := fun ⟨x, hx⟩ => by unfold codN at hx; omega
  unfold S100
  rw [dif_neg h]
theorem S100_cod (s : ByteArray) (x : Int) : S100 s (codN 1 x 0) = ⟨(Lib.itoa x).toArray⟩ := by
  have h : ∃ y : Int, codN 1 x 0 = codN 1 y 0 := ⟨x, rfl⟩
  unfold S100
  rw [dif_pos h]
  obtain ⟨_, h2, _⟩ := codN_inj h.choose_spec
  rw [← h2]
noncomputable def ρ100 (s : ByteArray) : Env := ⟨fun _ => 0, fun _ => false, S100 s, fun _ => undef, fun _ => none, FO⟩
theorem number100a (w : World) (hT : TabW w) (hE : ErrW w) (s : ByteArray) : Calls Tryd.prog 100 #[.string s] w (fun e w' => e = .returned (.tuple #[.int .i64 (numZ s.data.toList), .bool (decide (0 ≤ numL s.data.toList))]) ∧ Framed w w') := by
  have hsz : s.data.toList.length = s.size := by simp
  refine calls_eq (calls_sums (β := ⟨w, [], G100 s⟩) (ρ := ρ100 s) noCount noExt (spL_ok fun p hp => ?_) follows rfl Tryd.func100 rfl rN100 (xs := [.string s]) ?_ (HRel.startG w _ (fun _ => rfl) ⟨S100_5 s, rfl, S100_cod s⟩) (CRel_nil.2 trivial) (fun q hq => ?_))
  · simp only [List.mem_cons, List.not_mem_nil, or_false] at hp
    rcases hp with rfl | rfl
    · exact spAtoiA_ok (fun _ _ _ _ _ h x => by rw [h.2.1]) (fun _ _ _ _ _ h x => by rw [h.2.1]) rfl hE
    · exact spItA_ok hT
  · show some [Value.string (S100 s 5)] = _
    rw [S100_5]
  have h33 : FO 33 (encS s) 0 = (atoiV s.data.toList).1 := by show (atoiV (lb (encS s))).1 = _; rw [lb_enc]
  have h34 : ∀ b, ((FO 34 (encS s) 0) == 1) = b → (atoiV s.data.toList).2 = b := fun b h => by
    rw [← h]
    show _ = ((if (atoiV (lb (encS s))).2 then (1 : Int) else 0) == 1)
    rw [lb_enc]
    cases (atoiV s.data.toList).2 <;> rfl
  simp only [sN100, List.mem_cons, List.not_mem_nil, or_false] at hq
  rcases hq with rfl | rfl | rfl | rfl
  all_goals intro ρ' hle hc u hu
  all_goals have hS : ρ'.S 5 = s := by rw [hle.s]; exact S100_5 s
  all_goals have hF : ρ'.F = FO := hle.f
  · have h1 := hc _ List.mem_cons_self
    simp only [BT.den, IT.den, ST.den, hS, intCmp, Option.some.injEq, decide_eq_true_eq] at h1
    simp only [AVal.den, AVal.denL, IT.den, BT.den, Option.map_some, Option.some.injEq] at hu
    rw [← hu]
    have hz : numZ s.data.toList = 0 := by unfold numZ; rw [if_pos (by omega)]
    have hn : numL s.data.toList = -1 := by unfold numL; rw [if_pos (.inr (.inl (by omega)))]
    rw [hz, hn]; rfl
  · have h1 := hc _ List.mem_cons_self
    have h2 := hc (.cmp .eql (.fn 34 (.scode (.var 5)) (.lit 0)) (.lit 1), true) (by simp)
    have h3 := hc (.cmp .gtr (.slen (.var 5)) (.lit 9), false) (by simp)
    simp only [BT.den, IT.den, ST.den, hS, hF, h33, intCmp, Option.some.injEq, decide_eq_true_eq, decide_eq_false_iff_not] at h1 h2 h3
    have h2 := h34 _ h2
    have hz : numZ s.data.toList = (atoiV s.data.toList).1 := by unfold numZ; rw [if_neg (by omega)]
    have hi := num_iff (l := s.data.toList) (by omega)
    have hrng := atoiV_rng s.data.toList
    have hil := itoa_len hrng.1 hrng.2
    have hd : (ST.fn 1 (.fn 33 (.sv 5) (.lit 0)) (.lit 0)).den ρ' = bytes (Lib.itoa (atoiV s.data.toList).1) := by
      show cutM (ρ'.S (codN 1 (ρ'.F 33 (encS (ρ'.S 5)) 0) 0)) = _
      rw [hS, hF, h33, hle.s]
      show cutM (S100 s _) = _
      rw [S100_cod, cutM_eq (by show (Lib.itoa _).toArray.size ≤ _; simp; omega)]; rfl
    have hb : (BT.seq (.fn 1 (.fn 33 (.sv 5) (.lit 0)) (.lit 0)) (.var 5)).den ρ' = some (decide (0 ≤ numL s.data.toList)) := by
      rw [seqD, hd, bytes_toList]
      show some (Lib.itoa (atoiV s.data.toList).1 == (ρ'.S 5).data.toList) = _
      rw [hS]
      congr 1
      rw [Bool.eq_iff_iff, beq_iff_eq, decide_eq_true_eq, ← hi]
      exact ⟨fun e => ⟨h2, h1, e⟩, fun e => e.2.2⟩
    have hv : (IT.fn 33 (.scode (.var 5)) (.lit 0)).den ρ' = some (atoiV s.data.toList).1 := by
      simp only [IT.den, ST.den, hS, hF, h33]
    simp only [AVal.den, AVal.denL, hv, hb, Option.map_some, Option.some.injEq] at hu
    rw [← hu, hz]
  · have h1 := hc _ List.mem_cons_self
    have h3 := hc (.cmp .gtr (.slen (.var 5)) (.lit 9), false) (by simp)
    simp only [BT.den, IT.den, ST.den, hS, hF, h33, intCmp, Option.some.injEq, decide_eq_false_iff_not] at h1 h3
    have hz : numZ s.data.toList = (atoiV s.data.toList).1 := by unfold numZ; rw [if_neg (by omega)]
    have hi := num_iff (l := s.data.toList) (by omega)
    have hn : ¬ 0 ≤ numL s.data.toList := fun h => h1 (hi.2 h).2.1
    simp only [AVal.den, AVal.denL, IT.den, BT.den, ST.den, hS, hF, h33, Option.map_some, Option.some.injEq] at hu
    rw [← hu, hz, decide_eq_false hn]
  · have h2 := hc _ List.mem_cons_self
    have h3 := hc (.cmp .gtr (.slen (.var 5)) (.lit 9), false) (by simp)
    simp only [BT.den, IT.den, ST.den, hS, hF, intCmp, Option.some.injEq, decide_eq_false_iff_not] at h2 h3
    have h2 := h34 _ h2
    have hz : numZ s.data.toList = (atoiV s.data.toList).1 := by unfold numZ; rw [if_neg (by omega)]
    have hi := num_iff (l := s.data.toList) (by omega)
    have hn : ¬ 0 ≤ numL s.data.toList := fun h => by have := (hi.2 h).1; rw [h2] at this; cases this
    simp only [AVal.den, AVal.denL, IT.den, BT.den, ST.den, hS, hF, h33, Option.map_some, Option.some.injEq] at hu
    rw [← hu, hz, decide_eq_false hn]
def nB (s : ST) : BT := .cmp .geq (nT s) (.lit 0)
def spNumA : SpG := fun args H nl cs => match args with
  | [.str s] => some [.ret (.tuple [.int .i64 (nT s), .bool (.lit true)]) H nl ((nB s, true) :: cs), .ret (.tuple [.int .i64 (.fn 32 (.scode s) (.lit 0)), .bool (.lit false)]) H nl ((nB s, false) :: cs)]
  | _ => none
theorem spNumA_ok {β : Base} (hG : GF 31 β) (hG2 : GF 32 β) (hown : β.own = []) (hT : TabW β.w0) (hE : ErrW β.w0) : SpGOk Tryd.prog β 100 spNumA := by
  intro args H nl cs ls ρ w xs hr hx hh hc
  unfold spNumA at hr
  split at hr
  rotate_left
  · cases hr
  rename_i s
  cases hr
  simp only [AVal.denL, AVal.den, Option.some.injEq] at hx
  subst hx
  have hd := nT_den hG hh s
  have h32 : (IT.fn 32 (.scode s) (.lit 0)).den ρ = some (numZ (s.den ρ).data.toList) := by
    simp only [IT.den, hG2 _ _ _ _ _ hh.g]
    show some (numZ (lb (encS (s.den ρ)))) = _
    rw [lb_enc]
  refine (number100a w (TabW.of hT hown hh) (hE.of hown hh) (s.den ρ)).mono fun e w' ⟨he, hf⟩ => ⟨_, he, ?_⟩
  by_cases hn : 0 ≤ numL (s.den ρ).data.toList
  · refine ⟨_, _, _, _, ρ, List.mem_cons_self, Env.Le.refl ρ, ?_, hh.framed hf, CRel_cons.2 ⟨?_, hc⟩⟩
    · simp only [AVal.den, AVal.denL, hd, BT.den, Option.map_some, decide_eq_true hn, numZ_ok hn]
    · simp only [nB, BT.den, hd, IT.den, intCmp]
      exact congrArg some (decide_eq_true hn)
  · refine ⟨_, _, _, _, ρ, List.mem_cons_of_mem _ List.mem_cons_self, Env.Le.refl ρ, ?_, hh.framed hf, CRel_cons.2 ⟨?_, hc⟩⟩
    · simp only [AVal.den, AVal.denL, h32, BT.den, Option.map_some, decide_eq_false hn]
    · simp only [nB, BT.den, hd, IT.den, intCmp]
      exact congrArg some (decide_eq_false hn)
end Txt
end Go.Proofs.YtagdcclpibjfoaaDoor
