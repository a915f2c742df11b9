/-
  Reading scripts (8): the reference's Lines of any text of at most 10,000 bytes.
-/
import Derived.Test.YtagdcclpibjfoaaDoorRdv
import Derived.Test.YtagdcclpibjfoaaDoorLf1
section
namespace Go.Proofs.YtagdcclpibjfoaaDoor
open Go.Vm Txt
namespace Rd

-- PIECES
def pc (l : List UInt8) (a i : Nat) : List UInt8 := (l.drop a).take (i - a)
theorem pc_nil (l : List UInt8) (a : Nat) : pc l a a = [] := by simp [pc]
theorem pc_succ {l : List UInt8} {a i : Nat} {b : UInt8} (h : a ≤ i) (hb : l[i]? = some b) : pc l a (i + 1) = pc l a i ++ [b] := by
  unfold pc
  rw [show i + 1 - a = (i - a) + 1 by omega, List.take_add_one, List.getElem?_drop, show a + (i - a) = i by omega, hb]
  rfl
theorem pc_split {l : List UInt8} {a i : Nat} {b : UInt8} (h : a ≤ i) (hb : l[i]? = some b) : l.drop a = pc l a i ++ b :: l.drop (i + 1) := by
  have hi : i < l.length := (List.getElem?_eq_some_iff.1 hb).1
  have e := (List.take_append_drop (i - a) (l.drop a)).symm
  rw [List.drop_drop, show a + (i - a) = i by omega, List.drop_eq_getElem_cons hi] at e
  have hg : l[i] = b := (List.getElem?_eq_some_iff.1 hb).2
  rw [hg] at e
  exact e
theorem pc_all (l : List UInt8) (a : Nat) {n : Nat} (h : l.length ≤ n) : pc l a n = l.drop a := by
  unfold pc
  exact List.take_of_length_le (by rw [List.length_drop]; omega)
theorem pc_bytes (l : List UInt8) (a i : Nat) : (Txt.bytes l).extract a i = Txt.bytes (pc l a i) := by
  rw [Lib.extract_eq, bytes_toList]; rfl
theorem lns_all {w : List UInt8} (h : (10 : UInt8) ∉ w) (hn : w ≠ []) : lns w = [w] := by
  obtain ⟨h1, h2⟩ := line_all h
  rw [lns_ne hn, h1, h2, lns_nil]
theorem lns_len : ∀ (n : Nat) (l : List UInt8), l.length ≤ n → (lns l).length ≤ l.length
  | _, [], _ => by simp [lns_nil]
  | n + 1, b :: l, h => by
    have hr := rest_lt (l := b :: l) (by simp)
    rw [lns_ne (l := b :: l) (by simp)]
    have := lns_len n (rest (b :: l)) (by simp only [List.length_cons] at *; omega)
    simp only [List.length_cons] at *; omega
-- THE WALK
def wat : AVal := .slice 2 (.lit 0) (.var 3) (.nv 1)
def HW : Nat × HB := (2, ⟨.srow (.var 2) 9 (.var 3) (some (.nv 1)), true⟩)
def csV : Cs := [(.cmp .leq (.slen (.var 5)) (.lit 10000), true), (.cmp .geq (.var 0) (.lit 0), true), (.cmp .leq (.var 0) (.slen (.var 5)), true), (.cmp .geq (.var 1) (.lit 0), true), (.cmp .leq (.var 1) (.var 0), true)]
def csW : Cs := csV ++ [(.cmp .geq (.var 3) (.lit 1), true), (.cmp .leq (.var 3) (.lit 10000), true)]
def V0 : Tpl := ⟨[(0, .str (.var 5)), (3, .sliceNil), (4, iV 1), (5, iV 0)], 36, [], 1, csV, 3⟩
def V1 : Tpl := ⟨[(0, .str (.var 5)), (3, wat), (4, iV 1), (5, iV 0)], 36, [HW], 3, csW, 3⟩
def EV0 : Tpl := ⟨[(0, .sliceNil)], 1, [], 1, [], 0⟩
def EV1 : Tpl := ⟨[(0, wat)], 1, [HW], 3, [], 0⟩
def fi (b : Bool) : Cs := [(.cmp .lss (.var 0) (.slen (.var 5)), b)]
def fc (b : Bool) : Cs := [(.cmp .eql (.un 0 (.scode (.var 5)) (.var 0)) (.lit 10), b)]
def fe (b : Bool) : Cs := [(.cmp .lss (.var 1) (.slen (.var 5)), b)]
def b62 : BT × Bool := (.cmp .leq (.slen (.var 5)) (.lit 4611686018427387904), true)
def bEnd : Cs := [(.cmp .leq (.var 1) (.slen (.var 5)), true), (.cmp .leq (.slen (.var 5)) (.slen (.var 5)), true), b62]
def m6 : BT × Bool := (.cmp .leq (.var 3) (.lit 1000000), true)
noncomputable def vb0 : Code := ((loopsOf (Tryd.f112.body.getD .ret) []).getD 0 (.ret, [])).1
noncomputable def vk0 : List Item := ((loopsOf (Tryd.f112.body.getD .ret) []).getD 0 (.ret, [])).2
noncomputable def RunV (T : Tpl) (c : Cs) (l : LM) : Prop := (run Tryd.prog [(127, .same)] (spL []) 4000 true 112 ((⟨T.tm, T.nt, T.H, T.nl, c ++ T.cs, T.dep⟩ : Tpl).st (.code vb0 :: .inLoop vb0 :: vk0))).map (·.filterMap (sumMO gR [] [EV0, EV1] [V1, V0])) = some [l]
def upI : IT := .bin .add .i64 (.var 0) (.lit 1)
def upW : IT := .bin .add .i64 (.var 3) (.lit 1)
def pcT : IT := .scode (.sub (.var 5) (.var 1) (.var 0))
def peT : IT := .scode (.sub (.var 5) (.var 1) (.lit 4611686018427387904))
theorem vE : (run Tryd.prog [(127, .same)] (spL []) 4000 true 112 (entry Tryd.f112 (Tryd.f112.body.getD .ret) [.str (.var 5)] .leaf 0 [(.cmp .leq (.slen (.var 5)) (.lit 10000), true)])).map (·.filterMap (sumMO gR [] [EV0, EV1] [V1, V0])) = some [.next 1 (.code (.loop vb0) :: vk0) [(.cmp .leq (.slen (.var 5)) (.lit 10000), true)] ⟨[(1, .lit 0), (0, .lit 0)], [], [], [], []⟩] := by kernel_rfl
def k0 : Sub := ⟨[(1, .var 1), (0, upI)], [], [], [], []⟩
def k1 : Sub := ⟨[(3, .var 3), (1, .var 1), (0, upI), (2, .var 2)], [], [], [], [(2, 2), (1, 1)]⟩
def n0 : Sub := ⟨[(3, .lit 1), (1, upI), (0, upI), (2, .un 3 (.lit 0) pcT)], [], [], [], [(2, 3), (1, 2)]⟩
def n1 : Sub := ⟨[(3, upW), (1, upI), (0, upI), (2, .un 3 (.var 2) pcT)], [], [], [], [(2, 5), (1, 4)]⟩
def d0 : Sub := ⟨[(3, .lit 1), (2, .un 3 (.lit 0) peT)], [], [], [], [(2, 3), (1, 2)]⟩
def d1 : Sub := ⟨[(3, upW), (2, .un 3 (.var 2) peT)], [], [], [], [(2, 5), (1, 4)]⟩
def dz : Sub := ⟨[(3, .var 3), (2, .var 2)], [], [], [], [(2, 2), (1, 1)]⟩
theorem v0x : RunV V0 (fi true ++ fc false) (.next 1 (.inLoop vb0 :: vk0) ((fi true ++ fc false) ++ csV) k0) := by unfold RunV; kernel_rfl
theorem v1x : RunV V1 (fi true ++ fc false) (.next 0 (.inLoop vb0 :: vk0) ((fi true ++ fc false) ++ csW) k1) := by unfold RunV; kernel_rfl
theorem v0n : RunV V0 (fi true ++ fc true) (.next 0 (.inLoop vb0 :: vk0) (b62 :: ((fi true ++ fc true) ++ csV)) n0) := by unfold RunV; kernel_rfl
theorem v1n : RunV V1 (fi true ++ fc true) (.next 0 (.inLoop vb0 :: vk0) (m6 :: b62 :: ((fi true ++ fc true) ++ csW)) n1) := by unfold RunV; kernel_rfl
theorem v0e : RunV V0 (fi false ++ fe true) (.done 1 (bEnd ++ ((fi false ++ fe true) ++ csV)) d0) := by unfold RunV; kernel_rfl
theorem v1e : RunV V1 (fi false ++ fe true) (.done 1 (m6 :: (bEnd ++ ((fi false ++ fe true) ++ csW))) d1) := by unfold RunV; kernel_rfl
theorem v0z : RunV V0 (fi false ++ fe false) (.done 0 ((fi false ++ fe false) ++ csV) ⟨[], [], [], [], []⟩) := by unfold RunV; kernel_rfl
theorem v1z : RunV V1 (fi false ++ fe false) (.done 1 ((fi false ++ fe false) ++ csW) dz) := by unfold RunV; kernel_rfl
theorem noSp0 (β : Base) : CallOk Tryd.prog β (spL []) := spL_ok fun _ hp => by cases hp
-- THE LOOP
def GV (l : List UInt8) : GP := fun _ _ S _ _ => S 5 = Txt.bytes l
def βV (w : World) (l : List UInt8) : Base := ⟨w, [], GV l⟩
def LnOr (w w' : World) (x : Value) (ls : List (List UInt8)) : Prop := (ls = [] ∧ x = .slice none 0 0 ∧ Framed w w') ∨ (ls ≠ [] ∧ TextsOut w w' x 9 (ls.map Txt.bytes))
structure Jv (l : List UInt8) (a i : Nat) (ρ : Env) : Prop where
  s : ρ.S 5 = Txt.bytes l
  i0 : ρ.I 0 = (i : Int)
  a0 : ρ.I 1 = (a : Int)
  ai : a ≤ i
  il : i ≤ l.length
  no : (10 : UInt8) ∉ pc l a i
structure Jw (ws : List (List UInt8)) (ρ : Env) : Prop where
  c : ρ.I 2 = encW ws
  n : ρ.I 3 = (ws.length : Int)
  ne : ws ≠ []
theorem Jv.of_le {l : List UInt8} {a i : Nat} {ρ ρ' : Env} (h : Jv l a i ρ) (g : ρ.Le ρ') : Jv l a i ρ' := ⟨by rw [g.s]; exact h.s, by rw [g.i]; exact h.i0, by rw [g.i]; exact h.a0, h.ai, h.il, h.no⟩
theorem Jw.of_le {ws : List (List UInt8)} {ρ ρ' : Env} (h : Jw ws ρ) (g : ρ.Le ρ') : Jw ws ρ' := ⟨by rw [g.i]; exact h.c, by rw [g.i]; exact h.n, h.ne⟩
section
variable {l : List UInt8} {a i : Nat} {ws : List (List UInt8)} {ρ : Env} (hl : l.length ≤ 10000) (h : Jv l a i ρ)
include h
theorem s5d : (ST.var 5).den ρ = Txt.bytes l := h.s
theorem i0d : (IT.var 0).den ρ = some (i : Int) := congrArg some h.i0
theorem a0d : (IT.var 1).den ρ = some (a : Int) := congrArg some h.a0
theorem fi_ok {b : Bool} (hb : decide (i < l.length) = b) : CRel ρ (fi b) := by
  refine CRel_cons.2 ⟨?_, CRel_nil.2 trivial⟩
  simp only [BT.den, IT.den, h.i0, s5d h, bytes_size, intCmp, Option.some.injEq]
  rw [← hb, decide_eq_decide]; omega
theorem fe_ok {b : Bool} (hb : decide (a < l.length) = b) : CRel ρ (fe b) := by
  refine CRel_cons.2 ⟨?_, CRel_nil.2 trivial⟩
  simp only [BT.den, IT.den, h.a0, s5d h, bytes_size, intCmp, Option.some.injEq]
  rw [← hb, decide_eq_decide]; omega
theorem fc_ok {c : UInt8} (hc : l[i]? = some c) {b : Bool} (hb : (c == 10) = b) : CRel ρ (fc b) := by
  refine CRel_cons.2 ⟨?_, CRel_nil.2 trivial⟩
  have e : (IT.un 0 (.scode (.var 5)) (.var 0)).den ρ = some ((c.toNat : Nat) : Int) := by
    show some (univ 0 (encS (ρ.S 5)) (ρ.I 0)) = _
    rw [h.s, h.i0, un0_byte, bytes_toList, List.getD_eq_getElem?_getD, hc]; rfl
  simp only [BT.den, e, litI, intCmp, Option.some.injEq]
  rw [← hb, Bool.eq_iff_iff, beq_iff_eq, beq_iff_eq]
  constructor
  · intro hc
    apply UInt8.toNat_inj.1
    show c.toNat = 10
    omega
  · intro hc
    rw [hc]; rfl
include hl in
theorem csV_ok : CRel ρ csV := by
  have h1 := h.ai
  have h2 := h.il
  refine CRel_cons.2 ⟨?_, CRel_cons.2 ⟨?_, CRel_cons.2 ⟨?_, CRel_cons.2 ⟨?_, CRel_cons.2 ⟨?_, CRel_nil.2 trivial⟩⟩⟩⟩⟩
  · simp only [BT.den, IT.den, s5d h, bytes_size, intCmp, Option.some.injEq, decide_eq_true_eq]; omega
  · simp only [BT.den, i0d h, litI, intCmp, Option.some.injEq, decide_eq_true_eq]; omega
  · simp only [BT.den, IT.den, h.i0, s5d h, bytes_size, intCmp, Option.some.injEq, decide_eq_true_eq]; omega
  · simp only [BT.den, a0d h, litI, intCmp, Option.some.injEq, decide_eq_true_eq]; omega
  · simp only [BT.den, a0d h, i0d h, intCmp, Option.some.injEq, decide_eq_true_eq]; omega
include hl in
theorem csW_ok (g : Jw ws ρ) (hw : ws.length ≤ 10000) : CRel ρ csW := by
  have h3 := List.length_pos_iff.2 g.ne
  have e : (IT.var 3).den ρ = some (ws.length : Int) := congrArg some g.n
  refine CRel_app.2 ⟨csV_ok hl h, CRel_cons.2 ⟨?_, CRel_cons.2 ⟨?_, CRel_nil.2 trivial⟩⟩⟩
  · simp only [BT.den, e, litI, intCmp, Option.some.injEq, decide_eq_true_eq]; omega
  · simp only [BT.den, e, litI, intCmp, Option.some.injEq, decide_eq_true_eq]; omega
include hl in
theorem upI_den (hi : i < l.length) : upI.den ρ = some ((i + 1 : Nat) : Int) := by
  have e : upI.den ρ = some (IntKind.i64.wrap ((i : Int) + 1)) := by simp only [upI, IT.den, intBin, h.i0]
  rw [e, wrapI (by omega) (by omega)]; simp
theorem pcT_den : pcT.den ρ = some (encS (Txt.bytes (pc l a i))) := by
  show some (encS ((ρ.S 5).extract (ρ.I 1).toNat (ρ.I 0).toNat)) = _
  rw [h.s, h.a0, h.i0, Int.toNat_natCast, Int.toNat_natCast, pc_bytes]
include hl in
theorem peT_den : peT.den ρ = some (encS (Txt.bytes (l.drop a))) := by
  show some (encS ((ρ.S 5).extract (ρ.I 1).toNat (4611686018427387904 : Int).toNat)) = _
  rw [h.s, h.a0, Int.toNat_natCast, pc_bytes, pc_all l a (by show l.length ≤ 4611686018427387904; omega)]
end
theorem upW_den {ws : List (List UInt8)} {ρ : Env} (g : Jw ws ρ) (hw : ws.length ≤ 10000) (x : List UInt8) : upW.den ρ = some ((ws ++ [x]).length : Int) := by
  have e : upW.den ρ = some (IntKind.i64.wrap ((ws.length : Int) + 1)) := by simp only [upW, IT.den, intBin, g.n]
  rw [e, wrapI (by omega) (by omega)]; simp
theorem appW_den {ws : List (List UInt8)} {ρ : Env} {c t : IT} {x : List UInt8} (hc : c.den ρ = some (encW ws)) (ht : t.den ρ = some (encS (Txt.bytes x))) : (IT.un 3 c t).den ρ = some (encW (ws ++ [x])) := by
  rw [unD hc ht, un3_enc]
theorem endV1 {w0 : World} {l : List UInt8} {ρ : Env} {cs : Cs} {σ : Sub} (ws : List (List UInt8)) (hs : ∀ ρ', ρ.Le ρ' → GP.at (GV l) (σ.app ρ') ∧ Jw ws (σ.app ρ')) (hz : lns l = ws) : MGoodO Tryd.prog (βV w0 l) 112 (fun x w' => LnOr w0 w' x (lns l)) [EV0, EV1] [V1, V0] ρ (.done 1 cs σ) := by
  refine doneR rfl rfl fun ρ' hle hG => ?_
  obtain ⟨hg, g⟩ := hs ρ' hle
  refine ⟨hg, CRel_nil.2 trivial, fun x w' r => .inr ⟨by rw [hz]; exact g.ne, ?_⟩⟩
  obtain ⟨y, hy, he⟩ := r.t 0 wat rfl
  obtain rfl : x = y := Option.some.inj he
  rw [hz]
  exact texts_out (l := 2) (j := 1) (nT := .var 3) (c := .var 2) rfl r.h rfl hy (congrArg some g.c) (by rw [strs_enc, List.map_map]; rfl)
theorem endV0 {w0 : World} {l : List UInt8} {ρ : Env} {cs : Cs} (hz : lns l = []) : MGoodO Tryd.prog (βV w0 l) 112 (fun x w' => LnOr w0 w' x (lns l)) [EV0, EV1] [V1, V0] ρ (.done 0 cs ⟨[], [], [], [], []⟩) := by
  refine doneR rfl rfl fun ρ' hle hG => ⟨hG, CRel_nil.2 trivial, fun x w' r => .inl ⟨hz, ?_, framed_base rfl r.h⟩⟩
  obtain ⟨y, hy, he⟩ := r.t 0 .sliceNil rfl
  obtain rfl : x = y := Option.some.inj he
  exact (Option.some.inj hy).symm
section
variable {w0 : World} {l : List UInt8} (hl : l.length ≤ 10000)
include hl
theorem loopV1 : ∀ ρ, (∃ a i ws, Jv l a i ρ ∧ Jw ws ρ ∧ ws ++ lns (l.drop a) = lns l) → ∀ todo a w, todo = .inLoop vb0 :: vk0 ∨ todo = .code (.loop vb0) :: vk0 → SRel (βV w0 l) ρ (V1.st todo) a w → Goes Tryd.prog 112 (fun x w' => LnOr w0 w' x (lns l)) todo a w := by
  refine loop_goesW (n := 4000) (g := gR) (L := []) (pl := true) (Rs := [EV0, EV1]) (Ts := [V1, V0]) (β := βV w0 l) noCount ext1_ok (noSp0 _) follows (fun ρ => ∃ a i ws, Jv l a i ρ ∧ Jw ws ρ ∧ ws ++ lns (l.drop a) = lns l) (fun ρ => ((l.length : Int) - ρ.I 0).toNat) (fun ρ hJ hcs hG ih => ?_)
  obtain ⟨a, i, ws, h, g, he⟩ := hJ
  have hll := lns_len _ l (Nat.le_refl _)
  have hwl : ws.length + (lns (l.drop a)).length = (lns l).length := by rw [← he, List.length_append]
  have hai := h.ai
  have hil := h.il
  have dec : ∀ {σ : Sub} {ρ' : Env} {j : Nat}, Jv l j (i + 1) (σ.app ρ') → i < l.length → ((l.length : Int) - (σ.app ρ').I 0).toNat < ((l.length : Int) - ρ.I 0).toNat := fun {σ ρ' j} jv hi => by
    rw [jv.i0, h.i0]; omega
  by_cases hi : i < l.length
  · obtain ⟨c, hc⟩ : ∃ c, l[i]? = some c := ⟨l[i], List.getElem?_eq_getElem hi⟩
    have fi' := fi_ok h (b := true) (decide_eq_true hi)
    by_cases h10 : c = 10
    · subst h10
      have hsp := pc_split hai hc
      have hln : lns (l.drop a) = pc l a i :: lns (l.drop (i + 1)) := by rw [hsp, lns_word _ h.no]
      have hwl' : ws.length + 1 ≤ 10000 := by rw [hln] at hwl; simp only [List.length_cons] at hwl; omega
      refine ⟨_, _, CRel_app.2 ⟨CRel_app.2 ⟨fi', fc_ok h hc (b := true) rfl⟩, hcs⟩, v1n, one (nextR rfl rfl fun ρ' hle hG' => ?_)⟩
      have h' := h.of_le hle
      have g' := g.of_le hle
      have jv : Jv l (i + 1) (i + 1) (n1.app ρ') := by
        refine ⟨h'.s, ?_, ?_, Nat.le_refl _, by omega, by rw [pc_nil]; simp⟩
        · show (upI.den ρ').getD 0 = _
          rw [upI_den hl h' hi]; rfl
        · show (upI.den ρ').getD 0 = _
          rw [upI_den hl h' hi]; rfl
      have jw : Jw (ws ++ [pc l a i]) (n1.app ρ') := by
        refine ⟨?_, ?_, by simp⟩
        · show ((IT.un 3 (.var 2) pcT).den ρ').getD 0 = _
          rw [appW_den (ws := ws) (c := .var 2) (congrArg some g'.c) (pcT_den h')]; rfl
        · show (upW.den ρ').getD 0 = _
          rw [upW_den g' (by omega) (pc l a i)]; rfl
      refine ⟨jv.s, csW_ok hl jv jw (by simp; omega), fun b w r => ih _ (dec jv hi) ⟨i + 1, i + 1, _, jv, jw, ?_⟩ _ b w (.inl rfl) r⟩
      rw [List.append_assoc, List.singleton_append, ← hln, he]
    · refine ⟨_, _, CRel_app.2 ⟨CRel_app.2 ⟨fi', fc_ok h hc (b := false) (by rw [beq_eq_false_iff_ne]; exact h10)⟩, hcs⟩, v1x, one (nextR rfl rfl fun ρ' hle hG' => ?_)⟩
      have h' := h.of_le hle
      have g' := g.of_le hle
      have jv : Jv l a (i + 1) (k1.app ρ') := by
        refine ⟨h'.s, ?_, h'.a0, by omega, by omega, ?_⟩
        · show (upI.den ρ').getD 0 = _
          rw [upI_den hl h' hi]; rfl
        · rw [pc_succ hai hc]
          intro hm
          rcases List.mem_append.1 hm with h1 | h1
          · exact h.no h1
          · exact h10 (List.mem_singleton.1 h1).symm
      have jw : Jw ws (k1.app ρ') := ⟨g'.c, g'.n, g.ne⟩
      exact ⟨jv.s, csW_ok hl jv jw (by omega), fun b w r => ih _ (dec jv hi) ⟨a, i + 1, _, jv, jw, he⟩ _ b w (.inl rfl) r⟩
  · obtain rfl : i = l.length := by omega
    have fi' := fi_ok h (b := false) (decide_eq_false hi)
    have hno := h.no
    rw [pc_all l a (Nat.le_refl _)] at hno
    by_cases ha : a < l.length
    · have hln : lns (l.drop a) = [l.drop a] := lns_all hno (by intro e; have := congrArg List.length e; simp at this; omega)
      have hwl' : ws.length + 1 ≤ 10000 := by rw [hln] at hwl; simp only [List.length_cons, List.length_nil] at hwl; omega
      refine ⟨_, _, CRel_app.2 ⟨CRel_app.2 ⟨fi', fe_ok h (b := true) (decide_eq_true ha)⟩, hcs⟩, v1e, one (endV1 (ws ++ [l.drop a]) (fun ρ' hle => ?_) (by rw [← he, hln]))⟩
      have h' := h.of_le hle
      have g' := g.of_le hle
      refine ⟨h'.s, ?_, ?_, by simp⟩
      · show ((IT.un 3 (.var 2) peT).den ρ').getD 0 = _
        rw [appW_den (ws := ws) (c := .var 2) (congrArg some g'.c) (peT_den hl h')]; rfl
      · show (upW.den ρ').getD 0 = _
        rw [upW_den g' (by omega) (l.drop a)]; rfl
    · have hln : lns (l.drop a) = [] := by rw [List.drop_eq_nil_of_le (by omega)]; rfl
      exact ⟨_, _, CRel_app.2 ⟨CRel_app.2 ⟨fi', fe_ok h (b := false) (decide_eq_false ha)⟩, hcs⟩, v1z, one (endV1 ws (fun ρ' hle => ⟨(h.of_le hle).s, (g.of_le hle).c, (g.of_le hle).n, g.ne⟩) (by rw [← he, hln, List.append_nil]))⟩
theorem loopV0 : ∀ ρ, (∃ i, Jv l 0 i ρ) → ∀ todo a w, todo = .inLoop vb0 :: vk0 ∨ todo = .code (.loop vb0) :: vk0 → SRel (βV w0 l) ρ (V0.st todo) a w → Goes Tryd.prog 112 (fun x w' => LnOr w0 w' x (lns l)) todo a w := by
  refine loop_goesW (n := 4000) (g := gR) (L := []) (pl := true) (Rs := [EV0, EV1]) (Ts := [V1, V0]) (β := βV w0 l) noCount ext1_ok (noSp0 _) follows (fun ρ => ∃ i, Jv l 0 i ρ) (fun ρ => ((l.length : Int) - ρ.I 0).toNat) (fun ρ hJ hcs hG ih => ?_)
  obtain ⟨i, h⟩ := hJ
  have hai := h.ai
  have hil := h.il
  by_cases hi : i < l.length
  · obtain ⟨c, hc⟩ : ∃ c, l[i]? = some c := ⟨l[i], List.getElem?_eq_getElem hi⟩
    have fi' := fi_ok h (b := true) (decide_eq_true hi)
    by_cases h10 : c = 10
    · subst h10
      have hsp := pc_split hai hc
      have hln : lns l = pc l 0 i :: lns (l.drop (i + 1)) := by
        have := lns_word (l.drop (i + 1)) h.no
        rwa [← hsp] at this
      refine ⟨_, _, CRel_app.2 ⟨CRel_app.2 ⟨fi', fc_ok h hc (b := true) rfl⟩, hcs⟩, v0n, one (nextR rfl rfl fun ρ' hle hG' => ?_)⟩
      have h' := h.of_le hle
      have jv : Jv l (i + 1) (i + 1) (n0.app ρ') := by
        refine ⟨h'.s, ?_, ?_, Nat.le_refl _, by omega, by rw [pc_nil]; simp⟩
        · show (upI.den ρ').getD 0 = _
          rw [upI_den hl h' hi]; rfl
        · show (upI.den ρ').getD 0 = _
          rw [upI_den hl h' hi]; rfl
      have jw : Jw [pc l 0 i] (n0.app ρ') := by
        refine ⟨?_, rfl, by simp⟩
        show ((IT.un 3 (.lit 0) pcT).den ρ').getD 0 = _
        rw [appW_den (ws := []) rfl (pcT_den h')]; rfl
      exact ⟨jv.s, csW_ok hl jv jw (by simp), fun b w r => loopV1 hl _ ⟨i + 1, i + 1, _, jv, jw, by rw [hln]; rfl⟩ _ b w (.inl rfl) r⟩
    · refine ⟨_, _, CRel_app.2 ⟨CRel_app.2 ⟨fi', fc_ok h hc (b := false) (by rw [beq_eq_false_iff_ne]; exact h10)⟩, hcs⟩, v0x, one (nextR rfl rfl fun ρ' hle hG' => ?_)⟩
      have h' := h.of_le hle
      have jv : Jv l 0 (i + 1) (k0.app ρ') := by
        refine ⟨h'.s, ?_, h'.a0, by omega, by omega, ?_⟩
        · show (upI.den ρ').getD 0 = _
          rw [upI_den hl h' hi]; rfl
        · rw [pc_succ hai hc]
          intro hm
          rcases List.mem_append.1 hm with h1 | h1
          · exact h.no h1
          · exact h10 (List.mem_singleton.1 h1).symm
      refine ⟨jv.s, csV_ok hl jv, fun b w r => ih _ ?_ ⟨i + 1, jv⟩ _ b w (.inl rfl) r⟩
      show ((l.length : Int) - (k0.app ρ').I 0).toNat < ((l.length : Int) - ρ.I 0).toNat
      rw [jv.i0, h.i0]; omega
  · obtain rfl : i = l.length := by omega
    have fi' := fi_ok h (b := false) (decide_eq_false hi)
    have hno := h.no
    rw [pc_all l 0 (Nat.le_refl _), List.drop_zero] at hno
    by_cases ha : 0 < l.length
    · have hln : lns l = [l] := lns_all hno (by intro e; rw [e] at ha; simp at ha)
      refine ⟨_, _, CRel_app.2 ⟨CRel_app.2 ⟨fi', fe_ok h (b := true) (decide_eq_true ha)⟩, hcs⟩, v0e, one (endV1 [l] (fun ρ' hle => ?_) hln)⟩
      have h' := h.of_le hle
      refine ⟨h'.s, ?_, rfl, by simp⟩
      show ((IT.un 3 (.lit 0) peT).den ρ').getD 0 = _
      rw [appW_den (ws := []) rfl (peT_den hl h')]; rfl
    · have hln : l = [] := List.length_eq_zero_iff.1 (by omega)
      exact ⟨_, _, CRel_app.2 ⟨CRel_app.2 ⟨fi', fe_ok h (b := false) (decide_eq_false ha)⟩, hcs⟩, v0z, one (endV0 (by rw [hln]; rfl))⟩
end
/-- THE REFERENCE's LINES OF ANY TEXT. -/
theorem lines112 (w : World) (s : ByteArray) (hs : s.size ≤ 10000) : Calls Tryd.prog 112 #[.string s] w (fun e w' => ∃ x, e = .returned x ∧ LnOr w w' x (lns s.data.toList)) := by
  obtain ⟨ρ, hρ⟩ : ∃ ρ : Env, ρ = ⟨fun _ => 0, fun _ => false, fun _ => s, fun _ => undef, fun _ => none, F0⟩ := ⟨_, rfl⟩
  have hN : ∀ i, ρ.N i = none := fun i => by rw [hρ]
  have hS : ρ.S 5 = Txt.bytes s.data.toList := by rw [hρ]; exact (bytes_list s).symm
  have hl : s.data.toList.length ≤ 10000 := by simpa using hs
  have hx : AVal.denL ρ [.str (.var 5)] = some [.string s] := by rw [hρ]; rfl
  refine calls_sumsO (β := βV w s.data.toList) (R := fun x w' => LnOr w w' x (lns s.data.toList)) noCount ext1_ok (noSp0 _) follows Tryd.func112 rfl vE hx (HRel.startG w _ hN hS) (CRel_cons.2 ⟨?_, CRel_nil.2 trivial⟩) (one (nextR (T := V0) rfl rfl fun ρ' hle hG' => ?_))
  · have e0 : (ST.var 5).den ρ = Txt.bytes s.data.toList := hS
    simp only [BT.den, IT.den, e0, bytes_size, intCmp, Option.some.injEq, decide_eq_true_eq]; omega
  · have jv : Jv s.data.toList 0 0 (Sub.app ⟨[(1, .lit 0), (0, .lit 0)], [], [], [], []⟩ ρ') := ⟨hG', rfl, rfl, Nat.le_refl _, Nat.zero_le _, by rw [pc_nil]; simp⟩
    exact ⟨hG', csV_ok hl jv, fun a w' r => loopV0 hl _ ⟨0, jv⟩ _ a w' (.inr rfl) r⟩
end Rd
end Go.Proofs.YtagdcclpibjfoaaDoor
end

/-
  Reading scripts (9): the reference's Read of any text of at most 10,000 bytes.
-/
section
namespace Go.Proofs.YtagdcclpibjfoaaDoor
open Go.Vm Txt
namespace Rd

theorem spPr64_ok {β : Base} {v : Value} (hG : ∀ I B S V F, β.G I B S V F → F = FR v) (hown : β.own = []) (hT : TabW β.w0) (hM : MaxW β.w0) (hE : ErrW β.w0) : SpGOk Tryd.prog β 64 spPrN := by
  intro args H nl cs ls ρ w xs hr hx hh hc
  unfold spPrN at hr
  split at hr
  rotate_left
  · cases hr
  rename_i s
  cases hb : sureL cs s 10000 with
  | false => rw [hb] at hr; cases hr
  | true =>
    rw [hb] at hr; cases hr
    have hle := sureL_ok hb hc
    have hF : ρ.F = FR v := hG _ _ _ _ _ hh.g
    simp only [AVal.denL, AVal.den, Option.some.injEq] at hx
    subst hx
    refine spV_ok (parse64a w (TabW.of hT hown hh) (by obtain ⟨m, hm⟩ := hM; exact ⟨m, cell_of' hm hown hh⟩) (ErrW.of hE hown hh) (s.den ρ) (by omega)) ?_ hh hc
    rw [readV_eq]
    have e1 := evT_den hF s
    have e2 : (AVal.bool (okT s)).den ρ = some (.bool (readE (s.den ρ).data.toList).2) := by
      simp only [AVal.den, okT_den hF, Option.map_some]
    exact tup2 e1 e2
def spLns (z : Bool) : SpG := fun args H nl cs => match args with
  | [.str (.var 5)] => cond z (some [.ret .sliceNil H nl cs]) (some [.ret (.slice (nl + 1) (.lit 0) (.var 7) (.nv nl)) (H.set (nl + 1) ⟨.srow (.var 6) 9 (.var 7) (some (.nv nl)), true⟩) (nl + 2) cs])
  | _ => none
def GQ (l : List UInt8) : GP := fun I _ S _ F => F = FR undef ∧ S 5 = Txt.bytes l ∧ I 6 = encW (lns l) ∧ I 7 = ((lns l).length : Int)
def βQ (w : World) (l : List UInt8) : Base := ⟨w, [], GQ l⟩
theorem spLns_ok {w0 : World} {l : List UInt8} (hl : l.length ≤ 10000) {z : Bool} (hz : (lns l == []) = z) : SpGOk Tryd.prog (βQ w0 l) 112 (spLns z) := by
  intro args H nl cs ls ρ w xs hr hx hh hc
  obtain ⟨_, g1, g2, g3⟩ : GQ l ρ.I ρ.B ρ.S ρ.V ρ.F := hh.g
  unfold spLns at hr
  split at hr
  rotate_left
  · cases hr
  have hx' : xs = [.string (Txt.bytes l)] := by
    simp only [AVal.denL, AVal.den, ST.den, g1, Option.some.injEq] at hx
    exact hx.symm
  subst hx'
  refine (lines112 w (Txt.bytes l) (by rw [bytes_size]; exact hl)).mono fun e w' ⟨x, he, ho⟩ => ⟨x, he, ?_⟩
  rw [bytes_toList] at ho
  rcases ho with ⟨h0, rfl, hf⟩ | ⟨hne, ro⟩
  · obtain rfl : z = true := by rw [← hz, h0]; rfl
    cases hr
    exact ⟨.sliceNil, H, nl, cs, ρ, List.mem_cons_self, Env.Le.refl ρ, rfl, hh.framed hf, hc⟩
  · obtain rfl : z = false := by rw [← hz, beq_eq_false_iff_ne]; exact hne
    cases hr
    obtain ⟨ρ', hle, hd, hr'⟩ := texts_in (nT := .var 7) (c := .var 6) hh ro (by rw [List.length_map]; exact congrArg some g3) (congrArg some g2) (by rw [strs_enc, List.map_map]; rfl)
    exact ⟨_, _, _, _, ρ', List.mem_cons_self, hle, hd, hr', hc.mono hle⟩
-- THE WALK
def rowL : AVal := .slice 4 (.lit 0) (.var 7) (.nv 3)
def HL : Nat × HB := (4, ⟨.srow (.var 6) 9 (.var 7) (some (.nv 3)), true⟩)
def csQ : Cs := [(.cmp .geq (.var 0) (.lit 0), true), (.cmp .leq (.var 0) (.var 7), true), (.cmp .leq (.var 7) (.lit 10000), true)]
def csR : Cs := csQ ++ [(.cmp .geq (.var 3) (.lit 1), true), (.cmp .leq (.var 3) (.lit 5000), true)]
def Q0 : Tpl := ⟨[(2, .sliceNil), (3, .int .i64 (.lit 0)), (4, .sliceNil), (10, rowL), (11, iV 7), (12, iV 0)], 41, [HL], 5, csQ, 3⟩
def Q1 : Tpl := ⟨[(2, .sliceNil), (3, .int .i64 (.lit 0)), (4, at1), (10, rowL), (11, iV 7), (12, iV 0)], 41, [HA, HL], 5, csR, 3⟩
def xT : ST := .dec (.un 0 (.var 6) (.var 0))
def qi (b : Bool) : Cs := [(.cmp .lss (.var 0) (.var 7), b)]
def q5 (b : Bool) : Cs := [(.cmp .eql (.var 0) (.lit 5000), b)]
def qL : Cs := [(.cmp .leq (.slen xT) (.lit 10000), true), (.cmp .geq (.lit 0) (.lit 0), true), (.cmp .lss (.lit 0) (.slen xT), true)]
def qH (b : Bool) : Cs := [(.cmp .eql (.un 0 (.scode xT) (.lit 0)) (.lit 35), b)]
def qO (b : Bool) : Cs := [(.not (okT xT), b)]
def z1 : Cs := qi true ++ q5 true
def z2 : Cs := qi true ++ q5 false ++ fT xT true
def z3 : Cs := qi true ++ q5 false ++ fT xT false ++ qL ++ qH true
def z4 : Cs := qi true ++ q5 false ++ fT xT false ++ qL ++ qH false ++ qO true
def z5 : Cs := qi true ++ q5 false ++ fT xT false ++ qL ++ qH false ++ qO false
def z6 : Cs := qi false
noncomputable def qb0 : Code := ((loopsOf (Tryd.f70.body.getD .ret) []).getD 0 (.ret, [])).1
noncomputable def qk0 : List Item := ((loopsOf (Tryd.f70.body.getD .ret) []).getD 0 (.ret, [])).2
def sp70 (z : Bool) : CallF := spL [(112, spLns z), (64, spPrN)]
noncomputable def RunQ (T : Tpl) (c : Cs) (l : LM) : Prop := (run Tryd.prog [(127, .same)] (sp70 false) 4000 true 70 ((⟨T.tm, T.nt, T.H, T.nl, c ++ T.cs, T.dep⟩ : Tpl).st (.code qb0 :: .inLoop qb0 :: qk0))).map (·.filterMap (sumMO gR [] [E0, E1] [Q1, Q0])) = some [l]
def appX (c : IT) : IT := ([0, 1, 2, 3, 4, 5, 6, 7] : List Int).foldl (fun t j => .un 3 t (.fn 74 (.scode xT) (.lit j))) c
def y0 : Sub := ⟨[(7, .var 7), (0, upI), (6, .var 6)], [], [], [], [(4, 4), (3, 3)]⟩
def y1 : Sub := ⟨[(3, .var 3), (7, .var 7), (0, upI), (2, .var 2), (6, .var 6)], [], [], [], [(2, 2), (1, 1), (4, 4), (3, 3)]⟩
def x0 : Sub := ⟨[(3, .lit 1), (7, .var 7), (0, upI), (2, appX (.lit 0)), (6, .var 6)], [], [], [], [(2, 8), (1, 7), (4, 4), (3, 3)]⟩
def x1 : Sub := ⟨[(3, upW), (7, .var 7), (0, upI), (2, appX (.var 2)), (6, .var 6)], [], [], [], [(2, 8), (1, 7), (4, 4), (3, 3)]⟩
theorem qE : (run Tryd.prog [(127, .same)] (sp70 false) 4000 true 70 (entry Tryd.f70 (Tryd.f70.body.getD .ret) [.str (.var 5)] .leaf 0 [(.cmp .leq (.var 7) (.lit 10000), true)])).map (·.filterMap (sumMO gR [] [E0, E1] [Q1, Q0])) = some [.next 1 (.code (.loop qb0) :: qk0) [(.cmp .leq (.var 7) (.lit 10000), true)] ⟨[(7, .var 7), (0, .lit 0), (6, .var 6)], [], [], [], [(4, 1), (3, 0)]⟩] := by kernel_rfl
theorem qZ : (run Tryd.prog [(127, .same)] (sp70 true) 4000 false 70 (entry Tryd.f70 (Tryd.f70.body.getD .ret) [.str (.var 5)] .leaf 0 [])).map (·.filterMap (sumMO gR [] [E0, E1] [Q1, Q0])) = some [.done 0 [] ⟨[(5, .lit 0)], [], [], [], []⟩] := by kernel_rfl
theorem q01 : RunQ Q0 z1 (.done 0 (z1 ++ csQ) ⟨[(5, .lit 5001)], [], [], [], []⟩) := by unfold RunQ; kernel_rfl
theorem q11 : RunQ Q1 z1 (.done 0 (z1 ++ csR) ⟨[(5, .lit 5001)], [], [], [], []⟩) := by unfold RunQ; kernel_rfl
theorem q02 : RunQ Q0 z2 (.next 1 (.inLoop qb0 :: qk0) (z2 ++ csQ) y0) := by unfold RunQ; kernel_rfl
theorem q12 : RunQ Q1 z2 (.next 0 (.inLoop qb0 :: qk0) (z2 ++ csR) y1) := by unfold RunQ; kernel_rfl
theorem q03 : RunQ Q0 z3 (.next 1 (.inLoop qb0 :: qk0) (z3 ++ csQ) y0) := by unfold RunQ; kernel_rfl
theorem q13 : RunQ Q1 z3 (.next 0 (.inLoop qb0 :: qk0) (z3 ++ csR) y1) := by unfold RunQ; kernel_rfl
theorem q04 : RunQ Q0 z4 (.done 0 (z4 ++ csQ) ⟨[(5, upI)], [], [], [], []⟩) := by unfold RunQ; kernel_rfl
theorem q14 : RunQ Q1 z4 (.done 0 (z4 ++ csR) ⟨[(5, upI)], [], [], [], []⟩) := by unfold RunQ; kernel_rfl
theorem q05 : RunQ Q0 z5 (.next 0 (.inLoop qb0 :: qk0) (z5 ++ csQ) x0) := by unfold RunQ; kernel_rfl
theorem q15 : RunQ Q1 z5 (.next 0 (.inLoop qb0 :: qk0) (m6 :: (z5 ++ csR)) x1) := by unfold RunQ; kernel_rfl
theorem q06 : RunQ Q0 z6 (.done 0 (z6 ++ csQ) ⟨[(5, .lit 0)], [], [], [], []⟩) := by unfold RunQ; kernel_rfl
theorem q16 : RunQ Q1 z6 (.done 1 (z6 ++ csR) ⟨[(3, .var 3), (5, .lit 0), (2, .var 2)], [], [], [], [(2, 2), (1, 1)]⟩) := by unfold RunQ; kernel_rfl
structure Jq (l : List UInt8) (i : Nat) (ρ : Env) : Prop where
  g : GP.at (GQ l) ρ
  i0 : ρ.I 0 = (i : Int)
  le : i ≤ (lns l).length
theorem Jq.of_le {l : List UInt8} {i : Nat} {ρ ρ' : Env} (h : Jq l i ρ) (g : ρ.Le ρ') : Jq l i ρ' := ⟨GP.mono g h.g, by rw [g.i]; exact h.i0, h.le⟩
section
variable {l : List UInt8} {i : Nat} {ρ : Env} (hl : l.length ≤ 10000) (h : Jq l i ρ)
include h
theorem q7 : (IT.var 7).den ρ = some ((lns l).length : Int) := congrArg some h.g.2.2.2
theorem qv0 : (IT.var 0).den ρ = some (i : Int) := congrArg some h.i0
theorem xD : xT.den ρ = Txt.bytes ((lns l).getD i []) := by
  show decS (univ 0 (ρ.I 6) (ρ.I 0)) = _
  rw [h.g.2.2.1, h.i0, un0_get, decS_encS]
theorem qi_ok {b : Bool} (hb : decide (i < (lns l).length) = b) : CRel ρ (qi b) := by
  refine CRel_cons.2 ⟨?_, CRel_nil.2 trivial⟩
  simp only [BT.den, qv0 h, q7 h, intCmp, Option.some.injEq]
  rw [← hb, decide_eq_decide]; omega
theorem q5_ok {b : Bool} (hb : decide (i = 5000) = b) : CRel ρ (q5 b) := by
  refine CRel_cons.2 ⟨?_, CRel_nil.2 trivial⟩
  simp only [BT.den, qv0 h, litI, intCmp, Option.some.injEq]
  rw [← hb, Bool.eq_iff_iff, beq_iff_eq, decide_eq_true_eq]; omega
include hl in
theorem csQ_ok : CRel ρ csQ := by
  have h1 := lns_len _ l (Nat.le_refl _)
  have h2 := h.le
  refine CRel_cons.2 ⟨?_, CRel_cons.2 ⟨?_, CRel_cons.2 ⟨?_, CRel_nil.2 trivial⟩⟩⟩
  · simp only [BT.den, qv0 h, litI, intCmp, Option.some.injEq, decide_eq_true_eq]; omega
  · simp only [BT.den, qv0 h, q7 h, intCmp, Option.some.injEq, decide_eq_true_eq]; omega
  · simp only [BT.den, q7 h, litI, intCmp, Option.some.injEq, decide_eq_true_eq]; omega
include hl in
theorem csR_ok {acc : List Evt} (a : Acc acc ρ) (hk : acc.length ≤ 5000) : CRel ρ csR := by
  have h3 := List.length_pos_iff.2 a.ne
  have e : (IT.var 3).den ρ = some (acc.length : Int) := congrArg some a.n
  refine CRel_app.2 ⟨csQ_ok hl h, CRel_cons.2 ⟨?_, CRel_cons.2 ⟨?_, CRel_nil.2 trivial⟩⟩⟩
  · simp only [BT.den, e, litI, intCmp, Option.some.injEq, decide_eq_true_eq]; omega
  · simp only [BT.den, e, litI, intCmp, Option.some.injEq, decide_eq_true_eq]; omega
theorem qL_ok (hx : ((lns l).getD i []).length ≤ 10000) (hn : (lns l).getD i [] ≠ []) : CRel ρ qL := by
  have h3 := List.length_pos_iff.2 hn
  refine CRel_cons.2 ⟨?_, CRel_cons.2 ⟨?_, CRel_cons.2 ⟨?_, CRel_nil.2 trivial⟩⟩⟩
  · simp only [BT.den, IT.den, xD h, bytes_size, intCmp, Option.some.injEq, decide_eq_true_eq]; omega
  · simp only [BT.den, litI, intCmp, Option.some.injEq, decide_eq_true_eq]; omega
  · simp only [BT.den, IT.den, xD h, bytes_size, intCmp, Option.some.injEq, decide_eq_true_eq]; omega
theorem qH_ok (hn : (lns l).getD i [] ≠ []) {b : Bool} (hb : skp ((lns l).getD i []) = b) : CRel ρ (qH b) := by
  refine CRel_cons.2 ⟨?_, CRel_nil.2 trivial⟩
  have e : (IT.un 0 (.scode xT) (.lit 0)).den ρ = some ((((lns l).getD i []).getD 0 0).toNat : Int) := by
    show some (univ 0 (encS (xT.den ρ)) ((0 : Nat) : Int)) = _
    rw [un0_byte, xD h, bytes_toList]
  simp only [BT.den, e, litI, intCmp, Option.some.injEq]
  rw [← hb]
  generalize (lns l).getD i [] = x at hn
  match x, hn with
  | c :: r, _ =>
    show ((c.toNat : Int) == 35) = (c == 35)
    rw [Bool.eq_iff_iff, beq_iff_eq, beq_iff_eq]
    constructor
    · intro hc
      apply UInt8.toNat_inj.1
      show c.toNat = 35
      omega
    · intro hc
      rw [hc]; rfl
theorem qO_ok {b : Bool} (hb : (!(readE ((lns l).getD i [])).2) = b) : CRel ρ (qO b) := by
  refine CRel_cons.2 ⟨?_, CRel_nil.2 trivial⟩
  have e := okT_den h.g.1 xT
  rw [xD h, bytes_toList] at e
  rw [notD e, hb]
theorem upQ (hi : i < 10000) : upI.den ρ = some ((i + 1 : Nat) : Int) := by
  have e : upI.den ρ = some (IntKind.i64.wrap ((i : Int) + 1)) := by simp only [upI, IT.den, intBin, h.i0]
  rw [e, wrapI (by omega) (by omega)]; simp
theorem stepQ (hi : i < (lns l).length) (h2 : i < 10000) {ρ' : Env} {σ : Sub} (g : ρ.Le ρ') (h7 : lk σ.I 7 = some (.var 7)) (h6 : lk σ.I 6 = some (.var 6)) (h0 : lk σ.I 0 = some upI) (h5 : lk σ.S 5 = none) : Jq l (i + 1) (σ.app ρ') := by
  have h' := h.of_le g
  refine ⟨⟨h'.g.1, (app_S h5).trans h'.g.2.1, ?_, ?_⟩, ?_, by omega⟩
  · show (match lk σ.I 6 with | some t => (t.den ρ').getD 0 | none => ρ'.I 6) = _
    simp only [h6]
    exact h'.g.2.2.1
  · show (match lk σ.I 7 with | some t => (t.den ρ').getD 0 | none => ρ'.I 7) = _
    simp only [h7]
    exact h'.g.2.2.2
  · show (match lk σ.I 0 with | some t => (t.den ρ').getD 0 | none => ρ'.I 0) = _
    simp only [h0]
    rw [upQ h' h2]; rfl
theorem appX_den {acc : List Evt} {c : IT} (hc : c.den ρ = some (encL (evs acc))) : (appX c).den ρ = some (encL (evs (acc ++ [(readE ((lns l).getD i [])).1]))) := by
  have e : ∀ j : Int, (IT.fn 74 (.scode xT) (.lit j)).den ρ = some ((evC (readE ((lns l).getD i [])).1).getD j.toNat 0) := fun j => by
    have := ev_den h.g.1 xT j
    rwa [xD h, bytes_toList] at this
  have u : ∀ {t : IT} {L : List Int} (j : Int), t.den ρ = some (encL L) → (IT.un 3 t (.fn 74 (.scode xT) (.lit j))).den ρ = some (encL (L ++ [(evC (readE ((lns l).getD i [])).1).getD j.toNat 0])) := fun {t L} j ht => by
    rw [unD ht (e j)]
    show some (encL (decL (encL L) ++ _)) = _
    rw [decL_encL]
  have := u 7 (u 6 (u 5 (u 4 (u 3 (u 2 (u 1 (u 0 hc)))))))
  refine Eq.trans this ?_
  rw [evs_app]
  simp only [evs, List.append_nil, List.append_assoc]
  rfl
end
-- ENDS
theorem endQ0 {w0 : World} {l : List UInt8} {ρ : Env} {cs : Cs} {t : IT} {z : Int} (hz : readL l = ([], z)) (ht : ∀ ρ', ρ.Le ρ' → t.den ρ' = some z) : MGoodO Tryd.prog (βQ w0 l) 70 (RR w0 l) [E0, E1] [Q1, Q0] ρ (.done 0 cs ⟨[(5, t)], [], [], [], []⟩) := by
  refine doneR rfl rfl fun ρ' hle hG => ⟨⟨hG.1, hG.2.1, hG.2.2.1, hG.2.2.2⟩, CRel_nil.2 trivial, fun x w' r => ?_⟩
  obtain ⟨y, hy, he⟩ := r.t 0 (.tuple [.sliceNil, iV 5]) rfl
  obtain rfl : x = y := Option.some.inj he
  have e5 : (iV 5).den (Sub.app ⟨[(5, t)], [], [], [], []⟩ ρ') = some (.int .i64 z) := by
    show (some ((t.den ρ').getD 0)).map (Value.int .i64) = _
    rw [ht ρ' hle]; rfl
  obtain ⟨u, hd, hy⟩ := tup2x hy e5
  obtain rfl : u = .slice none 0 0 := (Option.some.inj hd).symm
  refine ⟨.slice none 0 0, by rw [hy, hz], ?_⟩
  rw [hz]
  exact .inl ⟨rfl, rfl, framed_base rfl r.h⟩
theorem endQ1 {w0 : World} {l : List UInt8} {ρ : Env} {cs : Cs} {acc : List Evt} (a : Acc acc ρ) (hz : readL l = (acc, 0)) : MGoodO Tryd.prog (βQ w0 l) 70 (RR w0 l) [E0, E1] [Q1, Q0] ρ (.done 1 cs ⟨[(3, .var 3), (5, .lit 0), (2, .var 2)], [], [], [], [(2, 2), (1, 1)]⟩) := by
  refine doneR rfl rfl fun ρ' hle hG => ⟨⟨hG.1, hG.2.1, hG.2.2.1, hG.2.2.2⟩, CRel_nil.2 trivial, fun x w' r => ?_⟩
  have a' := a.of_le hle
  obtain ⟨y, hy, he⟩ := r.t 0 (.tuple [at1, iV 5]) rfl
  obtain rfl : x = y := Option.some.inj he
  have e5 : (iV 5).den (Sub.app ⟨[(3, .var 3), (5, .lit 0), (2, .var 2)], [], [], [], [(2, 2), (1, 1)]⟩ ρ') = some (.int .i64 0) := rfl
  obtain ⟨u, hd, hy⟩ := tup2x hy e5
  refine ⟨u, by rw [hy, hz], ?_⟩
  rw [hz]
  exact .inr ⟨List.length_pos_iff.2 a.ne, row_out (l := 2) (j := 1) (nT := .var 3) (c := .var 2) rfl r.h rfl hd (congrArg some a'.n) (congrArg some a'.c)⟩
theorem lns_le : ∀ (n : Nat) (l : List UInt8), l.length ≤ n → ∀ x ∈ lns l, x.length ≤ l.length
  | _, [], _, x, hx => by rw [lns_nil] at hx; cases hx
  | n + 1, b :: l, h, x, hx => by
    have hr := rest_lt (l := b :: l) (by simp)
    rw [lns_ne (l := b :: l) (by simp)] at hx
    rcases List.mem_cons.1 hx with rfl | hx
    · exact line_le _
    · have := lns_le n (rest (b :: l)) (by simp only [List.length_cons] at *; omega) x hx
      omega
theorem drop_at {α : Type} {ls : List α} {i : Nat} {d : α} (h : i < ls.length) : ls.drop i = ls.getD i d :: ls.drop (i + 1) := by
  rw [List.drop_eq_getElem_cons h, List.getD_eq_getElem?_getD, List.getElem?_eq_getElem h]; rfl
section
variable {w0 : World} {l : List UInt8} (hl : l.length ≤ 10000) (hT : TabW w0) (hM : MaxW w0) (hE : ErrW w0)
include hl hT hM hE
theorem sp70_ok {z : Bool} (hz : (lns l == []) = z) : CallOk Tryd.prog (βQ w0 l) (sp70 z) := by
  refine spL_ok fun p hp => ?_
  simp only [List.mem_cons, List.not_mem_nil, or_false] at hp
  rcases hp with rfl | rfl
  · exact spLns_ok hl hz
  · exact spPr64_ok (v := undef) (fun _ _ _ _ _ h => h.1) rfl hT hM hE
theorem loopQ1 (hz : (lns l == []) = false) : ∀ ρ, (∃ i acc, Jq l i ρ ∧ Acc acc ρ ∧ acc.length ≤ i ∧ i ≤ 5000 ∧ readG (i + 1) ((lns l).drop i) acc = readL l) → ∀ todo a w, todo = .inLoop qb0 :: qk0 ∨ todo = .code (.loop qb0) :: qk0 → SRel (βQ w0 l) ρ (Q1.st todo) a w → Goes Tryd.prog 70 (RR w0 l) todo a w := by
  refine loop_goesW (n := 4000) (g := gR) (L := []) (pl := true) (Rs := [E0, E1]) (Ts := [Q1, Q0]) (β := βQ w0 l) noCount ext1_ok (sp70_ok hl hT hM hE hz) follows (fun ρ => ∃ i acc, Jq l i ρ ∧ Acc acc ρ ∧ acc.length ≤ i ∧ i ≤ 5000 ∧ readG (i + 1) ((lns l).drop i) acc = readL l) (fun ρ => (((lns l).length : Int) - ρ.I 0).toNat) (fun ρ hJ hcs hG ih => ?_)
  obtain ⟨i, acc, h, a, hai, h5, hg⟩ := hJ
  have hle := h.le
  by_cases hi : i < (lns l).length
  rotate_left
  · refine ⟨_, _, CRel_app.2 ⟨qi_ok h (b := false) (decide_eq_false hi), hcs⟩, q16, one (endQ1 a ?_)⟩
    rw [← hg, List.drop_eq_nil_of_le (by omega)]; rfl
  have qi' := qi_ok h (b := true) (decide_eq_true hi)
  have hd := drop_at (d := []) hi
  have hx := lns_le _ l (Nat.le_refl _) ((lns l).getD i []) (getD_mem hi)
  rw [hd] at hg
  by_cases hk : i = 5000
  · refine ⟨_, _, CRel_app.2 ⟨CRel_app.2 ⟨qi', q5_ok h (b := true) (decide_eq_true hk)⟩, hcs⟩, q11, one (endQ0 (z := 5001) ?_ fun ρ' _ => rfl)⟩
    rw [← hg]; unfold readG; rw [if_pos (by omega), hk]; rfl
  have q5' := q5_ok h (b := false) (decide_eq_false hk)
  have dec : ∀ {σ : Sub} {ρ' : Env}, Jq l (i + 1) (σ.app ρ') → (((lns l).length : Int) - (σ.app ρ').I 0).toNat < (((lns l).length : Int) - ρ.I 0).toNat := fun {σ ρ'} jv => by
    rw [jv.i0, h.i0]; omega
  have stay : ∀ {cs : Cs}, readG (i + 2) ((lns l).drop (i + 1)) acc = readL l → MGoodO Tryd.prog (βQ w0 l) 70 (RR w0 l) [E0, E1] [Q1, Q0] ρ (.next 0 (.inLoop qb0 :: qk0) cs y1) := fun {cs} he => by
    refine nextR rfl rfl fun ρ' hle' hG' => ?_
    have j := stepQ h hi (by omega) (σ := y1) hle' rfl rfl rfl rfl
    have a' : Acc acc (y1.app ρ') := ⟨(a.of_le hle').c, (a.of_le hle').n, a.ne⟩
    exact ⟨j.g, csR_ok hl j a' (by omega), fun b w r => ih _ (dec j) ⟨i + 1, acc, j, a', by omega, by omega, he⟩ _ b w (.inl rfl) r⟩
  by_cases hl0 : (lns l).getD i [] = []
  · refine ⟨_, _, CRel_app.2 ⟨CRel_app.2 ⟨CRel_app.2 ⟨qi', q5'⟩, fT_ok (xD h) (b := true) (by rw [hl0]; rfl)⟩, hcs⟩, q12, one (stay ?_)⟩
    rw [← hg]; conv => rhs; unfold readG
    rw [if_neg (by omega), if_pos (by rw [hl0]; rfl)]
  have fE' := fT_ok (xD h) (b := false) (emp hl0)
  have fL' := qL_ok h (by omega) hl0
  cases hs : skp ((lns l).getD i []) with
  | true =>
    refine ⟨_, _, CRel_app.2 ⟨CRel_app.2 ⟨CRel_app.2 ⟨CRel_app.2 ⟨CRel_app.2 ⟨qi', q5'⟩, fE'⟩, fL'⟩, qH_ok h hl0 hs⟩, hcs⟩, q13, one (stay ?_)⟩
    rw [← hg]; conv => rhs; unfold readG
    rw [if_neg (by omega), if_pos hs]
  | false =>
    have pre := CRel_app.2 ⟨CRel_app.2 ⟨CRel_app.2 ⟨CRel_app.2 ⟨qi', q5'⟩, fE'⟩, fL'⟩, qH_ok h hl0 hs⟩
    cases ho : (readE ((lns l).getD i [])).2 with
    | false =>
      refine ⟨_, _, CRel_app.2 ⟨CRel_app.2 ⟨pre, qO_ok h (b := true) (by rw [ho]; rfl)⟩, hcs⟩, q14, one (endQ0 (z := ((i + 1 : Nat) : Int)) ?_ fun ρ' hle' => upQ (h.of_le hle') (by omega))⟩
      rw [← hg]; unfold readG
      rw [if_neg (by omega), if_neg (by rw [hs]; decide), if_neg (by rw [ho]; decide)]
    | true =>
      refine ⟨_, _, CRel_app.2 ⟨CRel_app.2 ⟨pre, qO_ok h (b := false) (by rw [ho]; rfl)⟩, hcs⟩, q15, one (nextR rfl rfl fun ρ' hle' hG' => ?_)⟩
      have h' := h.of_le hle'
      have aL := a.of_le hle'
      have j := stepQ h hi (by omega) (σ := x1) hle' rfl rfl rfl rfl
      have d8 := appX_den h' (c := .var 2) (congrArg some aL.c)
      have e3 : upW.den ρ' = some ((acc ++ [(readE ((lns l).getD i [])).1]).length : Int) := by
        have e : upW.den ρ' = some (IntKind.i64.wrap ((acc.length : Int) + 1)) := by simp only [upW, IT.den, intBin, aL.n]
        rw [e, wrapI (by omega) (by omega)]; simp
      have a' : Acc (acc ++ [(readE ((lns l).getD i [])).1]) (x1.app ρ') := by
        refine ⟨?_, ?_, by simp⟩
        · show ((appX (.var 2)).den ρ').getD 0 = _
          rw [d8]; rfl
        · show (upW.den ρ').getD 0 = _
          rw [e3]; rfl
      have hl' : (acc ++ [(readE ((lns l).getD i [])).1]).length = acc.length + 1 := by simp
      refine ⟨j.g, csR_ok hl j a' (by omega), fun b w r => ih _ (dec j) ⟨i + 1, _, j, a', by omega, by omega, ?_⟩ _ b w (.inl rfl) r⟩
      rw [← hg]; conv => rhs; unfold readG
      rw [if_neg (by omega), if_neg (by rw [hs]; decide), if_pos ho]
theorem loopQ0 (hz : (lns l == []) = false) : ∀ ρ, (∃ i, Jq l i ρ ∧ i ≤ 5000 ∧ readG (i + 1) ((lns l).drop i) [] = readL l) → ∀ todo a w, todo = .inLoop qb0 :: qk0 ∨ todo = .code (.loop qb0) :: qk0 → SRel (βQ w0 l) ρ (Q0.st todo) a w → Goes Tryd.prog 70 (RR w0 l) todo a w := by
  refine loop_goesW (n := 4000) (g := gR) (L := []) (pl := true) (Rs := [E0, E1]) (Ts := [Q1, Q0]) (β := βQ w0 l) noCount ext1_ok (sp70_ok hl hT hM hE hz) follows (fun ρ => ∃ i, Jq l i ρ ∧ i ≤ 5000 ∧ readG (i + 1) ((lns l).drop i) [] = readL l) (fun ρ => (((lns l).length : Int) - ρ.I 0).toNat) (fun ρ hJ hcs hG ih => ?_)
  obtain ⟨i, h, h5, hg⟩ := hJ
  have hle := h.le
  by_cases hi : i < (lns l).length
  rotate_left
  · refine ⟨_, _, CRel_app.2 ⟨qi_ok h (b := false) (decide_eq_false hi), hcs⟩, q06, one (endQ0 (z := 0) ?_ fun ρ' _ => rfl)⟩
    rw [← hg, List.drop_eq_nil_of_le (by omega)]; rfl
  have qi' := qi_ok h (b := true) (decide_eq_true hi)
  have hd := drop_at (d := []) hi
  have hx := lns_le _ l (Nat.le_refl _) ((lns l).getD i []) (getD_mem hi)
  rw [hd] at hg
  by_cases hk : i = 5000
  · refine ⟨_, _, CRel_app.2 ⟨CRel_app.2 ⟨qi', q5_ok h (b := true) (decide_eq_true hk)⟩, hcs⟩, q01, one (endQ0 (z := 5001) ?_ fun ρ' _ => rfl)⟩
    rw [← hg]; unfold readG; rw [if_pos (by omega), hk]; rfl
  have q5' := q5_ok h (b := false) (decide_eq_false hk)
  have stay : ∀ {cs : Cs}, readG (i + 2) ((lns l).drop (i + 1)) [] = readL l → MGoodO Tryd.prog (βQ w0 l) 70 (RR w0 l) [E0, E1] [Q1, Q0] ρ (.next 1 (.inLoop qb0 :: qk0) cs y0) := fun {cs} he => by
    refine nextR rfl rfl fun ρ' hle' hG' => ?_
    have j := stepQ h hi (by omega) (σ := y0) hle' rfl rfl rfl rfl
    refine ⟨j.g, csQ_ok hl j, fun b w r => ih _ ?_ ⟨i + 1, j, by omega, he⟩ _ b w (.inl rfl) r⟩
    show (((lns l).length : Int) - (y0.app ρ').I 0).toNat < (((lns l).length : Int) - ρ.I 0).toNat
    rw [j.i0, h.i0]; omega
  by_cases hl0 : (lns l).getD i [] = []
  · refine ⟨_, _, CRel_app.2 ⟨CRel_app.2 ⟨CRel_app.2 ⟨qi', q5'⟩, fT_ok (xD h) (b := true) (by rw [hl0]; rfl)⟩, hcs⟩, q02, one (stay ?_)⟩
    rw [← hg]; conv => rhs; unfold readG
    rw [if_neg (by omega), if_pos (by rw [hl0]; rfl)]
  have fE' := fT_ok (xD h) (b := false) (emp hl0)
  have fL' := qL_ok h (by omega) hl0
  cases hs : skp ((lns l).getD i []) with
  | true =>
    refine ⟨_, _, CRel_app.2 ⟨CRel_app.2 ⟨CRel_app.2 ⟨CRel_app.2 ⟨CRel_app.2 ⟨qi', q5'⟩, fE'⟩, fL'⟩, qH_ok h hl0 hs⟩, hcs⟩, q03, one (stay ?_)⟩
    rw [← hg]; conv => rhs; unfold readG
    rw [if_neg (by omega), if_pos hs]
  | false =>
    have pre := CRel_app.2 ⟨CRel_app.2 ⟨CRel_app.2 ⟨CRel_app.2 ⟨qi', q5'⟩, fE'⟩, fL'⟩, qH_ok h hl0 hs⟩
    cases ho : (readE ((lns l).getD i [])).2 with
    | false =>
      refine ⟨_, _, CRel_app.2 ⟨CRel_app.2 ⟨pre, qO_ok h (b := true) (by rw [ho]; rfl)⟩, hcs⟩, q04, one (endQ0 (z := ((i + 1 : Nat) : Int)) ?_ fun ρ' hle' => upQ (h.of_le hle') (by omega))⟩
      rw [← hg]; unfold readG
      rw [if_neg (by omega), if_neg (by rw [hs]; decide), if_neg (by rw [ho]; decide)]
    | true =>
      refine ⟨_, _, CRel_app.2 ⟨CRel_app.2 ⟨pre, qO_ok h (b := false) (by rw [ho]; rfl)⟩, hcs⟩, q05, one (nextR rfl rfl fun ρ' hle' hG' => ?_)⟩
      have h' := h.of_le hle'
      have j := stepQ h hi (by omega) (σ := x0) hle' rfl rfl rfl rfl
      have d8 := appX_den h' (acc := []) (c := .lit 0) rfl
      have a' : Acc [(readE ((lns l).getD i [])).1] (x0.app ρ') := by
        refine ⟨?_, rfl, by simp⟩
        show ((appX (.lit 0)).den ρ').getD 0 = _
        rw [d8]; rfl
      refine ⟨j.g, csR_ok hl j a' (by simp), fun b w r => loopQ1 hl hT hM hE hz _ ⟨i + 1, _, j, a', by simp, by omega, ?_⟩ _ b w (.inl rfl) r⟩
      rw [← hg]; conv => rhs; unfold readG
      rw [if_neg (by omega), if_neg (by rw [hs]; decide), if_pos ho]; rfl
end
/-- THE REFERENCE's READ OF ANY TEXT. -/
theorem read70 (w : World) (hT : TabW w) (hM : MaxW w) (hE : ErrW w) (s : ByteArray) (hs : s.size ≤ 10000) : Calls Tryd.prog 70 #[.string s] w (fun e w' => ∃ y, e = .returned (.tuple #[y, .int .i64 (readL s.data.toList).2]) ∧ RowOr w w' y 77 ks8 (evs (readL s.data.toList).1) (readL s.data.toList).1.length) := by
  obtain ⟨l, hl0⟩ : ∃ l, l = s.data.toList := ⟨_, rfl⟩
  rw [← hl0]
  obtain ⟨ρ, hρ⟩ : ∃ ρ : Env, ρ = ⟨fun i => if i = 6 then encW (lns l) else ((lns l).length : Int), fun _ => false, fun _ => s, fun _ => undef, fun _ => none, FR undef⟩ := ⟨_, rfl⟩
  have hN : ∀ i, ρ.N i = none := fun i => by rw [hρ]
  have hG : GP.at (GQ l) ρ := ⟨by rw [hρ], by rw [hρ, hl0]; exact (bytes_list s).symm, by rw [hρ]; rfl, by rw [hρ]; rfl⟩
  have hl : l.length ≤ 10000 := by rw [hl0]; simpa using hs
  have hll := lns_len _ l (Nat.le_refl _)
  have hx : AVal.denL ρ [.str (.var 5)] = some [.string s] := by rw [hρ]; rfl
  have fin : ∀ {e : Ending} {w' : World}, (∃ v, e = .returned v ∧ RR w l v w') → ∃ y, e = .returned (.tuple #[y, .int .i64 (readL l).2]) ∧ RowOr w w' y 77 ks8 (evs (readL l).1) (readL l).1.length := fun {e w'} ⟨x, he, y, hy, hr⟩ => ⟨y, by rw [he, hy], hr⟩
  cases hz : lns l == [] with
  | true =>
    have he : lns l = [] := eq_of_beq hz
    refine (calls_sumsO (β := βQ w l) (R := RR w l) noCount ext1_ok (sp70_ok hl hT hM hE hz) follows Tryd.func70 rfl qZ hx (HRel.startG w _ hN hG) (CRel_nil.2 trivial) (one (endQ0 (z := 0) ?_ fun ρ' _ => rfl))).mono fun _ _ => fin
    unfold readL; rw [he]; rfl
  | false =>
    refine (calls_sumsO (β := βQ w l) (R := RR w l) noCount ext1_ok (sp70_ok hl hT hM hE hz) follows Tryd.func70 rfl qE hx (HRel.startG w _ hN hG) (CRel_cons.2 ⟨?_, CRel_nil.2 trivial⟩) (one (nextR (T := Q0) rfl rfl fun ρ' hle hG' => ?_))).mono fun _ _ => fin
    · have e7 : (IT.var 7).den ρ = some ((lns l).length : Int) := congrArg some hG.2.2.2
      simp only [BT.den, e7, litI, intCmp, Option.some.injEq, decide_eq_true_eq]; omega
    · have j : Jq l 0 (Sub.app ⟨[(7, .var 7), (0, .lit 0), (6, .var 6)], [], [], [], [(4, 1), (3, 0)]⟩ ρ') := ⟨⟨hG'.1, hG'.2.1, hG'.2.2.1, hG'.2.2.2⟩, rfl, Nat.zero_le _⟩
      exact ⟨j.g, csQ_ok hl j, fun a w' r => loopQ0 hl hT hM hE hz _ ⟨0, j, by omega, rfl⟩ _ a w' (.inr rfl) r⟩
end Rd
end Go.Proofs.YtagdcclpibjfoaaDoor
end

/-
  Reading scripts (10): what is known of both Reads and of 'same', for LinesRead's walk.
-/
section
namespace Go.Proofs.YtagdcclpibjfoaaDoor
open Go.Vm Txt
namespace Rd

theorem run71n : (run Tryd.prog [(127, .same)] (spL []) 4000 false 71 (entry Tryd.f71 (Tryd.f71.body.getD .ret) [.sliceNil, .sliceNil] .leaf 0 [])).map (·.all (leafB (.lit true))) = some true := by kernel_rfl
theorem same71n (w : World) : Calls Tryd.prog 71 #[.slice none 0 0, .slice none 0 0] w (fun e w' => e = .returned (.bool true) ∧ Framed w w') :=
  calls_true (β := .plain w) (ρ := envOf [] [] F0) ext1_ok (noSp _) rfl Tryd.func71 rfl run71n (xs := [.slice none 0 0, .slice none 0 0]) rfl (HRel.start w _ fun _ => rfl) (fun _ h => by cases h)
def isT (cs : Cs) (t : ST) : Bool := cs.any fun p => match p with
  | (.seq a (.var 9), true) => ST.beq a t
  | _ => false
def spRdQ (z : Bool) : SpG := fun args H nl cs => match args with
  | [.str t] => cond (isT cs t) (cond z (some [.ret (.tuple [.sliceNil, iV 21]) H nl cs]) (some [.ret (.tuple [.slice (nl + 1) (.lit 0) (.var 20) (.nv nl), iV 21]) (H.set (nl + 1) ⟨.arr (.var 1) ks8 77 (.var 20) (.lit 0) (some (.nv nl)), true⟩) (nl + 2) cs])) none
  | _ => none
def spSmQ : SpG := fun args H nl cs => match args with
  | [.sliceNil, .sliceNil] => some [.ret (.bool (.lit true)) H nl cs]
  | [x, y] => match rowArg H x 1 ks8, rowArg H y 1 ks8 with
    | some (.var 20), some (.var 20) => some [.ret (.bool (.lit true)) H nl cs]
    | _, _ => none
  | _ => none
/-- The text s, the text t that is read in the end, the number d. -/
def GZ (s t : List UInt8) (d : Int) : GP := fun I _ S V _ => S 5 = Txt.bytes s ∧ S 9 = Txt.bytes t ∧ V 1 = rowV (evs (readL t).1) ∧ I 20 = ((readL t).1.length : Int) ∧ I 21 = (readL t).2 ∧ I 40 = d
def βZ (w : World) (s t : List UInt8) (d : Int) : Base := ⟨w, [], GZ s t d⟩
section
variable {w0 : World} {s t : List UInt8} {d : Int}
theorem isT_ok {ρ : Env} {cs : Cs} {x : ST} (h : isT cs x = true) (hc : CRel ρ cs) (h9 : ρ.S 9 = Txt.bytes t) : x.den ρ = Txt.bytes t := by
  unfold isT at h
  rw [List.any_eq_true] at h
  obtain ⟨p, hp, hq⟩ := h
  split at hq
  · rename_i a
    obtain rfl := ST.beq_eq hq
    have h9' : (ST.var 9).den ρ = Txt.bytes t := h9
    have := hc _ hp
    simp only [seqD, h9', bytes_toList, Option.some.injEq, beq_iff_eq] at this
    rw [← this]; exact (bytes_list _).symm
  · cases hq
theorem spRdQ_ok {g : FuncId} {z : Bool} (ht : t.length ≤ 10000) (hz : (readL t).1.isEmpty = z)
    (h : ∀ w, (∃ ρ H nl, HRel (βZ w0 s t d) ρ H nl w) → ∀ x : ByteArray, x.size ≤ 10000 → Calls Tryd.prog g #[.string x] w (fun e w' => ∃ y, e = .returned (.tuple #[y, .int .i64 (readL x.data.toList).2]) ∧ RowOr w w' y 77 ks8 (evs (readL x.data.toList).1) (readL x.data.toList).1.length)) :
    SpGOk Tryd.prog (βZ w0 s t d) g (spRdQ z) := by
  intro args H nl cs ls ρ w xs hr hx hh hc
  obtain ⟨_, g9, gV, g20, g21, _⟩ : GZ s t d ρ.I ρ.B ρ.S ρ.V ρ.F := hh.g
  unfold spRdQ at hr
  split at hr
  rotate_left
  · cases hr
  rename_i x
  cases hb : isT cs x with
  | false => rw [hb] at hr; cases hr
  | true =>
    rw [hb, cond_true] at hr
    have hxd := isT_ok hb hc g9
    have hx' : xs = [.string (Txt.bytes t)] := by
      simp only [AVal.denL, AVal.den, hxd, Option.some.injEq] at hx
      exact hx.symm
    subst hx'
    refine (h w ⟨ρ, H, nl, hh⟩ (Txt.bytes t) (by rw [bytes_size]; exact ht)).mono fun e w' ⟨y, he, ho⟩ => ?_
    rw [bytes_toList] at he ho
    have e21 : (iV 21).den ρ = some (.int .i64 (readL t).2) := by
      show some (Value.int .i64 (ρ.I 21)) = _
      rw [g21]
    rcases ho with ⟨h0, rfl, hf⟩ | ⟨hne, ro⟩
    · obtain rfl : z = true := by rw [← hz, List.length_eq_zero_iff.1 h0]; rfl
      cases hr
      exact ⟨_, he, _, H, nl, cs, ρ, List.mem_cons_self, Env.Le.refl ρ, tup2 rfl e21, hh.framed hf, hc⟩
    · obtain rfl : z = false := by rw [← hz]; exact List.isEmpty_eq_false_iff.2 (List.length_pos_iff.1 hne)
      cases hr
      obtain ⟨ρ', hle, hd, hr'⟩ := row_inV hh ro (nT := .var 20) (a := 1) (congrArg some g20) gV
      exact ⟨_, he, _, _, _, _, ρ', List.mem_cons_self, hle, tup2 hd (AVal.den_mono hle _ e21), hr', hc.mono hle⟩
theorem argQ {ρ : Env} {H : Heap} {nl : Nat} {w : World} {x : AVal} {xv : Value} (h : rowArg H x 1 ks8 = some (.var 20)) (hx : x.den ρ = some xv) (hh : HRel (βZ w0 s t d) ρ H nl w) : ∃ b o cap : Nat, xv = .slice (some ⟨b, o, none⟩) (readL t).1.length cap ∧ RowAt w b o ks8 (readL t).1.length (ρ.V 1) := by
  obtain ⟨_, _, _, g20, _⟩ : GZ s t d ρ.I ρ.B ρ.S ρ.V ρ.F := hh.g
  obtain ⟨b, o, m, cap, rfl, hm, hrow⟩ := rowArg_ok h hx hh
  have hmn : m = (readL t).1.length := by
    have : ρ.I 20 = m := Option.some.inj hm
    rw [g20] at this; omega
  subst hmn
  exact ⟨b, o, cap, rfl, hrow⟩
theorem spSmQ_ok (hn : (readL t).1.length ≤ 10000) : SpGOk Tryd.prog (βZ w0 s t d) 71 spSmQ := by
  intro args H nl cs ls ρ w xs hr hx hh hc
  unfold spSmQ at hr
  split at hr
  · cases hr
    cases hx
    exact spV_ok (same71n w) rfl hh hc
  · rename_i x y _
    split at hr
    rotate_left
    · cases hr
    rename_i hra hrb
    cases hr
    simp only [AVal.denL] at hx
    cases hxd : x.den ρ with
    | none => rw [hxd] at hx; cases hx
    | some xv =>
      cases hyd : y.den ρ with
      | none => rw [hxd, hyd] at hx; cases hx
      | some yv =>
        rw [hxd, hyd] at hx; cases hx
        obtain ⟨c, o, cap, rfl, hrow⟩ := argQ hra hxd hh
        obtain ⟨c', o', cap', rfl, hrow'⟩ := argQ hrb hyd hh
        exact spV_ok (same71 w (ρ.V 1) (ρ.V 1) _ c o cap c' o' cap' hn hrow hrow' fun i _ => rfl) rfl hh hc
  · cases hr
end
def sp14 (z : Bool) : CallF := spL [(62, spTrue), (69, spRdQ z), (70, spRdQ z), (71, spSmQ)]
theorem readG_le : ∀ (k : Nat) (ls : List (List UInt8)) (acc : List Evt), acc.length < k → acc.length ≤ 5000 → (readG k ls acc).1.length ≤ 5000
  | k, [], acc, _, h => h
  | k, x :: r, acc, hk, h => by
    unfold readG
    split
    · simp
    · split
      · exact readG_le (k + 1) r acc (by omega) h
      · split
        · exact readG_le (k + 1) r _ (by simp; omega) (by simp; omega)
        · simp
theorem sp14_ok {w0 : World} {s t : List UInt8} {d : Int} (hT : TabW w0) (hM : MaxW w0) (hE : ErrW w0) (ht : t.length ≤ 10000) {z : Bool} (hz : (readL t).1.isEmpty = z) : CallOk Tryd.prog (βZ w0 s t d) (sp14 z) := by
  have tM : ∀ {ρ : Env} {H : Heap} {nl : Nat} {w : World}, HRel (βZ w0 s t d) ρ H nl w → MaxW w := fun h => by obtain ⟨m, hm⟩ := hM; exact ⟨m, cell_of' (β := βZ w0 s t d) hm rfl h⟩
  refine spL_ok fun p hp => ?_
  simp only [List.mem_cons, List.not_mem_nil, or_false] at hp
  rcases hp with rfl | rfl | rfl | rfl
  · intro args H nl cs ls ρ' w' xs hr hx hh hc
    change spTrue args H nl cs = some ls at hr
    unfold spTrue at hr
    split at hr
    · cases hr; cases hx
      exact spV_ok (Ln.first62 w' (TabW.of hT rfl hh) (ErrW.of hE rfl hh)) rfl hh hc
    · cases hr
  · refine spRdQ_ok ht hz fun w ⟨ρ, H, nl, hh⟩ x hx => read69 w (TabW.of hT rfl hh) (tM hh) (ErrW.of hE rfl hh) x (by omega) fun y hy => ?_
    have := lns_le _ _ (Nat.le_refl _) y hy
    have e : x.data.toList.length = x.size := by simp
    omega
  · exact spRdQ_ok ht hz fun w ⟨ρ, H, nl, hh⟩ x hx => read70 w (TabW.of hT rfl hh) (tM hh) (ErrW.of hE rfl hh) x hx
  · exact spSmQ_ok (by have := readG_le 1 (lns t) [] (by simp) (by simp); unfold readL; omega)
end Rd
end Go.Proofs.YtagdcclpibjfoaaDoor
end
