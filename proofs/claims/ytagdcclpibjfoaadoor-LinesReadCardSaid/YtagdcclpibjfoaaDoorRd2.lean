/-
  Reading scripts (1): the lines of a text, plainly; what is read of them; the text of an event among lines.
-/
import Derived.Test.YtagdcclpibjfoaaDoorLi5
import Derived.Test.YtagdcclpibjfoaaDoorVm27
section
namespace Go.Proofs.YtagdcclpibjfoaaDoor
open Go.Vm Txt
namespace Rd

-- LINES
def line : List UInt8 → List UInt8
  | [] => []
  | b :: l => if b = 10 then [] else b :: line l
def rest : List UInt8 → List UInt8
  | [] => []
  | b :: l => if b = 10 then l else rest l
theorem line_no : ∀ l : List UInt8, (10 : UInt8) ∉ line l
  | [] => by simp [line]
  | b :: l => by
    unfold line
    split
    · simp
    · rename_i h
      intro hm
      rcases List.mem_cons.1 hm with h1 | h1
      · exact h h1.symm
      · exact line_no l h1
theorem line_le : ∀ l : List UInt8, (line l).length ≤ l.length
  | [] => by simp [line]
  | b :: l => by
    unfold line
    split
    · simp
    · have := line_le l
      simp only [List.length_cons]; omega
theorem rest_le : ∀ l : List UInt8, (rest l).length ≤ l.length
  | [] => by simp [rest]
  | b :: l => by
    unfold rest
    split
    · simp
    · have := rest_le l
      simp only [List.length_cons]; omega
theorem rest_lt : ∀ {l : List UInt8}, l ≠ [] → (rest l).length < l.length
  | [], h => absurd rfl h
  | b :: l, _ => by
    unfold rest
    split
    · simp
    · have := rest_le l
      simp only [List.length_cons]; omega
theorem line_word : ∀ {w : List UInt8} (r : List UInt8), (10 : UInt8) ∉ w → line (w ++ 10 :: r) = w ∧ rest (w ++ 10 :: r) = r
  | [], r, _ => by simp [line, rest]
  | b :: w, r, h => by
    have hb : b ≠ 10 := fun e => h (by rw [e]; exact List.mem_cons_self)
    obtain ⟨h1, h2⟩ := line_word (w := w) r (fun h1 => h (List.mem_cons_of_mem _ h1))
    simp only [List.cons_append, line, rest, if_neg hb, h1, h2]
    exact ⟨trivial, trivial⟩
theorem line_all : ∀ {w : List UInt8}, (10 : UInt8) ∉ w → line w = w ∧ rest w = []
  | [], _ => by simp [line, rest]
  | b :: w, h => by
    have hb : b ≠ 10 := fun e => h (by rw [e]; exact List.mem_cons_self)
    obtain ⟨h1, h2⟩ := line_all (w := w) (fun h1 => h (List.mem_cons_of_mem _ h1))
    simp only [line, rest, if_neg hb, h1, h2]
    exact ⟨trivial, trivial⟩
theorem line_rest : ∀ {l : List UInt8}, (10 : UInt8) ∈ l → l = line l ++ 10 :: rest l
  | [], h => by cases h
  | b :: l, h => by
    unfold line rest
    split
    · rename_i hb
      rw [hb]; rfl
    · rename_i hb
      rcases List.mem_cons.1 h with h1 | h1
      · exact absurd h1.symm hb
      · rw [List.cons_append, ← line_rest h1]
theorem idx10_none : ∀ {w : List UInt8}, (10 : UInt8) ∉ w → Lib.indexByte w 10 = -1
  | [], _ => rfl
  | b :: w, h => by
    have hb : (b == 10) = false := by
      rw [beq_eq_false_iff_ne]; intro e; exact h (by rw [e]; exact List.mem_cons_self)
    have := idx10_none (w := w) (fun h1 => h (List.mem_cons_of_mem _ h1))
    unfold Lib.indexByte
    rw [hb, this]; rfl
theorem idx10_word : ∀ {w : List UInt8} (r : List UInt8), (10 : UInt8) ∉ w → Lib.indexByte (w ++ 10 :: r) 10 = (w.length : Int)
  | [], r, _ => rfl
  | b :: w, r, h => by
    have hb : (b == 10) = false := by
      rw [beq_eq_false_iff_ne]; intro e; exact h (by rw [e]; exact List.mem_cons_self)
    have hi := idx10_word (w := w) r (fun h1 => h (List.mem_cons_of_mem _ h1))
    show (if b == 10 then (0 : Int) else if Lib.indexByte (w ++ 10 :: r) 10 == -1 then -1 else Lib.indexByte (w ++ 10 :: r) 10 + 1) = _
    rw [hb, hi]
    have hne : ((w.length : Int) == -1) = false := by rw [beq_eq_false_iff_ne]; omega
    rw [hne]
    simp
theorem cut10 (l : List UInt8) : Lib.cut l [10] = (line l, rest l, decide ((10 : UInt8) ∈ l)) := by
  by_cases h : (10 : UInt8) ∈ l
  · have e := line_rest h
    have hn := line_no l
    rw [decide_eq_true h]
    generalize line l = w at e hn
    generalize rest l = r at e
    subst e
    unfold Lib.cut
    rw [Lib.index_one, idx10_word r hn, if_pos (by omega), Int.toNat_natCast]
    simp
  · obtain ⟨h1, h2⟩ := line_all h
    rw [h1, h2, decide_eq_false h]
    unfold Lib.cut
    rw [Lib.index_one, idx10_none h]; rfl
def lnsF : Nat → List UInt8 → List (List UInt8)
  | 0, _ => []
  | _ + 1, [] => []
  | n + 1, b :: l => line (b :: l) :: lnsF n (rest (b :: l))
theorem lnsF_ge : ∀ (n m : Nat) (l : List UInt8), l.length ≤ n → l.length ≤ m → lnsF n l = lnsF m l
  | 0, 0, _, _, _ => rfl
  | 0, m + 1, l, h, _ => by
    obtain rfl := List.length_eq_zero_iff.1 (Nat.le_zero.1 h); rfl
  | n + 1, 0, l, _, h => by
    obtain rfl := List.length_eq_zero_iff.1 (Nat.le_zero.1 h); rfl
  | n + 1, m + 1, [], _, _ => rfl
  | n + 1, m + 1, b :: l, h1, h2 => by
    have := rest_lt (l := b :: l) (by simp)
    simp only [lnsF]
    rw [lnsF_ge n m _ (by simp only [List.length_cons] at *; omega) (by simp only [List.length_cons] at *; omega)]
/-- The lines of a text. -/
def lns (l : List UInt8) : List (List UInt8) := lnsF l.length l
theorem lns_nil : lns [] = [] := rfl
theorem lns_ne {l : List UInt8} (h : l ≠ []) : lns l = line l :: lns (rest l) := by
  match l, h with
  | b :: l, _ =>
    have := rest_lt (l := b :: l) (by simp)
    show line (b :: l) :: lnsF l.length (rest (b :: l)) = _
    rw [lnsF_ge l.length (rest (b :: l)).length _ (by simp only [List.length_cons] at this; omega) (Nat.le_refl _)]
    rfl
theorem lns_word {w : List UInt8} (r : List UInt8) (h : (10 : UInt8) ∉ w) : lns (w ++ 10 :: r) = w :: lns r := by
  obtain ⟨h1, h2⟩ := line_word r h
  rw [lns_ne (by simp), h1, h2]
-- WHAT IS READ
open Classical in
noncomputable def readE (l : List UInt8) : Evt × Bool := if refOk (wordsOf l) then (refE (wordsOf l), true) else (.z, false)
theorem readV_eq (l : List UInt8) : readV l = .tuple #[evV (readE l).1, .bool (readE l).2] := by
  unfold readV readE
  by_cases h : refOk (wordsOf l)
  · rw [if_pos h, if_pos h]
  · rw [if_neg h, if_neg h]
def skp (x : List UInt8) : Bool := match x with
  | [] => true
  | b :: _ => b == 35
/-- What is read of lines, the k-th first, behind some events. -/
noncomputable def readG : Nat → List (List UInt8) → List Evt → List Evt × Int
  | _, [], acc => (acc, 0)
  | k, x :: r, acc => if 5000 < k then ([], (k : Int)) else if skp x = true then readG (k + 1) r acc else if (readE x).2 = true then readG (k + 1) r (acc ++ [(readE x).1]) else ([], (k : Int))
noncomputable def readL (l : List UInt8) : List Evt × Int := readG 1 (lns l) []
def evC (e : Evt) : List Int := [e.k, e.w, e.o, e.n, e.c, e.y, e.a, e.b]
def evs : List Evt → List Int
  | [] => []
  | e :: r => evC e ++ evs r
theorem evs_app : ∀ (a b : List Evt), evs (a ++ b) = evs a ++ evs b
  | [], _ => rfl
  | e :: r, b => by simp only [List.cons_append, evs, evs_app r b, List.append_assoc]
-- THE TEXT OF AN EVENT AMONG LINES
/-- A script: the texts, a line each. -/
def scr : List Evt → List UInt8
  | [] => []
  | e :: r => evText e ++ 10 :: scr r
end Rd
end Go.Proofs.YtagdcclpibjfoaaDoor
end

/-
  Reading scripts (2): lines.Read of any text of at most 100,000 bytes whose lines have at most 10,000: what it answers, and the events that it hands out.
-/
section
namespace Go.Proofs.YtagdcclpibjfoaaDoor
open Go.Vm Txt
namespace Rd

theorem tup2 {ρ : Env} {a b : AVal} {x y : Value} (h1 : a.den ρ = some x) (h2 : b.den ρ = some y) : (AVal.tuple [a, b]).den ρ = some (.tuple #[x, y]) := by simp only [AVal.den, AVal.denL, h1, h2, Option.map_some]
theorem tup2x {ρ : Env} {a b : AVal} {y z : Value} (h : (AVal.tuple [a, b]).den ρ = some y) (h2 : b.den ρ = some z) : ∃ u, a.den ρ = some u ∧ y = .tuple #[u, z] := by
  simp only [AVal.den, AVal.denL, h2] at h
  cases hd : a.den ρ with
  | none => rw [hd] at h; cases h
  | some u =>
    rw [hd] at h
    simp only [Option.map_some, Option.some.injEq] at h
    exact ⟨u, rfl, h.symm⟩
theorem notD {ρ : Env} {t : BT} {b : Bool} (h : t.den ρ = some b) : (BT.not t).den ρ = some (!b) := by simp only [BT.den, h, Option.map_some]
theorem unD {ρ : Env} {k : Nat} {t u : IT} {x y : Int} (h : t.den ρ = some x) (g : u.den ρ = some y) : (IT.un k t u).den ρ = some (univ k x y) := by simp only [IT.den, h, g]
-- UNDER NAMES
def ks8 : List IntKind := [.i64, .i64, .i64, .i64, .i64, .i64, .i64, .i64]
def evRow (v : Value) (i : Nat) : Evt := ⟨selI v (i * 8 + 0), selI v (i * 8 + 1), selI v (i * 8 + 2), selI v (i * 8 + 3), selI v (i * 8 + 4), selI v (i * 8 + 5), selI v (i * 8 + 6), selI v (i * 8 + 7)⟩
/-- The named functions: a text's first line, what follows it, the event that it is; the text of a row's event. -/
noncomputable def FR (v : Value) (k : Nat) (x y : Int) : Int := match k with
  | 71 => encS (Txt.bytes (line (lb x)))
  | 72 => encS (Txt.bytes (rest (lb x)))
  | 73 => if (10 : UInt8) ∈ lb x then 1 else 0
  | 74 => (evC (readE (lb x)).1).getD y.toNat 0
  | 75 => if (readE (lb x)).2 = true then 1 else 0
  | 76 => encS (Txt.bytes (evText (evRow v x.toNat)))
  | _ => 0
theorem cut103n (w : World) (hm : MaxW w) (s : ByteArray) (h : s.size ≤ 100000) : Calls Tryd.prog 103 #[.string s, .string (Txt.bytes [10])] w (fun e w' => e = .returned (.tuple #[.string (Txt.bytes (line s.data.toList)), .string (Txt.bytes (rest s.data.toList)), .bool (decide ((10 : UInt8) ∈ s.data.toList))]) ∧ Framed w w') := by
  obtain ⟨m, hm⟩ := hm
  refine (Tryd.strings_Cut s (Txt.bytes [10]) m w (by omega) hm).mono fun e w' ⟨he, n, hw⟩ => ⟨?_, by rw [hw]; exact framed_drew' w n⟩
  rw [he, bytes_toList, cut10]; rfl
def lnT (s : ST) : ST := .dec (.fn 71 s.toP (.lit 0))
def rsT (s : ST) : ST := .dec (.fn 72 s.toP (.lit 0))
def nlT (s : ST) : BT := .cmp .eql (.fn 73 (.scode s) (.lit 0)) (.lit 1)
def evT (s : ST) : List AVal := ([0, 1, 2, 3, 4, 5, 6, 7] : List Int).map fun j => .int .i64 (.fn 74 (.scode s) (.lit j))
def okT (s : ST) : BT := .cmp .eql (.fn 75 (.scode s) (.lit 0)) (.lit 1)
section
variable {ρ : Env} {v : Value} (hF : ρ.F = FR v) (s : ST)
include hF
theorem lnT_den : (lnT s).den ρ = Txt.bytes (line (s.den ρ).data.toList) := by
  show decS (ρ.F 71 (s.toP.den ρ) 0) = _
  rw [ST.toP_den, hF]
  show decS (encS (Txt.bytes (line (lb (encS (s.den ρ)))))) = _
  rw [lb_enc, decS_encS]
theorem rsT_den : (rsT s).den ρ = Txt.bytes (rest (s.den ρ).data.toList) := by
  show decS (ρ.F 72 (s.toP.den ρ) 0) = _
  rw [ST.toP_den, hF]
  show decS (encS (Txt.bytes (rest (lb (encS (s.den ρ)))))) = _
  rw [lb_enc, decS_encS]
theorem nlT_den : (nlT s).den ρ = some (decide ((10 : UInt8) ∈ (s.den ρ).data.toList)) := by
  show some ((ρ.F 73 (encS (s.den ρ)) 0) == 1) = _
  rw [hF]
  show some ((if (10 : UInt8) ∈ lb (encS (s.den ρ)) then (1 : Int) else 0) == 1) = _
  rw [lb_enc]
  by_cases h2 : (10 : UInt8) ∈ (s.den ρ).data.toList
  · rw [if_pos h2, decide_eq_true h2]; rfl
  · rw [if_neg h2, decide_eq_false h2]; rfl
theorem ev_den (j : Int) : (IT.fn 74 (.scode s) (.lit j)).den ρ = some ((evC (readE (s.den ρ).data.toList).1).getD j.toNat 0) := by
  show some (ρ.F 74 (encS (s.den ρ)) j) = _
  rw [hF]
  show some ((evC (readE (lb (encS (s.den ρ)))).1).getD j.toNat 0) = _
  rw [lb_enc]
theorem evT_den : (AVal.agg (evT s)).den ρ = some (evV (readE (s.den ρ).data.toList).1) := by
  simp only [evT, List.map_cons, List.map_nil, AVal.den, AVal.denL, ev_den hF, Option.map_some]
  rfl
theorem okT_den : (okT s).den ρ = some (readE (s.den ρ).data.toList).2 := by
  show some ((ρ.F 75 (encS (s.den ρ)) 0) == 1) = _
  rw [hF]
  show some ((if (readE (lb (encS (s.den ρ)))).2 = true then (1 : Int) else 0) == 1) = _
  rw [lb_enc]
  cases (readE (s.den ρ).data.toList).2 <;> rfl
end
def spCutN : SpG := fun args H nl cs => match args with
  | [.str s, .str (.lit [10])] => cond (sureL cs s 100000) (some [.ret (.tuple [.str (lnT s), .str (rsT s), .bool (nlT s)]) H nl cs]) none
  | _ => none
def spPrN : SpG := fun args H nl cs => match args with
  | [.str s] => cond (sureL cs s 10000) (some [.ret (.tuple [.agg (evT s), .bool (okT s)]) H nl cs]) none
  | _ => none
theorem spCutN_ok {β : Base} {v : Value} (hG : ∀ I B S V F, β.G I B S V F → F = FR v) (hown : β.own = []) (hM : MaxW β.w0) : SpGOk Tryd.prog β 103 spCutN := by
  intro args H nl cs ls ρ w xs hr hx hh hc
  unfold spCutN at hr
  split at hr
  rotate_left
  · cases hr
  rename_i s
  cases hb : sureL cs s 100000 with
  | false => rw [hb] at hr; cases hr
  | true =>
    rw [hb] at hr; cases hr
    have hle := sureL_ok hb hc
    have hF : ρ.F = FR v := hG _ _ _ _ _ hh.g
    simp only [AVal.denL, AVal.den, Option.some.injEq] at hx
    subst hx
    refine spV_ok (cut103n w (by obtain ⟨m, hm⟩ := hM; exact ⟨m, cell_of' hm hown hh⟩) (s.den ρ) (by omega)) ?_ hh hc
    simp only [AVal.den, AVal.denL, lnT_den hF, rsT_den hF, nlT_den hF, Option.map_some]
theorem spPrN_ok {β : Base} {v : Value} (hG : ∀ I B S V F, β.G I B S V F → F = FR v) (hown : β.own = []) (hT : TabW β.w0) (hM : MaxW β.w0) (hE : ErrW β.w0) : SpGOk Tryd.prog β 63 spPrN := by
  intro args H nl cs ls ρ w xs hr hx hh hc
  unfold spPrN at hr
  split at hr
  rotate_left
  · cases hr
  rename_i s
  cases hb : sureL cs s 10000 with
  | false => rw [hb] at hr; cases hr
  | true =>
    rw [hb] at hr; cases hr
    have hle := sureL_ok hb hc
    have hF : ρ.F = FR v := hG _ _ _ _ _ hh.g
    simp only [AVal.denL, AVal.den, Option.some.injEq] at hx
    subst hx
    refine spV_ok (parse63a w (TabW.of hT hown hh) (by obtain ⟨m, hm⟩ := hM; exact ⟨m, cell_of' hm hown hh⟩) (ErrW.of hE hown hh) (s.den ρ) (by omega)) ?_ hh hc
    rw [readV_eq]
    have e1 := evT_den hF s
    have e2 : (AVal.bool (okT s)).den ρ = some (.bool (readE (s.den ρ).data.toList).2) := by
      simp only [AVal.den, okT_den hF, Option.map_some]
    exact tup2 e1 e2
-- THE WALK
def iV (k : Nat) : AVal := .int .i64 (.var k)
def at1 : AVal := .slice 2 (.lit 0) (.var 3) (.nv 1)
def HA : Nat × HB := (2, ⟨.arr (.code ks8 (.var 2)) ks8 77 (.var 3) (.lit 0) (some (.nv 1)), true⟩)
def csA : Cs := [(.cmp .leq (.slen (.var 0)) (.lit 100000), true), (.cmp .geq (.var 5) (.lit 1), true), (.cmp .leq (.var 5) (.lit 5001), true)]
def csB : Cs := csA ++ [(.cmp .geq (.var 3) (.lit 1), true), (.cmp .leq (.var 3) (.lit 5000), true)]
def R0 : Tpl := ⟨[(0, .str (.var 0)), (2, .sliceNil), (3, .int .i64 (.lit 0)), (4, .sliceNil), (5, iV 5)], 47, [], 1, csA, 4⟩
def R1 : Tpl := ⟨[(0, .str (.var 0)), (2, .sliceNil), (3, .int .i64 (.lit 0)), (4, at1), (5, iV 5)], 47, [HA], 3, csB, 4⟩
def E0 : Tpl := ⟨[(0, .tuple [.sliceNil, iV 5])], 1, [], 1, [], 0⟩
def E1 : Tpl := ⟨[(0, .tuple [at1, iV 5])], 1, [HA], 3, [], 0⟩
def gR : Gen := ⟨10, 0, 1, 0⟩
def lT : ST := lnT (.var 0)
def fS (b : Bool) : Cs := [(.not (.seq (.var 0) (.lit [])), b)]
def fB (b : Bool) : Cs := [(.cmp .gtr (.var 5) (.lit 5000), b)]
def fE (b : Bool) : Cs := [(.seq lT (.lit []), b)]
def fL : Cs := [(.cmp .leq (.slen lT) (.lit 10000), true), (.cmp .geq (.lit 0) (.lit 0), true), (.cmp .lss (.lit 0) (.slen lT), true)]
def fH (b : Bool) : Cs := [(.cmp .eql (.un 0 (.scode lT) (.lit 0)) (.lit 35), b)]
def fO (b : Bool) : Cs := [(.not (okT lT), b)]
def fN : Cs := [(.cmp .leq (.var 3) (.lit 1000000), true)]
def w1 : Cs := fS true ++ fB true
def w2 : Cs := fS true ++ fB false ++ fE true
def w3 : Cs := fS true ++ fB false ++ fE false ++ fL ++ fH true
def w4 : Cs := fS true ++ fB false ++ fE false ++ fL ++ fH false ++ fO true
def w5 : Cs := fS true ++ fB false ++ fE false ++ fL ++ fH false ++ fO false
def w6 : Cs := fS false
noncomputable def lb0 : Code := ((loopsOf (Tryd.f69.body.getD .ret) []).getD 0 (.ret, [])).1
noncomputable def lk0 : List Item := ((loopsOf (Tryd.f69.body.getD .ret) []).getD 0 (.ret, [])).2
def sp69 : CallF := spL [(103, spCutN), (63, spPrN)]
noncomputable def RunT (T : Tpl) (c : Cs) (l : LM) : Prop := (run Tryd.prog [(127, .same)] sp69 4000 true 69 ((⟨T.tm, T.nt, T.H, T.nl, c ++ T.cs, T.dep⟩ : Tpl).st (.code lb0 :: .inLoop lb0 :: lk0))).map (·.filterMap (sumMO gR [] [E0, E1] [R1, R0])) = some [l]
def up5 : IT := .bin .add .i64 (.var 5) (.lit 1)
def app8 (c : IT) : IT := ([0, 1, 2, 3, 4, 5, 6, 7] : List Int).foldl (fun t j => .un 3 t (.fn 74 (.scode lT) (.lit j))) c
def s0 : Sub := ⟨[(5, up5)], [], [(0, rsT (.var 0))], [], []⟩
def s1 : Sub := ⟨[(3, .var 3), (5, up5), (2, .var 2)], [], [(0, rsT (.var 0))], [], [(2, 2), (1, 1)]⟩
def a0 : Sub := ⟨[(3, .lit 1), (5, up5), (2, app8 (.lit 0))], [], [(0, rsT (.var 0))], [], [(2, 4), (1, 3)]⟩
def a1 : Sub := ⟨[(3, .bin .add .i64 (.var 3) (.lit 1)), (5, up5), (2, app8 (.var 2))], [], [(0, rsT (.var 0))], [], [(2, 6), (1, 5)]⟩
theorem rE : (run Tryd.prog [(127, .same)] sp69 4000 true 69 (entry Tryd.f69 (Tryd.f69.body.getD .ret) [.str (.var 0)] .leaf 0 [(.cmp .leq (.slen (.var 0)) (.lit 100000), true)])).map (·.filterMap (sumMO gR [] [E0, E1] [R1, R0])) = some [.next 1 (.code (.loop lb0) :: lk0) [(.cmp .leq (.slen (.var 0)) (.lit 100000), true)] ⟨[(5, .lit 1)], [], [(0, .var 0)], [], []⟩] := by kernel_rfl
theorem r01 : RunT R0 w1 (.done 0 (w1 ++ csA) ⟨[(5, .var 5)], [], [], [], []⟩) := by unfold RunT; kernel_rfl
theorem r11 : RunT R1 w1 (.done 0 (w1 ++ csB) ⟨[(5, .var 5)], [], [], [], []⟩) := by unfold RunT; kernel_rfl
theorem r02 : RunT R0 w2 (.next 1 (.inLoop lb0 :: lk0) (w2 ++ csA) s0) := by unfold RunT; kernel_rfl
theorem r12 : RunT R1 w2 (.next 0 (.inLoop lb0 :: lk0) (w2 ++ csB) s1) := by unfold RunT; kernel_rfl
theorem r03 : RunT R0 w3 (.next 1 (.inLoop lb0 :: lk0) (w3 ++ csA) s0) := by unfold RunT; kernel_rfl
theorem r13 : RunT R1 w3 (.next 0 (.inLoop lb0 :: lk0) (w3 ++ csB) s1) := by unfold RunT; kernel_rfl
theorem r04 : RunT R0 w4 (.done 0 (w4 ++ csA) ⟨[(5, .var 5)], [], [], [], []⟩) := by unfold RunT; kernel_rfl
theorem r14 : RunT R1 w4 (.done 0 (w4 ++ csB) ⟨[(5, .var 5)], [], [], [], []⟩) := by unfold RunT; kernel_rfl
theorem r05 : RunT R0 w5 (.next 0 (.inLoop lb0 :: lk0) (w5 ++ csA) a0) := by unfold RunT; kernel_rfl
theorem r15 : RunT R1 (w5 ++ fN) (.next 0 (.inLoop lb0 :: lk0) ((w5 ++ fN) ++ csB) a1) := by unfold RunT; kernel_rfl
theorem r06 : RunT R0 w6 (.done 0 (w6 ++ csA) ⟨[(5, .lit 0)], [], [], [], []⟩) := by unfold RunT; kernel_rfl
theorem r16 : RunT R1 w6 (.done 1 (w6 ++ csB) ⟨[(3, .var 3), (5, .lit 0), (2, .var 2)], [], [], [], [(2, 2), (1, 1)]⟩) := by unfold RunT; kernel_rfl
end Rd
end Go.Proofs.YtagdcclpibjfoaaDoor
end
