/-
  Ranks (6): RankOrders answers true.
-/
import Derived.Test.YtglghnfbkiondaaDoorRk2
import Derived.Test.YtglghnfbkiondaaDoorRk4
import Derived.Test.YtglghnfbkiondaaDoorRk5
namespace Go.Proofs.YtglghnfbkiondaaDoor
open Go.Vm Go.Vm.Rk
namespace Rk

/-- The law's row is made of numbers that there are. -/
def GL : GP := fun I B S V F => GR I B S V F ∧ ∀ v ∈ decL (I 5), Ran v
theorem intsAt_of {β : Base} {ρ : Env} {H : Heap} {nl : Nat} {w : World} (hh : HRel β ρ H nl w) {l : Nat} {c n off q : IT} {el : TypeId} {cp : Option IT} {rw : Bool} (h : H.get l = some ⟨.arr (.code [.i64] c) [.i64] el n off cp, rw⟩) {sv : Value} (hs : (AVal.slice l off n q).den ρ = some sv) :
    ∃ b o cap xv, sv = .slice (some ⟨b, o, none⟩) (decL xv).length cap ∧ c.den ρ = some xv ∧ n.den ρ = some ((decL xv).length : Int) ∧ IntsAt w b o (decL xv) := by
  obtain ⟨b, o, N, cap, rfl, hN, ho, hn, _⟩ := den_slice hs
  obtain ⟨b', ob, hb', hob, ys, c0, fr, el', m, st, rfl, _, hd, hst, ⟨hsz, hp⟩, hn', hty, _⟩ := hh.blk l _ h
  rw [hN] at hb'; cases hb'
  have e1 : m = N := by have := hn'.symm.trans hn; exact Int.ofNat.inj (Option.some.inj this)
  have e2 : st = o := by have := hst.symm.trans ho; exact Int.ofNat.inj (Option.some.inj this)
  subst e1; subst e2
  simp only [AT.den] at hd
  cases hcd : c.den ρ with
  | none => rw [hcd] at hd; cases hd
  | some xv =>
    rw [hcd, Option.map_some, Option.some.injEq] at hd
    subst hd
    have hlen : (decL xv).length = m := by have := hty.1; rw [rowOf_length] at this; simpa using this
    subst hlen
    exact ⟨b, st, cap, xv, rfl, rfl, hn, c0, fr, el', hob, hsz, by rw [← rowOf1]; exact hp⟩
def fnT (k : Nat) (c : IT) : IT := .fn k c (.lit 0)
def okRow (cs : Cs) (ks ks' : List IntKind) (n n0 off off0 : IT) : Bool := decide (ks = [.i64]) && decide (ks' = [.i64]) && IT.beq n n0 && IT.beq off off0 && sureC cs (.cmp .geq n (.lit 1)) && sureC cs (.cmp .leq n (.lit 300))
def spOf : SpG := fun args H nl cs => match args with
  | [.slice l off n _] => match H.get l with
    | some ⟨.arr (.code ks c) ks' _ n0 off0 _, _⟩ => cond (okRow cs ks ks' n n0 off off0)
      (some [.ret (.agg [.int .i64 n, .int .i64 (fnT 41 c), .int .i64 (fnT 42 c), .int .i64 (fnT 43 c), .int .i64 (fnT 44 c), .int .i64 (fnT 45 c)]) H nl cs]) none
    | _ => none
  | _ => none
def spCls : SpG := fun args H nl cs => match args with
  | [.slice l off n _] => match H.get l with
    | some ⟨.arr (.code ks c) ks' _ n0 off0 _, _⟩ => cond (okRow cs ks ks' n n0 off off0 && IT.beq c (.var 5))
      (some [.ret (.slice (nl + 1) (.lit 0) (fnT 47 c) (.nv nl)) (H.set (nl + 1) ⟨.arr (.code [.i64] (fnT 46 c)) [.i64] 3 (fnT 47 c) (.lit 0) (some (.nv nl)), true⟩) (nl + 2) cs]) none
    | _ => none
  | _ => none
theorem okRow_ok {ρ : Env} {cs : Cs} {ks ks' : List IntKind} {n n0 off off0 : IT} {m : Nat} (h : okRow cs ks ks' n n0 off off0 = true) (hc : CRel ρ cs) (hn : n.den ρ = some (m : Int)) : ks = [.i64] ∧ ks' = [.i64] ∧ n = n0 ∧ off = off0 ∧ 1 ≤ m ∧ m ≤ 300 := by
  simp only [okRow, Bool.and_eq_true, decide_eq_true_eq] at h
  obtain ⟨⟨⟨⟨⟨q1, q2⟩, q3⟩, q4⟩, q5⟩, q6⟩ := h
  have h1 := sureC_ok q5 hc
  have h2 := sureC_ok q6 hc
  rw [cmpD hn (litD 1)] at h1
  rw [cmpD hn (litD 300)] at h2
  simp only [intCmp, Option.some.injEq, decide_eq_true_eq] at h1 h2
  exact ⟨q1, q2, IT.beq_eq q3, IT.beq_eq q4, by omega, by omega⟩
theorem okRow_eq {cs : Cs} {ks ks' : List IntKind} {n n0 off off0 : IT} (h : okRow cs ks ks' n n0 off off0 = true) : ks = [.i64] ∧ ks' = [.i64] ∧ n = n0 ∧ off = off0 := by
  simp only [okRow, Bool.and_eq_true, decide_eq_true_eq] at h
  obtain ⟨⟨⟨⟨⟨q1, q2⟩, q3⟩, q4⟩, _⟩, _⟩ := h
  exact ⟨q1, q2, IT.beq_eq q3, IT.beq_eq q4⟩
theorem spOf_ok {β : Base} (hG : ∀ I B S V F, β.G I B S V F → GR I B S V F) : SpGOk Tryd.prog β 8 spOf := by
  intro args H nl cs ls ρ w xs hr hx hh hc
  unfold spOf at hr
  split at hr
  rotate_left
  · cases hr
  rename_i l off n q
  split at hr
  rotate_left
  · cases hr
  rename_i ks c ks' el n0 off0 cp rw hg
  cases hb : okRow cs ks ks' n n0 off off0 with
  | false => rw [hb] at hr; cases hr
  | true =>
    rw [hb] at hr; cases hr
    obtain ⟨rfl, rfl, rfl, rfl⟩ := okRow_eq hb
    cases hs : (AVal.slice l off n q).den ρ with
    | none => simp only [AVal.denL, hs] at hx; cases hx
    | some sv =>
      obtain ⟨b, o, cap, xv, rfl, hcd, hn, hi⟩ := intsAt_of hh hg hs
      obtain rfl := Option.some.inj ((denL1 hs).symm.trans hx)
      obtain ⟨_, _, _, _, h1, h3⟩ := okRow_ok hb hc hn
      obtain ⟨g40, g41, g42, g43, g44, g45, _⟩ := hG _ _ _ _ _ hh.g
      have d1 : (fnT 41 c).den ρ = some (least (decL xv)) := by rw [fnT, fnD hcd (litD 0), g41]
      have d2 : (fnT 42 c).den ρ = some (most (decL xv)) := by rw [fnT, fnD hcd (litD 0), g42]
      have d3 : (fnT 43 c).den ρ = some (sumW (decL xv) (decL xv).length) := by rw [fnT, fnD hcd (litD 0), g43]
      have d4 : (fnT 44 c).den ρ = some (mid (decL xv)) := by rw [fnT, fnD hcd (litD 0), g44]
      have d5 : (fnT 45 c).den ρ = some (late (decL xv)) := by rw [fnT, fnD hcd (litD 0), g45]
      exact spV_ok (of8 (q := cap) hi h1 h3) (by simp only [AVal.den, AVal.denL, hn, d1, d2, d3, d4, d5, Option.map_some]; rfl) hh hc
theorem spCls_ok {β : Base} (hG : ∀ I B S V F, β.G I B S V F → GL I B S V F) : SpGOk Tryd.prog β 7 spCls := by
  intro args H nl cs ls ρ w xs hr hx hh hc
  unfold spCls at hr
  split at hr
  rotate_left
  · cases hr
  rename_i l off n q
  split at hr
  rotate_left
  · cases hr
  rename_i ks c ks' el n0 off0 cp rw hg
  cases hb : (okRow cs ks ks' n n0 off off0 && IT.beq c (.var 5)) with
  | false => rw [hb] at hr; cases hr
  | true =>
    rw [hb] at hr; cases hr
    rw [Bool.and_eq_true] at hb
    obtain ⟨hb, hb2⟩ := hb
    obtain ⟨rfl, rfl, rfl, rfl⟩ := okRow_eq hb
    obtain rfl := IT.beq_eq hb2
    cases hs : (AVal.slice l off n q).den ρ with
    | none => simp only [AVal.denL, hs] at hx; cases hx
    | some sv =>
      obtain ⟨b, o, cap, xv, rfl, hcd, hn, hi⟩ := intsAt_of hh hg hs
      obtain rfl := Option.some.inj ((denL1 hs).symm.trans hx)
      obtain ⟨_, _, _, _, h1, h3⟩ := okRow_ok hb hc hn
      obtain ⟨⟨_, _, _, _, _, _, g46, g47, _⟩, hR⟩ := hG _ _ _ _ _ hh.g
      obtain rfl : ρ.I 5 = xv := Option.some.inj hcd
      have d6 : (fnT 46 (.var 5)).den ρ = some (encL (clsL (decL (ρ.I 5)) (decL (ρ.I 5)).length)) := by rw [fnT, fnD hcd (litD 0), g46]
      have d7 : (fnT 47 (.var 5)).den ρ = some ((clsL (decL (ρ.I 5)) (decL (ρ.I 5)).length).length : Int) := by rw [fnT, fnD hcd (litD 0), g47]
      refine (classes7 (q := cap) hi h1 h3 hR).mono fun e w' ⟨v, he, ro⟩ => ?_
      obtain ⟨ρ', hle, hd', hr'⟩ := row_in hh ro d7 d6
      exact ⟨v, he, _, _, _, _, ρ', List.mem_cons_self, hle, hd', hr', hc.mono hle⟩
-- THE LAW
def x5 : IT := .var 5
def rB : HB := ⟨.cells [iV 6, .int .i64 (fnT 41 x5), .int .i64 (fnT 42 x5), .int .i64 (fnT 43 x5), .int .i64 (fnT 44 x5), .int .i64 (fnT 45 x5)] 26 none, true⟩
def cB : HB := ⟨.arr (.code [.i64] (fnT 46 x5)) [.i64] 3 (fnT 47 x5) (.lit 0) (some (.nv 16)), true⟩
def csC : Cs := [(.cmp .geq (fnT 47 x5) (.lit 0), true), (.cmp .leq (fnT 47 x5) (.lit 70), true), (.cmp .geq at0 (.lit 0), true), (.cmp .leq at0 (fnT 47 x5), true)] ++ csN
def T1 : Tpl := ⟨[(0, sL), (3, .ptr 14 (.lit 0)), (4, iV 13), (18, .slice 17 (.lit 0) (fnT 47 x5) (.nv 16)), (19, .int .i64 (fnT 47 x5)), (20, iV 9)], 98, roH [hL] ++ [(14, rB), (17, cB)], 30, csC, 3⟩
def T2 : Tpl := ⟨[(0, sL), (3, .ptr 14 (.lit 0)), (4, iV 13), (7, iV 15), (28, sL), (29, iV 6), (30, iV 9)], 98, roH [hL] ++ [(14, rB)], 40, csI, 3⟩
def spA : CallF := spL [(6, spTrue), (7, spCls), (8, spOf)]
theorem spA_ok {w : World} : CallOk Tryd.prog ⟨w, [], GL⟩ spA := spL_ok fun p hp => by
  simp only [List.mem_cons, List.not_mem_nil, or_false] at hp
  rcases hp with rfl | rfl | rfl
  · exact spTrue_ok first6
  · exact spCls_ok fun _ _ _ _ _ h => h
  · exact spOf_ok fun _ _ _ _ _ h => h.1
noncomputable def b50 : Code := ((loopsOf (Tryd.f5.body.getD .ret) []).getD 0 (.ret, [])).1
noncomputable def k50 : List Item := ((loopsOf (Tryd.f5.body.getD .ret) []).getD 0 (.ret, [])).2
noncomputable def b51 : Code := ((loopsOf (Tryd.f5.body.getD .ret) []).getD 1 (.ret, [])).1
noncomputable def k51 : List Item := ((loopsOf (Tryd.f5.body.getD .ret) []).getD 1 (.ret, [])).2
noncomputable def RunA (T : Tpl) (b : Code) (k : List Item) (Ts : List Tpl) (c : Cs) (l : LS) : Prop := (run Tryd.prog [] spA 4000 true 5 ((⟨T.tm, T.nt, T.H, T.nl, c ++ T.cs, T.dep⟩ : Tpl).st (.code b :: .inLoop b :: k))).map (·.filterMap (sumD gM Ts)) = some [l]
def fC (b : Bool) : Cs := [(.cmp .lss at0 (fnT 47 x5), b)]
def eT : IT := .un 0 x5 (.elem (.lit 0) 1 0 at0)
def ok2 : Cs := fI true ++ [(.cmp .lss eT (fnT 41 x5), false), (.cmp .gtr eT (fnT 42 x5), false)]
def fE (a : Bool) : Cs := ok2 ++ [(.cmp .eql eT (fnT 44 x5), a)]
def fE2 (b : Bool) : Cs := fE false ++ [(.cmp .eql eT (fnT 45 x5), b)]
def fEnd : Cs := fI false ++ [(.cmp .leq (fnT 41 x5) (fnT 44 x5), true), (.cmp .leq (fnT 44 x5) (fnT 45 x5), true), (.cmp .leq (fnT 45 x5) (fnT 42 x5), true), (.cmp .eql (.var 13) (.var 6), true), (.cmp .gtr (.var 15) (.lit 0), true)]
def addC : IT := .bin .add .i64 (.var 13) (.un 0 (fnT 46 x5) (.elem (.lit 0) 1 0 at0))
def sgA0 : Sub := ⟨[(6, .var 6), (13, .lit 0), (5, .var 5), (9, .lit 0)], [], [], [], [(0, 0), (14, 10), (17, 12), (16, 11)]⟩
def sgA1 : Sub := ⟨[(6, .var 6), (13, addC), (5, .var 5), (9, upI 9)], [], [], [], [(0, 0), (14, 14), (17, 17), (16, 16)]⟩
def sgA2 : Sub := ⟨[(6, .var 6), (13, .var 13), (15, .lit 0), (9, .lit 0), (5, .var 5)], [], [], [], [(0, 0), (14, 14)]⟩
def sgA3 (t : IT) : Sub := ⟨[(6, .var 6), (13, .var 13), (15, t), (9, upI 9), (5, .var 5)], [], [], [], [(0, 0), (14, 14)]⟩
theorem a_in : (run Tryd.prog [] spA 4000 true 5 (entry Tryd.f5 (Tryd.f5.body.getD .ret) [sL] (ofP (roH [hL])) 10 csN)).map (·.filterMap (sumD gM [T1])) = some [.next 0 (.code (.loop b50) :: k50) [] sgA0] := by kernel_rfl
theorem a_1 : RunA T1 b50 k50 [T1] (fC true) (.next 0 (.inLoop b50 :: k50) [] sgA1) := by unfold RunA; kernel_rfl
theorem a_1e : RunA T1 b50 k50 [T2] (fC false) (.next 0 (.code (.loop b51) :: k51) [] sgA2) := by unfold RunA; kernel_rfl
theorem a_2a : RunA T2 b51 k51 [T2] (fE true) (.next 0 (.inLoop b51 :: k51) [] (sgA3 (upI 15))) := by unfold RunA; kernel_rfl
theorem a_2b : RunA T2 b51 k51 [T2] (fE2 true) (.next 0 (.inLoop b51 :: k51) [] (sgA3 (upI 15))) := by unfold RunA; kernel_rfl
theorem a_2c : RunA T2 b51 k51 [T2] (fE2 false) (.next 0 (.inLoop b51 :: k51) [] (sgA3 (.var 15))) := by unfold RunA; kernel_rfl
theorem a_2e : RunA T2 b51 k51 [T2] fEnd (.ret (.bool (.lit true)) []) := by unfold RunA; kernel_rfl
noncomputable def AllT (args : List AVal) (H : Heap) (cs : Cs) : Prop := (run Tryd.prog [] spA 4000 false 5 (entry Tryd.f5 (Tryd.f5.body.getD .ret) args H 10 cs)).map (·.all (leafB (.lit true))) = some true
def sZ : AVal := .slice 0 (.var 62) (.lit 0) (.var 63)
theorem a_300 : AllT [sL] (ofP (roH [hL])) [(.cmp .gtr (.var 6) (.lit 300), true)] := by unfold AllT; kernel_rfl
theorem a_nil : AllT [.sliceNil] .leaf [] := by unfold AllT; kernel_rfl
theorem a_zero : AllT [sZ] .leaf [] := by unfold AllT; kernel_rfl
end Rk
end Go.Proofs.YtglghnfbkiondaaDoor
