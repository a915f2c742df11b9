/-
  HistoryTells (4): the law's walk.
-/
import Derived.Test.YtagdcclpibjfoaaDoorHt3
import Derived.Test.YtagdcclpibjfoaaDoorHo1
namespace Go.Proofs.YtagdcclpibjfoaaDoor
open Go.Vm Txt
namespace Ht

-- WHAT IS KNOWN OF THE FUNCTIONS, UPON THE ROW
def spInv : SpG := fun args H nl cs => match args with
  | [x] => match rowArg H x 0 ksR with
    | some (.var 10) => some [.ret .sliceNil H nl ((.cmp .eql (.var 23) (.lit 0), true) :: cs), .ret (.slice (nl + 1) (.lit 0) (.var 23) (.nv nl)) (H.set (nl + 1) ⟨.arr (.code [.i64] (.var 22)) [.i64] 3 (.var 23) (.lit 0) (some (.nv nl)), true⟩) (nl + 2) ((.cmp .eql (.var 23) (.lit 0), false) :: cs)]
    | _ => none
  | _ => none
def spRep : SpG := fun args H nl cs => match args with
  | [x] => match rowArg H x 0 ksR with
    | some (.var 10) => some [.ret (.str (.var 1)) H nl cs]
    | _ => none
  | _ => none
def spLon : SpG := fun args H nl cs => match args with
  | [x, .int .i64 (.var 21)] => match rowArg H x 0 ksR with
    | some (.var 10) => some [.ret (.int .i64 (.var 24)) H nl cs]
    | _ => none
  | _ => none
section
variable {w0 : World} {v : Value} {n : Nat} {kind : Int}
theorem row_arg {ρ : Env} {H : Heap} {nl : Nat} {w : World} {x : AVal} {xv : Value} (h : rowArg H x 0 ksR = some (.var 10)) (hx : x.den ρ = some xv) (hh : HRel (βH w0 v n kind) ρ H nl w) : ∃ b o cap : Nat, xv = .slice (some ⟨b, o, none⟩) n cap ∧ RowAt w b o ksR n v := by
  obtain ⟨g1, g2, _⟩ : GH v n kind ρ.I ρ.B ρ.S ρ.V ρ.F := hh.g
  obtain ⟨b, o, m, cap, rfl, hm, hrow⟩ := rowArg_ok h hx hh
  have hmn : m = n := by
    have : ρ.I 10 = m := Option.some.inj hm
    rw [g2] at this; omega
  subst hmn
  rw [g1] at hrow
  exact ⟨b, o, cap, rfl, hrow⟩
theorem spInv_ok (hn : n ≤ 100) : SpGOk Tryd.prog (βH w0 v n kind) 25 spInv := by
  intro args H nl cs ls ρ w xs hr hx hh hc
  obtain ⟨g1, g2, g3, g4, g5, _⟩ : GH v n kind ρ.I ρ.B ρ.S ρ.V ρ.F := hh.g
  unfold spInv at hr
  split at hr
  rotate_left
  · cases hr
  rename_i x
  split at hr
  rotate_left
  · cases hr
  rename_i hra
  cases hr
  simp only [AVal.denL] at hx
  cases hxd : x.den ρ with
  | none => rw [hxd] at hx; cases hx
  | some xv =>
    rw [hxd] at hx; cases hx
    obtain ⟨b, o, cap, rfl, hrow⟩ := row_arg hra hxd hh
    refine (inv25 w v n b o cap hn hrow).mono fun e w' ⟨y, he, hR⟩ => ⟨y, he, ?_⟩
    rcases hR with ⟨h0, rfl, hf⟩ | ⟨hpos, ro⟩
    · refine ⟨.sliceNil, H, nl, _, ρ, List.mem_cons_self, Env.Le.refl ρ, rfl, hh.framed hf, CRel_cons.2 ⟨?_, hc⟩⟩
      simp only [BT.den, IT.den, g5, h0, intCmp]; rfl
    · obtain ⟨ρ', hle, hd, hr'⟩ := row_in hh ro (nT := .var 23) (c := .var 22) (congrArg some g5) (congrArg some g4)
      refine ⟨_, _, _, _, ρ', List.mem_cons_of_mem _ List.mem_cons_self, hle, hd, hr', CRel_cons.2 ⟨?_, hc.mono hle⟩⟩
      simp only [BT.den, IT.den, hle.i, g5, intCmp, Option.some.injEq, beq_eq_false_iff_ne]; omega
theorem spRep_ok (hv : RecIn v) (hT : TabW w0) (hn : n ≤ 100) : SpGOk Tryd.prog (βH w0 v n kind) 26 spRep := by
  intro args H nl cs ls ρ w xs hr hx hh hc
  obtain ⟨g1, g2, g3, g4, g5, g6, g7, _⟩ : GH v n kind ρ.I ρ.B ρ.S ρ.V ρ.F := hh.g
  unfold spRep at hr
  split at hr
  rotate_left
  · cases hr
  rename_i x
  split at hr
  rotate_left
  · cases hr
  rename_i hra
  cases hr
  simp only [AVal.denL] at hx
  cases hxd : x.den ρ with
  | none => rw [hxd] at hx; cases hx
  | some xv =>
    rw [hxd] at hx; cases hx
    obtain ⟨b, o, cap, rfl, hrow⟩ := row_arg hra hxd hh
    exact spV_ok (rep26 w v n b o cap hv (TabW.of hT rfl hh) hn hrow) (by simp only [AVal.den, ST.den, g7]) hh hc
theorem spLon_ok (hn : n ≤ maxN) : SpGOk Tryd.prog (βH w0 v n kind) 27 spLon := by
  intro args H nl cs ls ρ w xs hr hx hh hc
  obtain ⟨g1, g2, g3, g4, g5, g6, g7, _⟩ : GH v n kind ρ.I ρ.B ρ.S ρ.V ρ.F := hh.g
  unfold spLon at hr
  split at hr
  rotate_left
  · cases hr
  rename_i x
  split at hr
  rotate_left
  · cases hr
  rename_i hra
  cases hr
  simp only [AVal.denL, AVal.den, IT.den, Option.map_some, g3] at hx
  cases hxd : x.den ρ with
  | none => rw [hxd] at hx; cases hx
  | some xv =>
    rw [hxd] at hx; cases hx
    obtain ⟨b, o, cap, rfl, hrow⟩ := row_arg hra hxd hh
    exact spV_ok (long27 w v n b o cap kind hn hrow) (by simp only [AVal.den, IT.den, g6, Option.map_some]) hh hc
end
def spLaw : CallF := spL [(16, spTrue), (17, spRec), (18, spRec), (19, spA (rec1 tEnd)), (20, spA (rec1 tEnd)), (21, spA (rec1 tRef)), (22, spA (rec1 tRef)), (23, spA (rec2 tAhd)), (24, spA (rec2 tAhd)), (25, spInv), (26, spRep), (27, spLon)]
theorem spLaw_ok (w0 : World) (v : Value) (n : Nat) (kind : Int) (hv : RecIn v) (hT : TabW w0) (hn : n ≤ 100) : CallOk Tryd.prog (βH w0 v n kind) spLaw := by
  refine spL_ok fun p hp => ?_
  simp only [List.mem_cons, List.not_mem_nil, or_false] at hp
  rcases hp with rfl | rfl | rfl | rfl | rfl | rfl | rfl | rfl | rfl | rfl | rfl | rfl
  · exact spTrue_ok first27
  · exact spRec_ok hv fun w H nl ρ hh f z hf => recText17 w hf
  · exact spRec_ok hv fun w H nl ρ hh f z hf => recText18 w (TabW.of hT rfl hh) hf
  · exact spA_ok sp19_ok
  · exact spA_ok sp20_ok
  · exact spA_ok sp21_ok
  · exact spA_ok sp22_ok
  · exact spA_ok sp23_ok
  · exact spA_ok sp24_ok
  · exact spInv_ok hn
  · exact spRep_ok hv hT hn
  · exact spLon_ok (by simp only [maxN]; omega)

-- THE LAW
def csL : Cs := inCs 0 ++ [(.cmp .leq (.var 10) (.lit 100), true)]
def L0 (a : AVal) (hs : List (Nat × HB)) (nl : Nat) (cs : Cs) : Tpl := ⟨[(0, sl), (1, iI 21), (5, .str (.var 0)), (6, iI 1), (7, a), (17, sl), (18, nI), (19, iI 0)], 114, H0 ++ hs, nl, cs, 3⟩
def LA := L0 .sliceNil [] 1 csL
def LB := L0 at1 [HA 3] 3 (csL ++ [(.cmp .geq (.var 3) (.lit 1), true), (.cmp .leq (.var 3) (.lit 100), true), (.cmp .geq (.var 23) (.var 3), true)])
def L20 (a b : AVal) (n : IT) (hs : List (Nat × HB)) (nl : Nat) : Tpl := ⟨[(0, sl), (1, iI 21), (5, .str (.var 0)), (6, iI 1), (7, a), (10, b), (89, .int .i64 n), (90, iI 0)], 114, H0 ++ hs, nl, [(.cmp .geq (.var 0) (.lit 0), true), (.cmp .leq (.var 0) n, true)], 3⟩
def at2 : AVal := .slice 4 (.lit 0) (.var 23) (.nv 3)
def HB2 (e : Nat) : Nat × HB := (4, ⟨.arr (.code [.i64] (.var 22)) [.i64] e (.var 23) (.lit 0) (some (.nv 3)), true⟩)
def L2 := L20 .sliceNil .sliceNil (.lit 0) [] 1
def L3 := L20 at1 at2 (.var 3) [HA 3, HB2 3] 5
def Ls := [L3, L2, LB, LA]
noncomputable def lb0 : Code := ((loopsOf (Tryd.f3.body.getD .ret) []).getD 0 (.ret, [])).1
noncomputable def lk0 : List Item := ((loopsOf (Tryd.f3.body.getD .ret) []).getD 0 (.ret, [])).2
noncomputable def lb1 : Code := ((loopsOf (Tryd.f3.body.getD .ret) []).getD 1 (.ret, [])).1
noncomputable def lk1 : List Item := ((loopsOf (Tryd.f3.body.getD .ret) []).getD 1 (.ret, [])).2
noncomputable def sLawE : List LS := [.ret (.bool (.lit true)) [((.cmp .gtr (.var 10) (.lit 100)), true)],
  .next 3 (.code (.loop lb0) :: lk0) [((.cmp .gtr (.var 10) (.lit 100)), false)] ⟨[(1, (.lit 0)), (0, (.lit 0))], [], [(0, (.lit []))], [], [(0, 0)]⟩]
noncomputable def sLawA : List LS := [.next 2 (.inLoop lb0 :: lk0) [((.cmp .geq (.sel 0 16 8 (.var 0)) (.lit 0)), true), ((.cmp .eql (.sel 0 16 1 (.var 0)) (.var 21)), true), ((.cmp .eql (.sel 0 16 1 (.var 0)) (.lit 2)), true), ((.cmp .geq (.lit 0) (.lit 0)), true), ((.cmp .lss (.lit 0) (.var 10)), true), ((.cmp .leq (.slen (.cat (.var 0) (.cat (.fn 5 (.var 0) (.lit 0)) (.lit [10])))) (.lit 9223372036854775807)), true), ((.cmp .lss (.var 0) (.var 10)), true), ((.cmp .geq (.var 0) (.lit 0)), true), ((.cmp .leq (.var 0) (.var 10)), true), ((.cmp .leq (.var 10) (.lit 100)), true)] ⟨[(1, (.mx (.var 1) (.sel 0 16 12 (.var 0)))), (3, (.lit 1)), (0, (.bin .add .i64 (.var 0) (.lit 1))), (2, (.un 3 (.lit 0) (.var 0)))], [], [(0, (.cat (.var 0) (.cat (.fn 5 (.var 0) (.lit 0)) (.lit [10]))))], [], [(0, 0), (2, 4), (1, 3)]⟩,
  .next 2 (.inLoop lb0 :: lk0) [((.cmp .geq (.sel 0 16 8 (.var 0)) (.lit 0)), false), ((.cmp .eql (.sel 0 16 1 (.var 0)) (.var 21)), true), ((.cmp .eql (.sel 0 16 1 (.var 0)) (.lit 2)), true), ((.cmp .geq (.lit 0) (.lit 0)), true), ((.cmp .lss (.lit 0) (.var 10)), true), ((.cmp .leq (.slen (.cat (.var 0) (.cat (.fn 5 (.var 0) (.lit 0)) (.lit [10])))) (.lit 9223372036854775807)), true), ((.cmp .lss (.var 0) (.var 10)), true), ((.cmp .geq (.var 0) (.lit 0)), true), ((.cmp .leq (.var 0) (.var 10)), true), ((.cmp .leq (.var 10) (.lit 100)), true)] ⟨[(1, (.var 1)), (3, (.lit 1)), (0, (.bin .add .i64 (.var 0) (.lit 1))), (2, (.un 3 (.lit 0) (.var 0)))], [], [(0, (.cat (.var 0) (.cat (.fn 5 (.var 0) (.lit 0)) (.lit [10]))))], [], [(0, 0), (2, 4), (1, 3)]⟩,
  .next 2 (.inLoop lb0 :: lk0) [((.cmp .eql (.sel 0 16 1 (.var 0)) (.var 21)), false), ((.cmp .eql (.sel 0 16 1 (.var 0)) (.lit 2)), true), ((.cmp .geq (.lit 0) (.lit 0)), true), ((.cmp .lss (.lit 0) (.var 10)), true), ((.cmp .leq (.slen (.cat (.var 0) (.cat (.fn 5 (.var 0) (.lit 0)) (.lit [10])))) (.lit 9223372036854775807)), true), ((.cmp .lss (.var 0) (.var 10)), true), ((.cmp .geq (.var 0) (.lit 0)), true), ((.cmp .leq (.var 0) (.var 10)), true), ((.cmp .leq (.var 10) (.lit 100)), true)] ⟨[(1, (.var 1)), (3, (.lit 1)), (0, (.bin .add .i64 (.var 0) (.lit 1))), (2, (.un 3 (.lit 0) (.var 0)))], [], [(0, (.cat (.var 0) (.cat (.fn 5 (.var 0) (.lit 0)) (.lit [10]))))], [], [(0, 0), (2, 4), (1, 3)]⟩,
  .next 3 (.inLoop lb0 :: lk0) [((.cmp .geq (.sel 0 16 8 (.var 0)) (.lit 0)), true), ((.cmp .eql (.sel 0 16 1 (.var 0)) (.var 21)), true), ((.cmp .eql (.sel 0 16 1 (.var 0)) (.lit 2)), false), ((.cmp .geq (.lit 0) (.lit 0)), true), ((.cmp .lss (.lit 0) (.var 10)), true), ((.cmp .leq (.slen (.cat (.var 0) (.cat (.fn 5 (.var 0) (.lit 0)) (.lit [10])))) (.lit 9223372036854775807)), true), ((.cmp .lss (.var 0) (.var 10)), true), ((.cmp .geq (.var 0) (.lit 0)), true), ((.cmp .leq (.var 0) (.var 10)), true), ((.cmp .leq (.var 10) (.lit 100)), true)] ⟨[(1, (.mx (.var 1) (.sel 0 16 12 (.var 0)))), (0, (.bin .add .i64 (.var 0) (.lit 1)))], [], [(0, (.cat (.var 0) (.cat (.fn 5 (.var 0) (.lit 0)) (.lit [10]))))], [], [(0, 0)]⟩,
  .next 3 (.inLoop lb0 :: lk0) [((.cmp .geq (.sel 0 16 8 (.var 0)) (.lit 0)), false), ((.cmp .eql (.sel 0 16 1 (.var 0)) (.var 21)), true), ((.cmp .eql (.sel 0 16 1 (.var 0)) (.lit 2)), false), ((.cmp .geq (.lit 0) (.lit 0)), true), ((.cmp .lss (.lit 0) (.var 10)), true), ((.cmp .leq (.slen (.cat (.var 0) (.cat (.fn 5 (.var 0) (.lit 0)) (.lit [10])))) (.lit 9223372036854775807)), true), ((.cmp .lss (.var 0) (.var 10)), true), ((.cmp .geq (.var 0) (.lit 0)), true), ((.cmp .leq (.var 0) (.var 10)), true), ((.cmp .leq (.var 10) (.lit 100)), true)] ⟨[(1, (.var 1)), (0, (.bin .add .i64 (.var 0) (.lit 1)))], [], [(0, (.cat (.var 0) (.cat (.fn 5 (.var 0) (.lit 0)) (.lit [10]))))], [], [(0, 0)]⟩,
  .next 3 (.inLoop lb0 :: lk0) [((.cmp .eql (.sel 0 16 1 (.var 0)) (.var 21)), false), ((.cmp .eql (.sel 0 16 1 (.var 0)) (.lit 2)), false), ((.cmp .geq (.lit 0) (.lit 0)), true), ((.cmp .lss (.lit 0) (.var 10)), true), ((.cmp .leq (.slen (.cat (.var 0) (.cat (.fn 5 (.var 0) (.lit 0)) (.lit [10])))) (.lit 9223372036854775807)), true), ((.cmp .lss (.var 0) (.var 10)), true), ((.cmp .geq (.var 0) (.lit 0)), true), ((.cmp .leq (.var 0) (.var 10)), true), ((.cmp .leq (.var 10) (.lit 100)), true)] ⟨[(1, (.var 1)), (0, (.bin .add .i64 (.var 0) (.lit 1)))], [], [(0, (.cat (.var 0) (.cat (.fn 5 (.var 0) (.lit 0)) (.lit [10]))))], [], [(0, 0)]⟩,
  .stop [((.cmp .leq (.slen (.cat (.var 0) (.cat (.fn 5 (.var 0) (.lit 0)) (.lit [10])))) (.lit 9223372036854775807)), false), ((.cmp .lss (.var 0) (.var 10)), true), ((.cmp .geq (.var 0) (.lit 0)), true), ((.cmp .leq (.var 0) (.var 10)), true), ((.cmp .leq (.var 10) (.lit 100)), true)],
  .next 1 (.code (.loop lb1) :: lk1) [((.cmp .eql (.var 23) (.lit 0)), true), ((.cmp .lss (.var 0) (.var 10)), false), ((.cmp .geq (.var 0) (.lit 0)), true), ((.cmp .leq (.var 0) (.var 10)), true), ((.cmp .leq (.var 10) (.lit 100)), true)] ⟨[(1, (.var 1)), (0, (.lit 0))], [], [(0, (.var 0))], [], [(0, 0)]⟩,
  .ret (.bool (.lit false)) [((.cmp .neq (.var 23) (.lit 0)), true), ((.cmp .eql (.var 23) (.lit 0)), false), ((.cmp .lss (.var 0) (.var 10)), false), ((.cmp .geq (.var 0) (.lit 0)), true), ((.cmp .leq (.var 0) (.var 10)), true), ((.cmp .leq (.var 10) (.lit 100)), true)]]
noncomputable def sLawB : List LS := [.next 2 (.inLoop lb0 :: lk0) [((.cmp .geq (.sel 0 16 8 (.var 0)) (.lit 0)), true), ((.cmp .eql (.sel 0 16 1 (.var 0)) (.var 21)), true), ((.cmp .leq (.var 3) (.lit 1000000)), true), ((.cmp .eql (.sel 0 16 1 (.var 0)) (.lit 2)), true), ((.cmp .geq (.lit 0) (.lit 0)), true), ((.cmp .lss (.lit 0) (.var 10)), true), ((.cmp .leq (.slen (.cat (.var 0) (.cat (.fn 5 (.var 0) (.lit 0)) (.lit [10])))) (.lit 9223372036854775807)), true), ((.cmp .lss (.var 0) (.var 10)), true), ((.cmp .geq (.var 0) (.lit 0)), true), ((.cmp .leq (.var 0) (.var 10)), true), ((.cmp .leq (.var 10) (.lit 100)), true), ((.cmp .geq (.var 3) (.lit 1)), true), ((.cmp .leq (.var 3) (.lit 100)), true), ((.cmp .geq (.var 23) (.var 3)), true)] ⟨[(1, (.mx (.var 1) (.sel 0 16 12 (.var 0)))), (3, (.bin .add .i64 (.var 3) (.lit 1))), (0, (.bin .add .i64 (.var 0) (.lit 1))), (2, (.un 3 (.var 2) (.var 0)))], [], [(0, (.cat (.var 0) (.cat (.fn 5 (.var 0) (.lit 0)) (.lit [10]))))], [], [(0, 0), (2, 6), (1, 5)]⟩,
  .next 2 (.inLoop lb0 :: lk0) [((.cmp .geq (.sel 0 16 8 (.var 0)) (.lit 0)), false), ((.cmp .eql (.sel 0 16 1 (.var 0)) (.var 21)), true), ((.cmp .leq (.var 3) (.lit 1000000)), true), ((.cmp .eql (.sel 0 16 1 (.var 0)) (.lit 2)), true), ((.cmp .geq (.lit 0) (.lit 0)), true), ((.cmp .lss (.lit 0) (.var 10)), true), ((.cmp .leq (.slen (.cat (.var 0) (.cat (.fn 5 (.var 0) (.lit 0)) (.lit [10])))) (.lit 9223372036854775807)), true), ((.cmp .lss (.var 0) (.var 10)), true), ((.cmp .geq (.var 0) (.lit 0)), true), ((.cmp .leq (.var 0) (.var 10)), true), ((.cmp .leq (.var 10) (.lit 100)), true), ((.cmp .geq (.var 3) (.lit 1)), true), ((.cmp .leq (.var 3) (.lit 100)), true), ((.cmp .geq (.var 23) (.var 3)), true)] ⟨[(1, (.var 1)), (3, (.bin .add .i64 (.var 3) (.lit 1))), (0, (.bin .add .i64 (.var 0) (.lit 1))), (2, (.un 3 (.var 2) (.var 0)))], [], [(0, (.cat (.var 0) (.cat (.fn 5 (.var 0) (.lit 0)) (.lit [10]))))], [], [(0, 0), (2, 6), (1, 5)]⟩,
  .next 2 (.inLoop lb0 :: lk0) [((.cmp .eql (.sel 0 16 1 (.var 0)) (.var 21)), false), ((.cmp .leq (.var 3) (.lit 1000000)), true), ((.cmp .eql (.sel 0 16 1 (.var 0)) (.lit 2)), true), ((.cmp .geq (.lit 0) (.lit 0)), true), ((.cmp .lss (.lit 0) (.var 10)), true), ((.cmp .leq (.slen (.cat (.var 0) (.cat (.fn 5 (.var 0) (.lit 0)) (.lit [10])))) (.lit 9223372036854775807)), true), ((.cmp .lss (.var 0) (.var 10)), true), ((.cmp .geq (.var 0) (.lit 0)), true), ((.cmp .leq (.var 0) (.var 10)), true), ((.cmp .leq (.var 10) (.lit 100)), true), ((.cmp .geq (.var 3) (.lit 1)), true), ((.cmp .leq (.var 3) (.lit 100)), true), ((.cmp .geq (.var 23) (.var 3)), true)] ⟨[(1, (.var 1)), (3, (.bin .add .i64 (.var 3) (.lit 1))), (0, (.bin .add .i64 (.var 0) (.lit 1))), (2, (.un 3 (.var 2) (.var 0)))], [], [(0, (.cat (.var 0) (.cat (.fn 5 (.var 0) (.lit 0)) (.lit [10]))))], [], [(0, 0), (2, 6), (1, 5)]⟩,
  .next 2 (.inLoop lb0 :: lk0) [((.cmp .geq (.sel 0 16 8 (.var 0)) (.lit 0)), true), ((.cmp .eql (.sel 0 16 1 (.var 0)) (.var 21)), true), ((.cmp .eql (.sel 0 16 1 (.var 0)) (.lit 2)), false), ((.cmp .geq (.lit 0) (.lit 0)), true), ((.cmp .lss (.lit 0) (.var 10)), true), ((.cmp .leq (.slen (.cat (.var 0) (.cat (.fn 5 (.var 0) (.lit 0)) (.lit [10])))) (.lit 9223372036854775807)), true), ((.cmp .lss (.var 0) (.var 10)), true), ((.cmp .geq (.var 0) (.lit 0)), true), ((.cmp .leq (.var 0) (.var 10)), true), ((.cmp .leq (.var 10) (.lit 100)), true), ((.cmp .geq (.var 3) (.lit 1)), true), ((.cmp .leq (.var 3) (.lit 100)), true), ((.cmp .geq (.var 23) (.var 3)), true)] ⟨[(1, (.mx (.var 1) (.sel 0 16 12 (.var 0)))), (3, (.var 3)), (0, (.bin .add .i64 (.var 0) (.lit 1))), (2, (.var 2))], [], [(0, (.cat (.var 0) (.cat (.fn 5 (.var 0) (.lit 0)) (.lit [10]))))], [], [(0, 0), (2, 2), (1, 1)]⟩,
  .next 2 (.inLoop lb0 :: lk0) [((.cmp .geq (.sel 0 16 8 (.var 0)) (.lit 0)), false), ((.cmp .eql (.sel 0 16 1 (.var 0)) (.var 21)), true), ((.cmp .eql (.sel 0 16 1 (.var 0)) (.lit 2)), false), ((.cmp .geq (.lit 0) (.lit 0)), true), ((.cmp .lss (.lit 0) (.var 10)), true), ((.cmp .leq (.slen (.cat (.var 0) (.cat (.fn 5 (.var 0) (.lit 0)) (.lit [10])))) (.lit 9223372036854775807)), true), ((.cmp .lss (.var 0) (.var 10)), true), ((.cmp .geq (.var 0) (.lit 0)), true), ((.cmp .leq (.var 0) (.var 10)), true), ((.cmp .leq (.var 10) (.lit 100)), true), ((.cmp .geq (.var 3) (.lit 1)), true), ((.cmp .leq (.var 3) (.lit 100)), true), ((.cmp .geq (.var 23) (.var 3)), true)] ⟨[(1, (.var 1)), (3, (.var 3)), (0, (.bin .add .i64 (.var 0) (.lit 1))), (2, (.var 2))], [], [(0, (.cat (.var 0) (.cat (.fn 5 (.var 0) (.lit 0)) (.lit [10]))))], [], [(0, 0), (2, 2), (1, 1)]⟩,
  .next 2 (.inLoop lb0 :: lk0) [((.cmp .eql (.sel 0 16 1 (.var 0)) (.var 21)), false), ((.cmp .eql (.sel 0 16 1 (.var 0)) (.lit 2)), false), ((.cmp .geq (.lit 0) (.lit 0)), true), ((.cmp .lss (.lit 0) (.var 10)), true), ((.cmp .leq (.slen (.cat (.var 0) (.cat (.fn 5 (.var 0) (.lit 0)) (.lit [10])))) (.lit 9223372036854775807)), true), ((.cmp .lss (.var 0) (.var 10)), true), ((.cmp .geq (.var 0) (.lit 0)), true), ((.cmp .leq (.var 0) (.var 10)), true), ((.cmp .leq (.var 10) (.lit 100)), true), ((.cmp .geq (.var 3) (.lit 1)), true), ((.cmp .leq (.var 3) (.lit 100)), true), ((.cmp .geq (.var 23) (.var 3)), true)] ⟨[(1, (.var 1)), (3, (.var 3)), (0, (.bin .add .i64 (.var 0) (.lit 1))), (2, (.var 2))], [], [(0, (.cat (.var 0) (.cat (.fn 5 (.var 0) (.lit 0)) (.lit [10]))))], [], [(0, 0), (2, 2), (1, 1)]⟩,
  .stop [((.cmp .leq (.slen (.cat (.var 0) (.cat (.fn 5 (.var 0) (.lit 0)) (.lit [10])))) (.lit 9223372036854775807)), false), ((.cmp .lss (.var 0) (.var 10)), true), ((.cmp .geq (.var 0) (.lit 0)), true), ((.cmp .leq (.var 0) (.var 10)), true), ((.cmp .leq (.var 10) (.lit 100)), true), ((.cmp .geq (.var 3) (.lit 1)), true), ((.cmp .leq (.var 3) (.lit 100)), true), ((.cmp .geq (.var 23) (.var 3)), true)],
  .ret (.bool (.lit false)) [((.cmp .neq (.var 23) (.var 3)), true), ((.cmp .eql (.var 23) (.lit 0)), false), ((.cmp .lss (.var 0) (.var 10)), false), ((.cmp .geq (.var 0) (.lit 0)), true), ((.cmp .leq (.var 0) (.var 10)), true), ((.cmp .leq (.var 10) (.lit 100)), true), ((.cmp .geq (.var 3) (.lit 1)), true), ((.cmp .leq (.var 3) (.lit 100)), true), ((.cmp .geq (.var 23) (.var 3)), true)],
  .next 0 (.code (.loop lb1) :: lk1) [((.cmp .neq (.var 23) (.var 3)), false), ((.cmp .eql (.var 23) (.lit 0)), false), ((.cmp .lss (.var 0) (.var 10)), false), ((.cmp .geq (.var 0) (.lit 0)), true), ((.cmp .leq (.var 0) (.var 10)), true), ((.cmp .leq (.var 10) (.lit 100)), true), ((.cmp .geq (.var 3) (.lit 1)), true), ((.cmp .leq (.var 3) (.lit 100)), true), ((.cmp .geq (.var 23) (.var 3)), true)] ⟨[(1, (.var 1)), (3, (.var 3)), (0, (.lit 0)), (2, (.var 2))], [], [(0, (.var 0))], [], [(0, 0), (2, 2), (1, 1), (4, 4), (3, 3)]⟩]
noncomputable def sLaw2 : List LS := [.ret (.bool (.cmp .eql (.var 24) (.var 1))) [((.seq (.var 1) (.var 0)), true), ((.cmp .lss (.var 0) (.lit 0)), false), ((.cmp .geq (.var 0) (.lit 0)), true), ((.cmp .leq (.var 0) (.lit 0)), true)],
  .ret (.bool (.lit false)) [((.seq (.var 1) (.var 0)), false), ((.cmp .lss (.var 0) (.lit 0)), false), ((.cmp .geq (.var 0) (.lit 0)), true), ((.cmp .leq (.var 0) (.lit 0)), true)]]
noncomputable def sLaw3 : List LS := [.stop [((.cmp .lss (.var 0) (.var 23)), false), ((.cmp .lss (.var 0) (.var 3)), true), ((.cmp .geq (.var 0) (.lit 0)), true), ((.cmp .leq (.var 0) (.var 3)), true)],
  .ret (.bool (.lit false)) [((.cmp .neq (.un 0 (.var 22) (.elem (.lit 0) 1 0 (.var 0))) (.un 0 (.var 2) (.elem (.lit 0) 1 0 (.var 0)))), true), ((.cmp .lss (.var 0) (.var 23)), true), ((.cmp .lss (.var 0) (.var 3)), true), ((.cmp .geq (.var 0) (.lit 0)), true), ((.cmp .leq (.var 0) (.var 3)), true)],
  .next 0 (.inLoop lb1 :: lk1) [((.cmp .neq (.un 0 (.var 22) (.elem (.lit 0) 1 0 (.var 0))) (.un 0 (.var 2) (.elem (.lit 0) 1 0 (.var 0)))), false), ((.cmp .lss (.var 0) (.var 23)), true), ((.cmp .lss (.var 0) (.var 3)), true), ((.cmp .geq (.var 0) (.lit 0)), true), ((.cmp .leq (.var 0) (.var 3)), true)] ⟨[(1, (.var 1)), (3, (.var 3)), (0, (.bin .add .i64 (.var 0) (.lit 1))), (2, (.var 2))], [], [(0, (.var 0))], [], [(0, 0), (2, 2), (1, 1), (4, 4), (3, 3)]⟩,
  .ret (.bool (.cmp .eql (.var 24) (.var 1))) [((.seq (.var 1) (.var 0)), true), ((.cmp .lss (.var 0) (.var 3)), false), ((.cmp .geq (.var 0) (.lit 0)), true), ((.cmp .leq (.var 0) (.var 3)), true)],
  .ret (.bool (.lit false)) [((.seq (.var 1) (.var 0)), false), ((.cmp .lss (.var 0) (.var 3)), false), ((.cmp .geq (.var 0) (.lit 0)), true), ((.cmp .leq (.var 0) (.var 3)), true)]]
theorem rLawE : (run Tryd.prog exts05 spLaw 4000 true 3 (entry Tryd.f3 (Tryd.f3.body.getD .ret) [sl, iI 21] (ofP H0) 1 [])).map (·.filterMap (sumL g4 Ls)) = some sLawE := by kernel_rfl
theorem rLawA : (run Tryd.prog exts05 spLaw 4000 true 3 (LA.st (.code lb0 :: .inLoop lb0 :: lk0))).map (·.filterMap (sumL g4 Ls)) = some sLawA := by kernel_rfl
theorem rLawB : (run Tryd.prog exts05 spLaw 4000 true 3 (LB.st (.code lb0 :: .inLoop lb0 :: lk0))).map (·.filterMap (sumL g4 Ls)) = some sLawB := by kernel_rfl
theorem rLaw2 : (run Tryd.prog exts05 spLaw 4000 true 3 (L2.st (.code lb1 :: .inLoop lb1 :: lk1))).map (·.filterMap (sumL g4 Ls)) = some sLaw2 := by kernel_rfl
theorem rLaw3 : (run Tryd.prog exts05 spLaw 4000 true 3 (L3.st (.code lb1 :: .inLoop lb1 :: lk1))).map (·.filterMap (sumL g4 Ls)) = some sLaw3 := by kernel_rfl
def QT : Value → Prop := fun x => x = .bool true
def J2 (v : Value) (n : Nat) (kind : Int) : GP := fun I _ S _ _ => I 0 = 0 ∧ I 1 = longR v kind n ∧ S 0 = ⟨(joinT v n).toArray⟩
def J3 (v : Value) (n : Nat) (kind : Int) : GP := fun I _ S _ _ => I 1 = longR v kind n ∧ S 0 = ⟨(joinT v n).toArray⟩ ∧ I 2 = encL (invs v n) ∧ I 3 = ((invs v n).length : Int) ∧ ∃ j : Nat, I 0 = j
def JLA (v : Value) (n : Nat) (kind : Int) : GP := fun I _ S _ _ => ∃ i : Nat, I 0 = i ∧ i ≤ n ∧ I 1 = longR v kind i ∧ S 0 = ⟨(joinT v i).toArray⟩ ∧ invs v i = []
def JLB (v : Value) (n : Nat) (kind : Int) : GP := fun I _ S _ _ => ∃ i : Nat, I 0 = i ∧ i ≤ n ∧ I 1 = longR v kind i ∧ S 0 = ⟨(joinT v i).toArray⟩ ∧ I 2 = encL (invs v i) ∧ I 3 = ((invs v i).length : Int) ∧ invs v i ≠ []
theorem ret_end {ρ : Env} {v : Value} {n : Nat} {kind : Int} (hG : GP.at (GH v n kind) ρ) (h1 : ρ.I 1 = longR v kind n) : (AVal.bool (.cmp .eql (.var 24) (.var 1))).den ρ = some (.bool true) := by
  simp only [AVal.den, BT.den, IT.den, hG.2.2.2.2.2.1, h1, intCmp, Option.map_some]; simp
theorem seq_end {ρ : Env} {v : Value} {n : Nat} {kind : Int} (hG : GP.at (GH v n kind) ρ) (h1 : ρ.S 0 = ⟨(joinT v n).toArray⟩) : (BT.seq (.var 1) (.var 0)).den ρ = some true := by
  simp only [BT.den, ST.den, hG.2.2.2.2.2.2.1, h1]; simp
section
variable (w0 : World) (v : Value) (n : Nat) (kind : Int) (hv : RecIn v) (hTab : TabW w0) (hn : n ≤ 100)
include hv hTab hn
theorem law2 : ∀ ρ, (J2 v n kind).at ρ → ∀ todo a w, todo = .inLoop lb1 :: lk1 ∨ todo = .code (.loop lb1) :: lk1 → SRel (βH w0 v n kind) ρ (L2.st todo) a w → Goes Tryd.prog 3 (fun x w' => QT x ∧ Framed w0 w') todo a w := by
  refine loop_goes (β := βH w0 v n kind) noCount exts05_ok (spLaw_ok w0 v n kind hv hTab hn) follows rfl rLaw2 (J2 v n kind) (fun ρ => 0) (fun ρ hJ hcs hG ih s hs => ?_)
  simp only [sLaw2, List.mem_cons, List.not_mem_nil, or_false] at hs
  rcases hs with rfl | rfl
  · intro ρ' hle hc u hu
    obtain ⟨j1, j2, j3⟩ := GP.mono hle hJ
    exact Option.some.inj (hu.symm.trans (ret_end (GP.mono hle hG) j2))
  · intro ρ' hle hc u hu
    obtain ⟨j1, j2, j3⟩ := GP.mono hle hJ
    have := hc _ List.mem_cons_self
    rw [seq_end (GP.mono hle hG) j3] at this; cases this
theorem law3 : ∀ ρ, (J3 v n kind).at ρ → ∀ todo a w, todo = .inLoop lb1 :: lk1 ∨ todo = .code (.loop lb1) :: lk1 → SRel (βH w0 v n kind) ρ (L3.st todo) a w → Goes Tryd.prog 3 (fun x w' => QT x ∧ Framed w0 w') todo a w := by
  refine loop_goes (β := βH w0 v n kind) noCount exts05_ok (spLaw_ok w0 v n kind hv hTab hn) follows rfl rLaw3 (J3 v n kind) (fun ρ => (n - ρ.I 0).toNat) (fun ρ hJ hcs hG ih s hs => ?_)
  have hil := invs_len v n
  simp only [sLaw3, List.mem_cons, List.not_mem_nil, or_false] at hs
  rcases hs with rfl | rfl | rfl | rfl | rfl
  · intro ρ' hle hc
    obtain ⟨j1, j2, j3, j4, j, j5⟩ := GP.mono hle hJ
    obtain ⟨g1, g2, g3, g4, g5, _⟩ := GP.mono hle hG
    simp [CRel_cons, CRel_nil, BT.den, IT.den, intCmp, j4, j5, g5] at hc
    omega
  · intro ρ' hle hc u hu
    obtain ⟨j1, j2, j3, j4, j, j5⟩ := GP.mono hle hJ
    obtain ⟨g1, g2, g3, g4, g5, _⟩ := GP.mono hle hG
    have := hc _ List.mem_cons_self
    simp [BT.den, IT.den, intCmp, j3, g4, j5] at this
  · intro ρ' hle hc T hT hG'
    obtain ⟨j1, j2, j3, j4, j, j5⟩ := GP.mono hle hJ
    obtain ⟨g1, g2, g3, g4, g5, _⟩ := id hG'
    have e2 : ρ.I = ρ'.I := hle.i.symm
    have hc0 : j < (invs v n).length := by
      simp [CRel_cons, CRel_nil, BT.den, IT.den, intCmp, j4, j5, g5] at hc; omega
    have hT : L3 = T := by simpa [Ls] using hT
    subst hT
    have e0 : IntKind.i64.wrap (ρ'.I 0 + 1) = ((j + 1 : Nat) : Int) := up1 j5 (by omega)
    refine ⟨GH_app hG' rfl rfl rfl rfl rfl rfl rfl, ?_, fun a w r => ih _ ?_ ?_ _ a w (.inl rfl) r⟩
    · simp [L3, L20, CRel_cons, CRel_nil, BT.den, IT.den, intCmp, intBin, Go.Vm.Sub.app, lk_cons, lk_nil, e0, j4]
      omega
    · show ((n : Int) - IntKind.i64.wrap (ρ'.I 0 + 1)).toNat < _
      rw [e0, e2, j5]; omega
    · exact ⟨j1, j2, j3, j4, j + 1, e0⟩
  · intro ρ' hle hc u hu
    obtain ⟨j1, j2, j3, j4, j, j5⟩ := GP.mono hle hJ
    exact Option.some.inj (hu.symm.trans (ret_end (GP.mono hle hG) j1))
  · intro ρ' hle hc u hu
    obtain ⟨j1, j2, j3, j4, j, j5⟩ := GP.mono hle hJ
    have := hc _ List.mem_cons_self
    rw [seq_end (GP.mono hle hG) j2] at this; cases this
theorem lawB : ∀ ρ, (JLB v n kind).at ρ → ∀ todo a w, todo = .inLoop lb0 :: lk0 ∨ todo = .code (.loop lb0) :: lk0 → SRel (βH w0 v n kind) ρ (LB.st todo) a w → Goes Tryd.prog 3 (fun x w' => QT x ∧ Framed w0 w') todo a w := by
  refine loop_goes (β := βH w0 v n kind) noCount exts05_ok (spLaw_ok w0 v n kind hv hTab hn) follows rfl rLawB (JLB v n kind) (fun ρ => (n - ρ.I 0).toNat) (fun ρ hJ hcs hG ih s hs => ?_)
  simp only [sLawB, List.mem_cons, List.not_mem_nil, or_false] at hs
  rcases hs with rfl | rfl | rfl | rfl | rfl | rfl | rfl | rfl | rfl
  case' inr.inr.inr.inr.inr.inr.inl =>
    intro ρ' hle hc
    obtain ⟨i, j1, j2, j3, j4, j5, j6, j7⟩ := GP.mono hle hJ
    have hG' := GP.mono hle hG
    have td := tden hv hG' (.var 0) i j1
    have tl := rtext_len hv i
    have jl := joinT_len hv i
    have h1 := hc _ List.mem_cons_self
    have e : (ST.cat (.var 0) (.cat (.fn 5 (.var 0) (.lit 0)) (.lit [10]))).den ρ' = ⟨(joinT v i ++ (rtext v i ++ [10])).toArray⟩ := by
      show ρ'.S 0 ++ ((ST.fn 5 (.var 0) (.lit 0)).den ρ' ++ ⟨[10].toArray⟩) = _
      rw [j4, td, bcat, bcat]
    simp only [BT.den, IT.den, e, bsz, intCmp, Option.some.injEq, decide_eq_false_iff_not, List.length_append, List.length_cons, List.length_nil] at h1
    omega
  case' inr.inr.inr.inr.inr.inr.inr.inl =>
    intro ρ' hle hc u hu
    obtain ⟨i, j1, j2, j3, j4, j5, j6, j7⟩ := GP.mono hle hJ
    obtain ⟨g1, g2, g3, g4, g5, _⟩ := GP.mono hle hG
    simp [CRel_cons, CRel_nil, BT.den, IT.den, intCmp, j1, j6, g2, g5] at hc
    have hij : i = n := by omega
    subst hij
    omega
  case' inr.inr.inr.inr.inr.inr.inr.inr =>
    intro ρ' hle hc T hT hG'
    obtain ⟨i, j1, j2, j3, j4, j5, j6, j7⟩ := GP.mono hle hJ
    obtain ⟨g1, g2, g3, g4, g5, _⟩ := id hG'
    have hij : i = n := by
      simp [CRel_cons, CRel_nil, BT.den, IT.den, intCmp, j1, j6, g2, g5] at hc; omega
    subst hij
    have hT : L3 = T := by simpa [Ls] using hT
    subst hT
    refine ⟨GH_app hG' rfl rfl rfl rfl rfl rfl rfl, ?_, fun a w r => law3 w0 v i kind hv hTab hn _ ?_ _ a w (.inr rfl) r⟩
    · simp [L3, L20, CRel_cons, CRel_nil, BT.den, IT.den, intCmp, Go.Vm.Sub.app, lk_cons, lk_nil, j6]
    · exact ⟨j3, j4, j5, j6, 0, rfl⟩
  all_goals
    intro ρ' hle hc T hT hG'
    obtain ⟨i, j1, j2, j3, j4, j5, j6, j7⟩ := GP.mono hle hJ
    obtain ⟨g1, g2, g3, g4, g5, _⟩ := id hG'
    have e2 : ρ.I = ρ'.I := hle.i.symm
    have td := tden hv hG' (.var 0) i j1
    simp [CRel_cons, CRel_nil, BT.den, IT.den, intCmp, j1, j6, g1, g2, g3] at hc
    have hT : LB = T := by simpa [Ls] using hT
    subst hT
    have hlt : i < n := by omega
    have hil := invs_len v i
    have hil2 := invs_mono v (i := i + 1) (n := n) hlt
    have hil3 := invs_mono v (i := i) (n := i + 1) (by omega)
    have hpos := List.length_pos_iff.2 j7
    have e0 : IntKind.i64.wrap (ρ'.I 0 + 1) = ((i + 1 : Nat) : Int) := up1 j1 (by omega)
    have e3 : IntKind.i64.wrap (ρ'.I 3 + 1) = (((invs v i).length + 1 : Nat) : Int) := up1 j6 (by omega)
    have eS : ρ'.S 0 ++ ((ST.fn 5 (.var 0) (.lit 0)).den ρ' ++ ⟨[10].toArray⟩) = ⟨(joinT v (i + 1)).toArray⟩ := by rw [j4, td, bcat, bcat]; rfl
    have eA : invs v (i + 1) = invs v i ++ [(i : Int)] ∧ selI v (i * 16 + 1) = 2 ∨ invs v (i + 1) = invs v i ∧ selI v (i * 16 + 1) ≠ 2 := by
      by_cases h : selI v (i * 16 + 1) = 2
      · exact .inl ⟨by simp only [invs]; rw [if_pos h], h⟩
      · exact .inr ⟨by simp only [invs]; rw [if_neg h], h⟩
    have eM : (if selI (ρ'.V 0) ((ρ'.I 0).toNat * 16 + 12) > ρ'.I 1 then selI (ρ'.V 0) ((ρ'.I 0).toNat * 16 + 12) else ρ'.I 1) = mx2 (longR v kind i) (selI v (i * 16 + 12)) := by rw [j1, g1, j3, Int.toNat_natCast]; rfl
    have eK : longR v kind (i + 1) = if selI v (i * 16 + 1) = kind ∧ 0 ≤ selI v (i * 16 + 8) then mx2 (longR v kind i) (selI v (i * 16 + 12)) else longR v kind i := rfl
    rcases eA with ⟨eA, eA'⟩ | ⟨eA, eA'⟩
    · first
        | (exfalso; omega)
        | (have eL := eA ▸ hil2
           simp only [List.length_append, List.length_cons, List.length_nil] at eL
           refine ⟨GH_app hG' rfl rfl rfl rfl rfl rfl rfl, ?_, fun a w r => ih _ ?_ ⟨i + 1, e0, by omega, ?_, eS, ?_⟩ _ a w (.inl rfl) r⟩
           · simp [LB, L0, csL, inCs, CRel_cons, CRel_nil, BT.den, IT.den, intCmp, intBin, Go.Vm.Sub.app, lk_cons, lk_nil, e0, e3, g2, g5]
             omega
           · show ((n : Int) - IntKind.i64.wrap (ρ'.I 0 + 1)).toNat < _
             rw [e0, e2, j1]; omega
           · rw [eK]
             first
               | (rw [if_pos (by omega)]; exact eM)
               | (rw [if_neg (by omega)]; exact j3)
           · rw [eA]
             exact ⟨(un3 j5).trans (by rw [j1]), e3.trans (by simp), by simp⟩)
    · first
        | (exfalso; omega)
        | (refine ⟨GH_app hG' rfl rfl rfl rfl rfl rfl rfl, ?_, fun a w r => ih _ ?_ ⟨i + 1, e0, by omega, ?_, eS, ?_⟩ _ a w (.inl rfl) r⟩
           · simp [LB, L0, csL, inCs, CRel_cons, CRel_nil, BT.den, IT.den, intCmp, intBin, Go.Vm.Sub.app, lk_cons, lk_nil, e0, g2, g5, j6]
             omega
           · show ((n : Int) - IntKind.i64.wrap (ρ'.I 0 + 1)).toNat < _
             rw [e0, e2, j1]; omega
           · rw [eK]
             first
               | (rw [if_pos (by omega)]; exact eM)
               | (rw [if_neg (by omega)]; exact j3)
           · rw [eA]
             exact ⟨j5, j6, j7⟩)
theorem lawA : ∀ ρ, (JLA v n kind).at ρ → ∀ todo a w, todo = .inLoop lb0 :: lk0 ∨ todo = .code (.loop lb0) :: lk0 → SRel (βH w0 v n kind) ρ (LA.st todo) a w → Goes Tryd.prog 3 (fun x w' => QT x ∧ Framed w0 w') todo a w := by
  refine loop_goes (β := βH w0 v n kind) noCount exts05_ok (spLaw_ok w0 v n kind hv hTab hn) follows rfl rLawA (JLA v n kind) (fun ρ => (n - ρ.I 0).toNat) (fun ρ hJ hcs hG ih s hs => ?_)
  simp only [sLawA, List.mem_cons, List.not_mem_nil, or_false] at hs
  rcases hs with rfl | rfl | rfl | rfl | rfl | rfl | rfl | rfl | rfl
  case' inr.inr.inr.inr.inr.inr.inl =>
    intro ρ' hle hc
    obtain ⟨i, j1, j2, j3, j4, j5⟩ := GP.mono hle hJ
    have hG' := GP.mono hle hG
    have td := tden hv hG' (.var 0) i j1
    have tl := rtext_len hv i
    have jl := joinT_len hv i
    have h1 := hc _ List.mem_cons_self
    have e : (ST.cat (.var 0) (.cat (.fn 5 (.var 0) (.lit 0)) (.lit [10]))).den ρ' = ⟨(joinT v i ++ (rtext v i ++ [10])).toArray⟩ := by
      show ρ'.S 0 ++ ((ST.fn 5 (.var 0) (.lit 0)).den ρ' ++ ⟨[10].toArray⟩) = _
      rw [j4, td, bcat, bcat]
    simp only [BT.den, IT.den, e, bsz, intCmp, Option.some.injEq, decide_eq_false_iff_not, List.length_append, List.length_cons, List.length_nil] at h1
    omega
  case' inr.inr.inr.inr.inr.inr.inr.inl =>
    intro ρ' hle hc T hT hG'
    obtain ⟨i, j1, j2, j3, j4, j5⟩ := GP.mono hle hJ
    obtain ⟨g1, g2, g3, g4, g5, _⟩ := id hG'
    have hij : i = n := by
      simp [CRel_cons, CRel_nil, BT.den, IT.den, intCmp, j1, g2, g5] at hc; omega
    subst hij
    have hT : L2 = T := by simpa [Ls] using hT
    subst hT
    refine ⟨GH_app hG' rfl rfl rfl rfl rfl rfl rfl, ?_, fun a w r => law2 w0 v i kind hv hTab hn _ ?_ _ a w (.inr rfl) r⟩
    · simp [L2, L20, CRel_cons, CRel_nil, BT.den, IT.den, intCmp, Go.Vm.Sub.app, lk_cons, lk_nil]
    · exact ⟨rfl, j3, j4⟩
  case' inr.inr.inr.inr.inr.inr.inr.inr =>
    intro ρ' hle hc u hu
    obtain ⟨i, j1, j2, j3, j4, j5⟩ := GP.mono hle hJ
    obtain ⟨g1, g2, g3, g4, g5, _⟩ := GP.mono hle hG
    simp [CRel_cons, CRel_nil, BT.den, IT.den, intCmp, j1, g2, g5] at hc
    have hij : i = n := by omega
    subst hij
    rw [j5] at hc
    simp at hc
  all_goals
    intro ρ' hle hc T hT hG'
    obtain ⟨i, j1, j2, j3, j4, j5⟩ := GP.mono hle hJ
    obtain ⟨g1, g2, g3, g4, g5, _⟩ := id hG'
    have e2 : ρ.I = ρ'.I := hle.i.symm
    have td := tden hv hG' (.var 0) i j1
    simp [CRel_cons, CRel_nil, BT.den, IT.den, intCmp, j1, g1, g2, g3] at hc
    have hlt : i < n := by omega
    have hil2 := invs_mono v (i := i + 1) (n := n) hlt
    have e0 : IntKind.i64.wrap (ρ'.I 0 + 1) = ((i + 1 : Nat) : Int) := up1 j1 (by omega)
    have eS : ρ'.S 0 ++ ((ST.fn 5 (.var 0) (.lit 0)).den ρ' ++ ⟨[10].toArray⟩) = ⟨(joinT v (i + 1)).toArray⟩ := by rw [j4, td, bcat, bcat]; rfl
    have eA : invs v (i + 1) = [(i : Int)] ∧ selI v (i * 16 + 1) = 2 ∨ invs v (i + 1) = [] ∧ selI v (i * 16 + 1) ≠ 2 := by
      by_cases h : selI v (i * 16 + 1) = 2
      · exact .inl ⟨by simp only [invs]; rw [if_pos h, j5]; rfl, h⟩
      · exact .inr ⟨by simp only [invs]; rw [if_neg h, j5], h⟩
    have eM : (if selI (ρ'.V 0) ((ρ'.I 0).toNat * 16 + 12) > ρ'.I 1 then selI (ρ'.V 0) ((ρ'.I 0).toNat * 16 + 12) else ρ'.I 1) = mx2 (longR v kind i) (selI v (i * 16 + 12)) := by rw [j1, g1, j3, Int.toNat_natCast]; rfl
    have eK : longR v kind (i + 1) = if selI v (i * 16 + 1) = kind ∧ 0 ≤ selI v (i * 16 + 8) then mx2 (longR v kind i) (selI v (i * 16 + 12)) else longR v kind i := rfl
    rcases eA with ⟨eA, eA'⟩ | ⟨eA, eA'⟩
    · first
        | (exfalso; omega)
        | (have hT : LB = T := by simpa [Ls] using hT
           subst hT
           have eL := eA ▸ hil2
           simp only [List.length_cons, List.length_nil] at eL
           refine ⟨GH_app hG' rfl rfl rfl rfl rfl rfl rfl, ?_, fun a w r => lawB w0 v n kind hv hTab hn _ ⟨i + 1, e0, by omega, ?_, eS, ?_⟩ _ a w (.inl rfl) r⟩
           · simp [LB, L0, csL, inCs, CRel_cons, CRel_nil, BT.den, IT.den, intCmp, intBin, Go.Vm.Sub.app, lk_cons, lk_nil, e0, g2, g5]
             omega
           · rw [eK]
             first
               | (rw [if_pos (by omega)]; exact eM)
               | (rw [if_neg (by omega)]; exact j3)
           · rw [eA]
             exact ⟨(un3 (x := 0) (l := []) rfl).trans (by rw [j1]; rfl), rfl, by simp⟩)
    · first
        | (exfalso; omega)
        | (have hT : LA = T := by simpa [Ls] using hT
           subst hT
           refine ⟨GH_app hG' rfl rfl rfl rfl rfl rfl rfl, ?_, fun a w r => ih _ ?_ ⟨i + 1, e0, by omega, ?_, eS, eA⟩ _ a w (.inl rfl) r⟩
           · simp [LA, L0, csL, inCs, CRel_cons, CRel_nil, BT.den, IT.den, intCmp, intBin, Go.Vm.Sub.app, lk_cons, lk_nil, e0, g2]
             omega
           · show ((n : Int) - IntKind.i64.wrap (ρ'.I 0 + 1)).toNat < _
             rw [e0, e2, j1]; omega
           · rw [eK]
             first
               | (rw [if_pos (by omega)]; exact eM)
               | (rw [if_neg (by omega)]; exact j3))
end
theorem tells_walk (w : World) (v : Value) (n b o cap : Nat) (kind : Int) (hv : RecIn v) (hTab : TabW w) (hn : n ≤ 100) (hrow : RowAt w b o ksR n v) : Calls Tryd.prog 3 #[.slice (some ⟨b, o, none⟩) n cap, .int .i64 kind] w (fun e w' => e = .returned (.bool true) ∧ Framed w w') := by
  have := calls_sums (β := βH w v n kind) (Q := QT) noCount exts05_ok (spLaw_ok w v n kind hv hTab hn) follows rfl Tryd.func3 rfl rLawE (xs := [.slice (some ⟨b, o, none⟩) n cap, .int .i64 kind]) (by simp only [AVal.denL, slD]; rfl) (start w kind hrow) (fun _ h => by cases h) (fun s hs => ?_)
  · exact this.mono fun _ _ ⟨_, he, hv, hf⟩ => ⟨by rw [he, hv], hf⟩
  · simp only [sLawE, List.mem_cons, List.not_mem_nil, or_false] at hs
    rcases hs with rfl | rfl
    · intro ρ' hle hc u hu
      exact (Option.some.inj hu).symm
    · intro ρ' hle hc T hT hG
      have hT : LA = T := by simpa [Ls] using hT
      subst hT
      obtain ⟨g1, g2, _⟩ := id hG
      refine ⟨GH_app hG rfl rfl rfl rfl rfl rfl rfl, ?_, fun a w' r => lawA w v n kind hv hTab hn _ ⟨0, rfl, Nat.zero_le _, rfl, rfl, rfl⟩ _ a w' (.inr rfl) r⟩
      simp [LA, L0, csL, inCs, CRel_cons, CRel_nil, BT.den, IT.den, intCmp, Go.Vm.Sub.app, lk_cons, lk_nil, g2]
      omega
end Ht
end Go.Proofs.YtagdcclpibjfoaaDoor
