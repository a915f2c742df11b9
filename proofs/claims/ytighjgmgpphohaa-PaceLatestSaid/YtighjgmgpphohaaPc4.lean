/-
  Pace (4): PaceLatest: a read sees what was written last: the heads of its loop.
-/
import Derived.Test.YtighjgmgpphohaaPc3
namespace Go.Proofs.Ytighjgmgpphohaa
open Go.Vm Go.RowKit Go.Lib

def valA : AVal := .slice 0 (.var 30) (.var 21) (.var 31)
def picA : AVal := .slice 1 (.var 32) (.var 20) (.var 33)
def valB : ABlk := .arr (.var 0) [.u64] 32 (.var 21) (.var 30) none
def picB : ABlk := .arr (.var 1) [.u8] 5 (.var 20) (.var 32) none
/-- What values there are: a row, none at all, a row of none. -/
inductive Zv where
  | row
  | nil
  | zero
def Zv.pick {α : Type} : Zv → α → α → α → α
  | .row, a, _, _ => a
  | .nil, _, b, _ => b
  | .zero, _, _, c => c
def va (z : Zv) : AVal := z.pick valA .sliceNil (.slice 0 (.var 30) (.lit 0) (.var 31))
def lv (z : Zv) : IT := z.pick (.var 21) (.lit 0) (.lit 0)
def pL (z : Zv) : List (Nat × ABlk) := z.pick [(0, valB), (1, picB)] [(1, picB)] [(1, picB)]
def pH (z : Zv) : List (Nat × HB) := (pL z).map fun p => (p.1, ⟨p.2, false⟩)
def csP : Cs := [(.cmp .gtr (.var 21) (.lit 50), false), (.cmp .gtr (.var 20) (.lit 200), false), (.cmp .geq (.var 20) (.lit 1), true), (.cmp .leq (.var 20) (.lit 1000000), true)]
def sp3 : CallF := spL [(6, spTrue), (40, spClone [.u64, .i64] 35), (43, spClone [.u64] 32), (11, spWords [.u64])]
def z64 : AVal := .int .u64 (.lit 0)
def zi : AVal := .int .i64 (.lit 0)
def arC : HB := ⟨.cells [.int .i64 (.lit 9), zi, zi, zi, z64, .int .u64 (.var 8), z64, z64, z64, z64, z64, z64, z64, z64, .ptr 3 (.lit 0), .map 4, zi, zi, .int .i64 (.var 13), .int .i64 (.var 14), zi, zi] 77 none, true⟩
def at0 (cp : Option IT) : HB := ⟨.arr (.code [.u64, .i64] (.un 20 (.var 20) (.lit 2))) [.u64, .i64] 35 (.var 20) (.lit 0) cp, true⟩
def rdC (nx todo words : AVal) : HB := ⟨.cells [nx, .ptr 5 (.lit 0), todo, words] 80 none, true⟩
def fn54 : AVal := .func (.func 54) [.ptr 9 (.lit 0)] []
def td0 : AVal := .slice 8 (.lit 0) (.var 20) (.nv 7)
def td1 : AVal := .slice 8 (.elem (.lit 0) 2 0 (.var 15)) (.var 16) (.var 17)
def rowX (q : Nat) : HB := ⟨.arr (.code [.u64] (.var 2)) [.u64] 32 (.var 3) (.lit 0) (some (.nv q)), true⟩
def wd1 : AVal := .slice 11 (.lit 0) (.var 3) (.nv 10)
def wn1 : AVal := .slice 13 (.lit 0) (.var 3) (.nv 12)
def tmL (z : Zv) (want : AVal) : List (Nat × AVal) := [(0, va z), (5, .ptr 5 (.lit 0)), (7, .slice 6 (.lit 0) (.var 20) (.var 20)), (8, .ptr 9 (.lit 0)), (9, want), (10, .int .u64 (.var 8)), (11, iV 9), (34, picA), (35, iV 20), (36, iV 10)]
def T0 (z : Zv) : Tpl := ⟨tmL z .sliceNil, 80, pH z ++ [(5, arC), (8, at0 (some (.nv 7))), (9, rdC fn54 td0 .sliceNil)], 10, csP, 3⟩
def T1 (z : Zv) : Tpl := ⟨tmL z wn1, 80, pH z ++ [(5, arC), (8, at0 none), (9, rdC fn54 td1 wd1), (11, rowX 10), (13, rowX 12)], 14, csP, 3⟩
def T2 (z : Zv) : Tpl := ⟨tmL z wn1, 80, pH z ++ [(5, arC), (8, at0 none), (9, rdC .nilFunc td1 wd1), (11, rowX 10), (13, rowX 12)], 14, csP, 3⟩
def Ts (z : Zv) : List Tpl := [T1 z, T2 z, T0 z]
def fIn (b : Bool) : Cs := [(.cmp .geq (.var 10) (.lit 0), true), (.cmp .lss (.var 10) (.var 20), b)]
def fPar (b : Bool) : Cs := [(.cmp .eql (.bin .rem .u8 (.sel 1 1 0 (.var 10)) (.lit 2)) (.lit 0), b)]
def fK (z : Zv) (b : Bool) : Cs := [(.cmp .geq (.var 9) (.lit 0), true), (.cmp .lss (.var 9) (lv z), b)]
def uT (j : Nat) (i : IT) : IT := .un 0 (.un 20 (.var 20) (.lit 2)) (.elem (.lit 0) 2 j i)
def fRd (i n : IT) (b : Bool) : Cs := [(.cmp .neq (uT 0 i) (.lit 0), false), (.cmp .lss (uT 1 i) (.lit 0), false), (.cmp .geq (uT 1 i) (.lit 9), false), (.cmp .eql (uT 1 i) (.lit 0), true), (.cmp .geq (.lit 0) (.lit 0), true), (.cmp .lss (.lit 0) n, true), (.cmp .geq (.lit 1) (.lit 0), true), (.cmp .leq (.lit 1) n, true), (.cmp .geq i (.lit 0), true), (.cmp .lss i (.var 20), true), (.cmp .gtr (.un 14 n (.lit 1)) (.lit 0), b)]
def fNn : Cs := [(.cmp .geq (.var 3) (.lit 1), true), (.cmp .leq (.var 3) (.lit 1000000), true)]
def i1 : IT := .elem (.var 15) 1 0 (.lit 0)
def fGe (t : IT) (b : Bool) : Cs := [(.cmp .geq t (.var 20), b)]
def cs1z (z : Zv) (I : List (Nat × IT)) (N : List (Nat × Nat)) : Sub := ⟨z.pick [(21, .var 21)] [] [] ++ (20, .var 20) :: I, [], [], [], z.pick [(0, 0)] [] [(0, 0)] ++ N⟩
def cap7 : IT := .nv 7
def sE (z : Zv) : Sub := cs1z z [(8, .lit 0), (9, .lit 0), (10, .lit 0), (13, .lit 0), (14, .lit 0)] [(5, 5), (6, 6), (9, 9), (1, 1), (3, 3), (4, 4), (8, 8), (7, 7)]
def s0w (z : Zv) : Sub := cs1z z [(8, .sel 0 1 0 (.var 9)), (9, upT 9), (10, upT 10), (13, .var 13), (14, upT 14)] [(5, 5), (6, 6), (9, 9), (1, 1), (3, 3), (4, 4), (8, 8), (7, 7)]
def s1w (z : Zv) : Sub := cs1z z [(3, .var 3), (8, .sel 0 1 0 (.var 9)), (9, upT 9), (10, upT 10), (13, .var 13), (14, upT 14), (15, .var 15), (16, .var 16), (17, .var 17), (2, .var 2)] [(5, 5), (6, 6), (9, 9), (13, 13), (12, 12), (1, 1), (3, 3), (4, 4), (8, 8), (11, 11), (10, 10)]
def s0r (z : Zv) : Sub := cs1z z [(3, .lit 1), (8, .var 8), (9, .var 9), (10, upT 10), (13, upT 13), (14, .var 14), (15, .un 13 (.lit 1) (.nv 7)), (16, .un 14 (.var 20) (.lit 1)), (17, .un 14 (.nv 7) (.lit 1)), (2, .un 3 (.lit 0) (.var 8))] [(5, 5), (6, 6), (9, 9), (13, 17), (12, 16), (1, 1), (3, 3), (4, 4), (8, 8), (11, 14), (10, 13)]
def s1r (z : Zv) : Sub := cs1z z [(3, upT 3), (8, .var 8), (9, .var 9), (10, upT 10), (13, upT 13), (14, .var 14), (15, .elem (.var 15) 1 0 (.un 13 (.lit 1) (.var 17))), (16, .un 14 (.var 16) (.lit 1)), (17, .un 14 (.var 17) (.lit 1)), (2, .un 3 (.var 2) (.var 8))] [(5, 5), (6, 6), (9, 9), (13, 21), (12, 20), (1, 1), (3, 3), (4, 4), (8, 8), (11, 18), (10, 17)]
noncomputable def pb0 : Code := ((loopsOf (Try.f3.body.getD .ret) []).getD 0 (.ret, [])).1
noncomputable def pk0 : List Item := ((loopsOf (Try.f3.body.getD .ret) []).getD 0 (.ret, [])).2
noncomputable def RunP (z : Zv) (T : Tpl) (c : Cs) (l : LS) : Prop := (run Try.prog [] sp3 4000 true 3 ((⟨T.tm, T.nt, T.H, T.nl, c ++ T.cs, T.dep⟩ : Tpl).st (.code pb0 :: .inLoop pb0 :: pk0))).map (·.filterMap (sumD gP (Ts z))) = some [l]
noncomputable def nx (q : Nat) (σ : Sub) : LS := .next q (.inLoop pb0 :: pk0) [] σ
def yes : LS := .ret (.bool (.lit true)) []
def r1F (z : Zv) (i n : IT) (b : Bool) : Cs := fIn true ++ fPar true ++ fK z false ++ fRd i n b
def r2F (i n : IT) (b : Bool) : Cs := fIn true ++ fPar false ++ fRd i n b
theorem pE (z : Zv) : (run Try.prog [] sp3 4000 true 3 (entry Try.f3 (Try.f3.body.getD .ret) [va z, picA] (ofP (pH z)) 2 csP)).map (·.filterMap (sumD gP (Ts z))) = some [.next 2 (.code (.loop pb0) :: pk0) [] (sE z)] := by cases z <;> kernel_rfl
theorem pNil (z : Zv) : (run Try.prog [] sp3 4000 false 3 (entry Try.f3 (Try.f3.body.getD .ret) [va z, .sliceNil] .leaf 2 [(.cmp .gtr (.var 21) (.lit 50), false)])).map (·.all (leafB (.lit true))) = some true := by cases z <;> kernel_rfl
theorem pZero (z : Zv) : (run Try.prog [] sp3 4000 false 3 (entry Try.f3 (Try.f3.body.getD .ret) [va z, .slice 1 (.var 32) (.lit 0) (.var 33)] .leaf 2 [(.cmp .gtr (.var 21) (.lit 50), false)])).map (·.all (leafB (.lit true))) = some true := by cases z <;> kernel_rfl
theorem pBigV : (run Try.prog [] sp3 4000 false 3 (entry Try.f3 (Try.f3.body.getD .ret) [valA, .var 9] .leaf 2 [(.cmp .gtr (.var 21) (.lit 50), true)])).map (·.all (leafB (.lit true))) = some true := by kernel_rfl
theorem pBigP (z : Zv) : (run Try.prog [] sp3 4000 false 3 (entry Try.f3 (Try.f3.body.getD .ret) [va z, picA] .leaf 2 [(.cmp .gtr (.var 21) (.lit 50), false), (.cmp .gtr (.var 20) (.lit 200), true)])).map (·.all (leafB (.lit true))) = some true := by cases z <;> kernel_rfl
theorem p0w : RunP .row (T0 .row) (fIn true ++ fPar true ++ fK .row true) (nx 2 (s0w .row)) := by unfold RunP; kernel_rfl
theorem p1w : RunP .row (T1 .row) (fIn true ++ fPar true ++ fK .row true) (nx 0 (s1w .row)) := by unfold RunP; kernel_rfl
theorem p0r1 (z : Zv) (b : Bool) : RunP z (T0 z) (r1F z (.lit 0) (.var 20) b) (nx (cond b 0 1) (s0r z)) := by cases z <;> cases b <;> (unfold RunP; kernel_rfl)
theorem p0r2 (z : Zv) (b : Bool) : RunP z (T0 z) (r2F (.lit 0) (.var 20) b) (nx (cond b 0 1) (s0r z)) := by cases z <;> cases b <;> (unfold RunP; kernel_rfl)
theorem p1r1 (z : Zv) (b : Bool) : RunP z (T1 z) (r1F z i1 (.var 16) b ++ fNn) (nx (cond b 0 1) (s1r z)) := by cases z <;> cases b <;> (unfold RunP; kernel_rfl)
theorem p1r2 (z : Zv) (b : Bool) : RunP z (T1 z) (r2F i1 (.var 16) b ++ fNn) (nx (cond b 0 1) (s1r z)) := by cases z <;> cases b <;> (unfold RunP; kernel_rfl)
theorem p0e (z : Zv) : RunP z (T0 z) (fIn false ++ fGe (.lit 0) false) yes := by cases z <;> (unfold RunP; kernel_rfl)
theorem p1e (z : Zv) : RunP z (T1 z) (fIn false ++ fNn ++ fGe (.var 3) false) yes := by cases z <;> (unfold RunP; kernel_rfl)
theorem p2e (z : Zv) : RunP z (T2 z) (fIn false ++ fNn ++ fGe (.var 3) true) yes := by cases z <;> (unfold RunP; kernel_rfl)
end Go.Proofs.Ytighjgmgpphohaa
