/-
  Gears (1): PaceGears: the heads of its loops.
-/
import Derived.Test.YtighjgmgpphohaaPc3
namespace Go.Proofs.Ytighjgmgpphohaa
open Go.Vm Go.RowKit Go.Lib
namespace Gr

def nT : IT := .cv .i64 (.var 20)
def kT : IT := .cv .i64 (.var 21)
def sp4 : CallF := spL [(6, spTrue), (40, spClone [.u64, .i64] 35)]
def z64 : AVal := .int .u64 (.lit 0)
def zi : AVal := .int .i64 (.lit 0)
def arC (reads : IT) : HB := ⟨.cells [.int .i64 (.lit 9), zi, zi, zi, z64, z64, z64, z64, z64, z64, z64, z64, z64, z64, .ptr 3 (.lit 0), .map 4, zi, zi, .int .i64 reads, zi, zi, zi] 77 none, true⟩
def bx (v : AVal) (e : TypeId) : HB := ⟨.cells [v] e none, true⟩
/-- The number k: a name, or zero. -/
def kV (z : Bool) : IT := cond z (.var 21) (.lit 0)
def fn17 : AVal := .func (.func 17) [] [.ptr 8 (.lit 0), .ptr 0 (.lit 0), .ptr 7 (.lit 0), .ptr 6 (.lit 0), .ptr 1 (.lit 0), .ptr 9 (.lit 0)]
def tm0 : List (Nat × AVal) := [(2, .ptr 0 (.lit 0)), (3, .ptr 1 (.lit 0)), (5, .ptr 6 (.lit 0)), (7, .ptr 7 (.lit 0)), (8, .ptr 8 (.lit 0)), (9, .ptr 9 (.lit 0)), (23, .int .i64 nT), (24, iV 10)]
def HG (z : Bool) (g did ran : AVal) (reads : IT) : List (Nat × HB) := [(0, bx (.int .u8 (.var 20)) 5), (1, bx (.int .u8 (kV z)) 5), (6, bx (.ptr 5 (.lit 0)) 25), (5, arC reads), (7, bx g 40), (8, bx did 3), (9, bx ran 3)]
def G0 (z : Bool) : Tpl := ⟨tm0, 82, HG z fn17 (iV 10) zi (.lit 0), 10, [], 3⟩
def gi (b : Bool) : Cs := [(.cmp .lss (.var 10) nT, b)]
def dd (b : Bool) : Cs := [(.cmp .eql (.bin .add .i64 (.var 10) (.lit 1)) (.bin .add .i64 nT (.lit 1)), b)]
def dn : Cs := [(.cmp .neq (.var 10) nT, false)]
def kk : Cs := [(.cmp .geq kT (.lit 1), true), (.cmp .leq kT (.lit 1000000), true), (.cmp .eql (.var 21) (.lit 0), false)]
-- THE SECOND LOOP
def fn44 : AVal := .func (.func 44) [] [.ptr 15 (.lit 0), .ptr 14 (.lit 0), .ptr 16 (.lit 0)]
def fn54 : AVal := .func (.func 54) [.ptr 13 (.lit 0)] []
def fn19 : AVal := .func (.func 19) [] [.ptr 8 (.lit 0), .ptr 9 (.lit 0)]
def at0 (cp : Option IT) : HB := ⟨.arr (.code [.u64, .i64] (.un 20 kT (.lit 2))) [.u64, .i64] 35 kT (.lit 0) cp, true⟩
def rdC (nx todo words : AVal) : HB := ⟨.cells [nx, .ptr 5 (.lit 0), todo, words] 80 none, true⟩
def td0 : AVal := .slice 12 (.lit 0) kT (.nv 11)
def td1 : AVal := .slice 12 (.elem (.lit 0) 2 0 (.var 15)) (.var 16) (.var 17)
def rowX : HB := ⟨.arr (.code [.u64] (.var 2)) [.u64] 32 (.var 11) (.lit 0) (some (.nv 18)), true⟩
def wd1 : AVal := .slice 19 (.lit 0) (.var 11) (.nv 18)
def tm1 (j : IT) : List (Nat × AVal) := [(2, .ptr 0 (.lit 0)), (3, .ptr 1 (.lit 0)), (5, .ptr 6 (.lit 0)), (7, .ptr 7 (.lit 0)), (8, .ptr 8 (.lit 0)), (9, .ptr 9 (.lit 0)), (48, .int .i64 kT), (49, .int .i64 j)]
def HL (g ran : AVal) (j : IT) : List (Nat × HB) := HG true g (iV 12) ran j ++ [(14, bx (.ptr 7 (.lit 0)) 84), (15, bx (.iface 30 (.ptr 13 (.lit 0))) 86), (16, bx fn19 1)]
def csJ : Cs := [(.cmp .geq (.var 11) (.lit 1), true), (.cmp .leq (.var 11) (.lit 255), true)]
def csK : Cs := [(.cmp .geq kT (.lit 1), true), (.cmp .leq kT (.lit 255), true)]
def R0 : Tpl := ⟨tm1 (.lit 0), 82, HL fn44 zi (.lit 0) ++ [(13, rdC fn54 td0 .sliceNil), (12, at0 (some (.nv 11)))], 17, csK, 3⟩
def R1 : Tpl := ⟨tm1 (.var 11), 82, HL fn44 zi (.var 11) ++ [(13, rdC fn54 td1 wd1), (12, at0 none), (19, rowX)], 20, csJ ++ csK, 3⟩
def R2 : Tpl := ⟨tm1 (.var 11), 82, HG true .nilFunc (iV 12) (iV 12) (.var 11), 20, [], 3⟩
def Ls : List Tpl := [R1, R2, R0]
def uT (j : Nat) (i : IT) : IT := .un 0 (.un 20 kT (.lit 2)) (.elem (.lit 0) 2 j i)
def fRd (i n : IT) (b : Bool) : Cs := [(.cmp .neq (uT 0 i) (.lit 0), false), (.cmp .lss (uT 1 i) (.lit 0), false), (.cmp .geq (uT 1 i) (.lit 9), false), (.cmp .eql (uT 1 i) (.lit 0), true), (.cmp .geq (.lit 0) (.lit 0), true), (.cmp .lss (.lit 0) n, true), (.cmp .geq (.lit 1) (.lit 0), true), (.cmp .leq (.lit 1) n, true), (.cmp .geq i (.lit 0), true), (.cmp .lss i kT, true), (.cmp .gtr (.un 14 n (.lit 1)) (.lit 0), b)]
def i1 : IT := .elem (.var 15) 1 0 (.lit 0)
def ji (j : IT) (b : Bool) : Cs := [(.cmp .lss j kT, b)]
def gE : Cs := [(.cmp .neq (.var 12) (.lit 0), true), (.cmp .eql (.var 12) (.bin .add .i64 nT (.lit 1)), true), (.cmp .eql (.var 11) kT, true)]
end Gr
end Go.Proofs.Ytighjgmgpphohaa
