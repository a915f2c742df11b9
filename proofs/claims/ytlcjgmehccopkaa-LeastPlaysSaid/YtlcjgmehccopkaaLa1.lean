/-
  LeastPlays (1): the reference's stocks: the heads of its loops.
-/
import Derived.Test.YtlcjgmehccopkaaLp9
namespace Go.Proofs.Ytlcjgmehccopkaa
open Go.Vm Go.Vm.Le
namespace La
open Lp

def lvA (z : Bool) : AVal := cond z (.slice 0 (.lit 0) (.var 30) (.var 32)) .sliceNil
def lvB : ABlk := .arr (.code [.i64] (.var 33)) [.i64] 3 (.var 30) (.lit 0) none
def lL (z : Bool) : List (Nat × ABlk) := cond z [(0, lvB)] []
def lH (z : Bool) : List (Nat × HB) := (lL z).map fun p => (p.1, ⟨p.2, false⟩)
def stA (z : Bool) : AVal := .agg [iV 34, iV 35, lvA z]
def gA : Gen := ⟨30, 0, 0, 0⟩
def csL : Cs := [(.cmp .geq (.var 30) (.lit 1), true), (.cmp .leq (.var 30) (.lit 70000), true)]
def csI : Cs := [(.cmp .geq (.var 1) (.lit 0), true), (.cmp .leq (.var 1) (.var 30), true)] ++ csL
def fi (b : Bool) : Cs := [(.cmp .lss (.var 1) (.var 30), b)]
def atL : IT := .un 0 (.var 33) (.elem (.lit 0) 1 0 (.var 1))
-- HAS
def X0 : Tpl := ⟨[(1, iV 36), (4, .bool (.lit false)), (8, lvA true), (9, iV 30), (10, iV 1)], 18, lH true, 1, csI, 3⟩
def fe (b : Bool) : Cs := [(.cmp .eql atL (.var 36), b)]
/-- What Has answers. -/
def spHas : SpG := fun args H nl cs => match args with
  | [.agg [.int .i64 _, .int .i64 _, .sliceNil], .int .i64 _] => some [.ret (.bool (.lit false)) H nl cs]
  | [.agg [.int .i64 _, .int .i64 _, .slice l (.lit (.ofNat 0)) len _], .int .i64 n] => match H.get l with
    | some ⟨.arr (.code [.i64] c) [.i64] _ len' (.lit (.ofNat 0)) _, _⟩ => cond (IT.beq len len' && sureC cs (.cmp .geq len (.lit 1)) && sureC cs (.cmp .leq len (.lit 70000))) (some [.ret (.bool (.cmp .eql (.fn 88 c n) (.lit 1))) H nl cs]) none
    | _ => none
  | _ => none
-- TAKE
def tB : HB := ⟨.cells [.int .i64 (.lit 0), .int .i64 (.lit 0), .sliceNil] 41 none, true⟩
def tA (z : Bool) : HB := ⟨.cells [iV 34, iV 35, lvA z] 41 none, true⟩
def csT (z : Bool) : Cs := cond z csL []
def K0 (z : Bool) : Tpl := ⟨[(1, .ptr 1 (.lit 0)), (2, .ptr 2 (.lit 0)), (4, iV 2)], 32, lH z ++ [(1, tA z), (2, tB)], 3, csT z, 3⟩
def rw11 : HB := ⟨.arr (.code [.i64] (.var 10)) [.i64] 3 (.var 8) (.lit 0) (some (.nv 10)), true⟩
def eK (z : Bool) : List Tpl := [⟨[(0, .tuple [.agg [iV 34, iV 7, .slice 11 (.lit 0) (.var 8) (.nv 10)], iV 9])], 1, [(11, rw11)], 12, [], 0⟩, ⟨[(0, .tuple [.agg [iV 34, iV 35, lvA z], .int .i64 (.lit 0)])], 1, lH z, 12, [], 0⟩]
def fm (b : Bool) : Cs := [(.cmp .leq (.var 2) (.var 34), b)]
def fh (z : Bool) (b : Bool) : Cs := cond z [(.cmp .eql (.fn 88 (.var 33) (.var 2)) (.lit 1), b)] []
def fg (b : Bool) : Cs := [(.cmp .gtr (.var 2) (.var 35), b)]
def sp14 : CallF := spL [(16, spHas)]
-- GIVE
def gvB : HB := ⟨.arr (.code [.i64] (.var 10)) [.i64] 3 (.var 8) (.lit 0) (some (.nv 10)), true⟩
def gvA (y : Bool) : AVal := cond y (.slice 11 (.lit 0) (.var 8) (.nv 10)) .sliceNil
def V0 (y : Bool) : Tpl := ⟨[(1, iV 36), (2, .ptr 1 (.lit 0)), (4, .ptr 2 (.lit 0)), (6, gvA y), (11, lvA true), (12, iV 30), (13, iV 1)], 35, lH true ++ [(1, tA true), (2, tB)] ++ cond y [(11, gvB)] [], 12, csI ++ cond y [(.cmp .geq (.var 8) (.lit 1), true), (.cmp .leq (.var 8) (.lit 70000), true)] [], 3⟩
def eV : List Tpl := [⟨[(0, .tuple [.agg [iV 34, iV 35, gvA true], .bool (.cmp .lss (.var 8) (.var 30))])], 1, [(11, gvB)], 12, [], 0⟩, ⟨[(0, .tuple [.agg [iV 34, iV 35, .sliceNil], .bool (.cmp .lss (.lit 0) (.var 30))])], 1, [], 12, [], 0⟩]
def fne (b : Bool) : Cs := [(.cmp .neq atL (.var 36), b)]
end La
end Go.Proofs.Ytlcjgmehccopkaa
