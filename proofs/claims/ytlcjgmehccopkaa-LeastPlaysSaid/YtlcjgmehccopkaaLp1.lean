/-
  Stocks (1): a stock's methods over its blocks: the heads and the ways.
-/
import Derived.Test.YtlcjgmehccopkaaLe4
import Derived.Test.YtlcjgmehccopkaaVm29
namespace Go.Proofs.Ytlcjgmehccopkaa
open Go.Vm Go.Vm.Le
namespace Lp

/-- Where the numbers lie that were given back. -/
inductive Bk where
  | nil
  | zero
  | row
def Bk.v : Bk → AVal
  | .nil => .sliceNil
  | .zero => .slice 1 (.var 11) (.lit 0) (.lit 0)
  | .row => .slice 1 (.lit 0) (.var 6) (.nv 4)
def iV (i : Nat) : AVal := .int .i64 (.var i)
def stB (v : AVal) : HB := ⟨.cells [iV 0, iV 3, v, .map 2] 51 none, true⟩
def mB : HB := ⟨.mapc (.var 4), true⟩
def rB : HB := ⟨.arr (.code [.i64] (.var 5)) [.i64] 3 (.var 7) (.lit 0) (some (.nv 4)), true⟩
def hB : Bk → List (Nat × HB)
  | .row => [(0, stB Bk.row.v), (2, mB), (1, rB)]
  | z => [(0, stB z.v), (2, mB)]
def csS : Cs := [(.cmp .geq (.var 0) (.lit 0), true), (.cmp .leq (.var 0) (.lit 65535), true), (.cmp .geq (.var 3) (.lit 0), true), (.cmp .leq (.var 3) (.var 0), true)]
def csR : Cs := [(.cmp .geq (.var 6) (.lit 0), true), (.cmp .leq (.var 6) (.lit 65535), true), (.cmp .leq (.var 6) (.var 7), true)]
def csB : Bk → Cs
  | .row => csR ++ csS
  | _ => csS
def gS : Gen := ⟨10, 0, 0, 0⟩
/-- A row of its own, laid anew. -/
def hB3 : List (Nat × HB) := [(0, stB (.slice 3 (.lit 0) (.var 6) (.nv 4))), (2, mB), (3, rB)]
/-- The ends: an answer, and the stock. -/
def eS (u : AVal) : List Tpl := [⟨[(0, u)], 1, hB .row, 5, [], 0⟩, ⟨[(0, u)], 1, hB .nil, 5, [], 0⟩, ⟨[(0, u)], 1, hB .zero, 5, [], 0⟩, ⟨[(0, u)], 1, hB3, 5, [], 0⟩]
def oL : Bk → List Nat
  | .row => [0, 1, 2]
  | _ => [0, 2]
def rO : List (Nat × ABlk) := [(0, .cells [iV 0, iV 3, .var 12, .map 2] 51 none), (2, .mapc (.var 4))]
def tk : AVal := .tuple [iV 8, iV 9]
def sp8 : CallF := spL [(22, spUp), (24, spDown)]
def tN0 : IT := .sel 0 3 2 (.var 1)
def noX : Cs := [(.cmp .eql x5 (.lit 0), false)]
def noH : Cs := [(.cmp .eql h1 (.lit 0), false)]
end Lp
end Go.Proofs.Ytlcjgmehccopkaa
