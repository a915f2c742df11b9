/-
  Stocks (7): New and Clone: the heads.
-/
import Derived.Test.YtlcjgmehccopkaaLp6
namespace Go.Proofs.Ytlcjgmehccopkaa
open Go.Vm Go.Vm.Le
namespace Lp

/-- A stock laid anew, and its row. -/
def nB (v : AVal) : HB := ⟨.cells [iV 0, iV 3, v, .map 11] 51 none, true⟩
def nM : HB := ⟨.mapc (.var 4), true⟩
def nR : HB := ⟨.arr (.code [.i64] (.var 5)) [.i64] 3 (.var 6) (.lit 0) (some (.nv 13)), true⟩
def nv : Bk → AVal
  | .nil => .sliceNil
  | .zero => .slice 12 (.lit 0) (.lit 0) (.lit 0)
  | .row => .slice 12 (.lit 0) (.var 6) (.nv 13)
def hN : Bk → List (Nat × HB)
  | .row => [(10, nB (nv .row)), (11, nM), (12, nR)]
  | z => [(10, nB (nv z)), (11, nM)]
def eN (u : AVal) : List Tpl := [⟨[(0, u)], 1, hN .row, 14, [], 0⟩, ⟨[(0, u)], 1, hN .nil, 14, [], 0⟩, ⟨[(0, u)], 1, hN .zero, 14, [], 0⟩]
/-- The stock that is cloned, only read. -/
def cv : Bk → AVal
  | .nil => .sliceNil
  | .zero => .slice 1 (.var 11) (.lit 0) (.var 12)
  | .row => .slice 1 (.lit 0) (.var 6) (.nv 4)
def cR : ABlk := .arr (.code [.i64] (.var 5)) [.i64] 3 (.var 6) (.lit 0) (some (.nv 4))
def cL (z : Bk) : List (Nat × ABlk) := match z with
  | .row => [(0, .cells [iV 0, iV 3, cv .row, .map 2] 51 none), (2, .mapc (.var 4)), (1, .arr (.code [.i64] (.var 5)) [.i64] 3 (.var 6) (.lit 0) none)]
  | z => [(0, .cells [iV 0, iV 3, cv z, .map 2] 51 none), (2, .mapc (.var 4))]
def fC : Cs := [(.cmp .geq (.var 6) (.lit 1), true), (.cmp .leq (.var 6) (.lit 1000000), true)]
def fW : Cs := [(.cmp .lss (.var 0) (.lit 0), false), (.cmp .gtr (.var 0) (.lit 65535), false)]
def spC : CallF := spL [(19, spClone [.i64] 3)]
def spC0 : CallF := spL []
def xC : Exts := [(23, .mapsClone)]
end Lp
end Go.Proofs.Ytlcjgmehccopkaa
