/-
  HistoryWide (2): heads of loops.
-/
import Derived.Test.YtagdcclpibjfoaaDoorHw1
namespace Go.Proofs.YtagdcclpibjfoaaDoor
open Go.Vm

def ksR : List IntKind := [.i64, .i64, .i64, .i64, .i64, .i64, .i64, .i64, .i64, .i64, .i64, .i64, .i64, .i64, .i64, .u64]
def sl : AVal := .slice 0 (.var 12) (.var 10) (.var 11)
def H0 : List (Nat × HB) := [(0, ⟨.arr (.var 0) ksR 32 (.var 10) (.var 12) none, false⟩)]
def nI : AVal := .int .i64 (.var 10)
def iI (k : Nat) : AVal := .int .i64 (.var k)
def inCs (k : Nat) : Cs := [(.cmp .geq (.var k) (.lit 0), true), (.cmp .leq (.var k) (.var 10), true)]
def g10 : Gen := ⟨10, 0, 0, 0⟩
/-- history.Width: the loop of all, the loop within. -/
def W0 : Tpl := ⟨[(0, sl), (9, sl), (10, nI), (11, iI 0), (3, iI 1)], 39, H0, 1, inCs 0, 3⟩
def W1 : Tpl := ⟨[(0, sl), (9, sl), (10, nI), (11, iI 0), (3, iI 1), (15, sl), (16, nI), (17, iI 2), (6, iI 3), (5, .ptr 1 (.lit 0))], 39, (1, ⟨.cells (selCells 0 16 (.var 0) ksR 0) 32 none, true⟩) :: H0, 2, (.cmp .lss (.var 0) (.var 10), true) :: inCs 0 ++ inCs 2, 8⟩
/-- ref.Open -/
def O0 : Tpl := ⟨[(0, sl), (1, .int .i64 (.var 20)), (8, sl), (9, nI), (10, iI 0), (5, iI 1)], 33, H0, 1, inCs 0, 3⟩
/-- ref.Width -/
def R0 : Tpl := ⟨[(0, sl), (6, sl), (7, nI), (8, iI 0), (3, iI 1)], 26, H0, 1, inCs 0, 3⟩
/-- the law -/
def L0 : Tpl := ⟨[(0, sl), (7, sl), (8, nI), (9, iI 0)], 34, H0, 1, inCs 0, 3⟩
/-- ref.Open of the row that came in, at a time: the function 1. -/
def spOpen : SpG := fun args H nl cs => match args with
  | [x, .int .i64 a] => match rowArg H x 0 ksR with
    | some (.var 10) => some [.ret (.int .i64 (.fn 1 a (.lit 0))) H nl cs]
    | _ => none
  | _ => none
/-- A function of that row: a number's name. -/
def spRow (k : Nat) : SpG := fun args H nl cs => match args with
  | [x] => match rowArg H x 0 ksR with
    | some (.var 10) => some [.ret (.int .i64 (.var k)) H nl cs]
    | _ => none
  | _ => none
end Go.Proofs.YtagdcclpibjfoaaDoor
