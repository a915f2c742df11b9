/-
  LinearModel (4): a model's heads, and the ways of Apply.
-/
import Derived.Test.YtpgonpjakllnjaaLm3
import Derived.Test.YtpgonpjakllnjaaMd0
namespace Go.Proofs.Ytpgonpjakllnjaa
open Go.Vm Go.Vm.Md
namespace Lm

/-- Where a queue lies. -/
inductive Bq where
  | nil
  | zero
  | row
def Bq.v (l : Nat) : Bq → AVal
  | .nil => .sliceNil
  | .zero => .slice l (.var 11) (.lit 0) (.lit 0)
  | .row => .slice l (.lit 0) (.var 6) (.nv 4)
def iV (i : Nat) : AVal := .int .i64 (.var i)
def mdB (v : AVal) : HB := ⟨.cells [v, .map 2, .map 3] 65 none, true⟩
def mpB : HB := ⟨.mapc (.var 7), true⟩
def smB : HB := ⟨.mapc (.var 8), true⟩
def qrB : HB := ⟨.arr (.code [.i64] (.var 5)) [.i64] 3 (.var 6) (.lit 0) (some (.nv 4)), true⟩
def hM (l : Nat) (z : Bq) : List (Nat × HB) := [(0, mdB (z.v l)), (2, mpB), (3, smB)] ++ (match z with
  | .row => [(l, qrB)]
  | _ => [])
def oM : Bq → List Nat
  | .row => [0, 2, 3, 1]
  | _ => [0, 2, 3]
def gM : Gen := ⟨30, 0, 0, 0⟩
def ans : AVal := .agg [iV 20, iV 21]
def eM (u : AVal) : List Tpl := [⟨[(0, u)], 1, hM 1 .row, 10, [], 0⟩, ⟨[(0, u)], 1, hM 1 .nil, 10, [], 0⟩, ⟨[(0, u)], 1, hM 1 .zero, 10, [], 0⟩, ⟨[(0, u)], 1, hM 9 .row, 10, [], 0⟩, ⟨[(0, u)], 1, hM 9 .zero, 10, [], 0⟩]
def csQ : Bq → Cs
  | .row => [(.cmp .geq (.var 6) (.lit 1), true), (.cmp .leq (.var 6) (.lit 1000), true), (.cmp .leq (.var 6) (.lit 1000000), true)]
  | _ => []
def opM (c : Nat) : AVal := .agg [.int .i64 (.lit (.ofNat c)), iV 31, iV 32, iV 33]
def fR (c : Nat) (b : Bool) : Cs := [(tRight (.lit (.ofNat c)) (.var 31) (.var 32) (.var 33), b)]
def spM : CallF := spL [(27, spA spRight), (22, spLeft)]
def me : AVal := .ptr 0 (.lit 0)
end Lm
end Go.Proofs.Ytpgonpjakllnjaa
