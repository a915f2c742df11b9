/-
  Plans (5): the dice, in plain Lean.
-/
import Derived.Test.YthifhdckfcgbkaaGreatSc7
namespace Go.Proofs.YthifhdckfcgbkaaGreat
open Go.Vm

def nxS (s : Int) : Int := (1103515245 * (s % 2147483648) + 12345) % 2147483648
def thS (s n : Int) : Int := nxS s / 65536 % n
theorem nxS_bnd (s : Int) : 0 ≤ nxS s ∧ nxS s < 2147483648 := by unfold nxS; omega
theorem thS_bnd (s : Int) {n : Int} (h : 0 < n) : 0 ≤ thS s n ∧ thS s n < n := ⟨Int.emod_nonneg _ (by omega), Int.emod_lt_of_pos _ h⟩
/-- Which of key, a and b an operation uses. -/
def useK (c : Int) : Bool := decide (4 ≤ c ∧ c ≠ 8)
def useA (c : Int) : Bool := decide (c = 1 ∨ c = 5 ∨ c = 7 ∨ c = 10)
def useB (c : Int) : Bool := decide (c = 7)
/-- An event that is drawn: who comes, what; the seed behind it. The plan's numbers: actors, picks, keys, stalls. -/
structure Ev where
  s : Int
  k : Int
  w : Int
  o : Int
  n : Int
  c : Int
  y : Int
  a : Int
  b : Int
def opS (K w s : Int) : Ev :=
  let c := 1 + thS s 14
  let s1 := nxS s
  let s2 := if useK c then nxS s1 else s1
  let s3 := if useA c then nxS s2 else s2
  ⟨if useB c then nxS s3 else s3, 1, w, 0, 0, c, if useK c then thS s1 K else 0, if useA c then thS s2 4 else 0, if useB c then thS s3 4 else 0⟩
def evS (A P K S s : Int) : Ev :=
  let w := thS s A
  let s1 := nxS s
  let t := thS s1 100
  let s2 := nxS s1
  if t < S then (if thS s2 2 = 1 then ⟨nxS (nxS s2), 4, w, thS (nxS s2) A, 0, 0, 0, 0, 0⟩ else ⟨nxS s2, 3, w, 0, 0, 0, 0, 0, 0⟩)
  else if 98 ≤ t then ⟨s2, 2, w, 0, 0, 0, 0, 0, 0⟩
  else if 95 ≤ t then ⟨s2, 0, w, 0, 0, 0, 0, 0, 0⟩
  else if 80 ≤ t then opS K w s2
  else ⟨nxS s2, 5, w, 0, 1 + thS s2 P, 0, 0, 0, 0⟩
def intV (z : Int) : Value := .int .i64 z
def cells8 (k w o n c y a b : Int) : List Value := [intV k, intV w, intV o, intV n, intV c, intV y, intV a, intV b]
def Ev.cells (e : Ev) : List Value := cells8 e.k e.w e.o e.n e.c e.y e.a e.b
/-- The joins and first picks of so many actors. -/
def rowJ : Nat → List Value
  | 0 => []
  | i + 1 => rowJ i ++ (cells8 0 i 0 0 0 0 0 0 ++ cells8 5 i 0 40 0 0 0 0)
def seedS (A P K S s : Int) : Nat → Int
  | 0 => s
  | i + 1 => (evS A P K S (seedS A P K S s i)).s
def rowE (A P K S s : Int) : Nat → List Value
  | 0 => rowJ A.toNat
  | i + 1 => rowE A P K S s i ++ (evS A P K S (seedS A P K S s i)).cells

end Go.Proofs.YthifhdckfcgbkaaGreat
