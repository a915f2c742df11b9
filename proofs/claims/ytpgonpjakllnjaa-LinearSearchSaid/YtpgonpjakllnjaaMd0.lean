/-
  LinearModel: what a model answers, and becomes, plainly.
-/
import Derived.Test.YtpgonpjakllnjaaVmF
namespace Go.Vm
namespace Md

/-- A model told by its queue, its map's entries, its semaphores' entries. -/
structure Mod where
  Q : List Int
  M : List Int
  S : List Int
def Mod.code (m : Mod) : Int := encL [encL m.Q, encL m.M, encL m.S]
def Mod.of (x : Int) : Mod := ⟨decL ((decL x).getD 0 0), decL ((decL x).getD 1 0), decL ((decL x).getD 2 0)⟩
theorem Mod.of_code (m : Mod) : Mod.of m.code = m := by
  simp [Mod.of, Mod.code, decL_encL]
def had : Option Int → Int × Int
  | some v => (0, v)
  | none => (1, 0)
/-- The greatest key below this one, with what it has. -/
def flM (M : List Int) : Nat → Int × Int
  | 0 => (1, 0)
  | n + 1 => match mGet M (n : Int) with
    | some v => (0, IntKind.i64.wrap (IntKind.i64.wrap ((n : Int) * 1024) + v))
    | none => flM M n
def stepM (m : Mod) (k n d e at_ : Int) : (Int × Int) × Mod :=
  if n = e then ((at_, 0), m) else ((0, IntKind.i64.wrap (n + d)), { m with S := mPut m.S k (IntKind.i64.wrap (n + d)) })
/-- What a right operation answers, and makes. -/
def apply (m : Mod) (c : Nat) (k a b : Int) : (Int × Int) × Mod := match c with
  | 1 => if 256 ≤ m.Q.length then ((2, 0), m) else ((0, (m.Q.length : Int) + 1), { m with Q := m.Q ++ [a] })
  | 2 => if m.Q = [] then ((1, 0), m) else ((0, m.Q.getD 0 0), { m with Q := m.Q.drop 1 })
  | 3 => ((0, (m.Q.length : Int)), m)
  | 4 => (had (mGet m.M k), m)
  | 5 => (had (mGet m.M k), { m with M := mPut m.M k a })
  | 6 => (had (mGet m.M k), { m with M := mDel m.M k })
  | 7 => match mGet m.M k with
    | none => ((1, 0), m)
    | some v => if v = a then ((0, v), { m with M := mPut m.M k b }) else ((4, v), m)
  | 8 => ((0, ((m.M.length / 2 : Nat) : Int)), m)
  | 9 => (flM m.M (k.toNat + 1), m)
  | 10 => (had (mGet m.S k), { m with S := mPut m.S k a })
  | 11 => match mGet m.S k with
    | none => ((1, 0), m)
    | some n => stepM m k n (-1) 0 3
  | 12 => match mGet m.S k with
    | none => ((1, 0), m)
    | some n => stepM m k n 1 1023 2
  | 13 => (had (mGet m.S k), m)
  | 14 => (had (mGet m.S k), { m with S := mDel m.S k })
  | _ => ((1, 0), m)
end Md
end Go.Vm
