/-
  Rows that came in: elements that are made of numbers alone, whatever structs they stand in; their ranges.
-/
import Derived.Test.YtagdcclpibjfoaaDoorVm24
import Derived.ChangeArms
import Derived.Lib.SmallJoins
namespace Go.Vm
open Go.ChangeShapes Go.WideShapes Go.ChangeAt Go.RowKit

section
variable {H : Type} {enc : TypeId × Value → H} {P : Program} {W : World} {base : Nat} {sp : Nat → Bool} {held : Bool}
/-- All its numbers are such ones. -/
def InRow (ks : List IntKind) (m : Nat) (u : Value) : Prop := (∀ i j k, i < m → ks[j]? = some k → k.min ≤ selI u (i * ks.length + j) ∧ selI u (i * ks.length + j) ≤ k.max) ∧ ∀ i, m * ks.length ≤ i → selI u i = 0
/-- Of every element, be it there or not. -/
theorem InRow.all {ks : List IntKind} {m : Nat} {u : Value} (h : InRow ks m u) {j : Nat} {k : IntKind} (hk : ks[j]? = some k) (i : Nat) (h0 : k.min ≤ 0 ∧ 0 ≤ k.max) : k.min ≤ selI u (i * ks.length + j) ∧ selI u (i * ks.length + j) ≤ k.max := by
  rcases Nat.lt_or_ge i m with h1 | h1
  · exact h.1 i j k h1 hk
  · rw [h.2 _ (by have := Nat.mul_le_mul_right ks.length h1; omega)]; exact h0
end
end Go.Vm
