/-
  A machine for abstract states over the model: families of objects that lie in many blocks (here: none).
-/
import Derived.Test.YtjjijagclgambaaGreatDoorVm2
namespace Go.Vm

/-- An object of such a family, told by such a number, that begins in such a block and lies in these. -/
def fam (_ : Nat) (_ : Int) (_ : World) (_ : Nat) (_ : Nat → Prop) : Prop := False
theorem fam_local {k : Nat} {x : Int} {w w' : World} {b : Nat} {F : Nat → Prop} (h : fam k x w b F) (_ : ∀ y, F y → w'.heap[y]? = w.heap[y]?) : fam k x w' b F := h.elim
theorem fam_lt {k : Nat} {x : Int} {w : World} {b : Nat} {F : Nat → Prop} (h : fam k x w b F) {y : Nat} (_ : F y) : y < w.heap.size := h.elim
theorem fam_root {k : Nat} {x : Int} {w : World} {b : Nat} {F : Nat → Prop} (h : fam k x w b F) : F b := h.elim
end Go.Vm
