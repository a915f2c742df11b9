/-
  The kit's shelf laid at this program: slices.Delete, slices.Clone at ints: printed by genly2.py.
-/
import Derived.Test.YtpgonpjakllnjaaChecked
import Derived.Shelf.SlicesG.Delete
import Derived.Shelf.SlicesG.Clone
namespace Go.Proofs.Ytpgonpjakllnjaa
open Go.Proofs Go.Shelf
namespace Ls

def delA_ren : Go.Shelf.Ren := ⟨fun | 45 => 47 | n => n, fun | 22 => 32 | 23 => 3 | n => n, fun n => n⟩
theorem delA : SlLaysN.n45 Try.prog delA_ren := {
  mixed := by kernel_rfl
  f45 := ⟨Try.f47.name, by kernel_rfl, Try.func47.trans (congrArg some (by kernel_rfl))⟩
  t0 := Try.underlying0
  a0 := Try.isAgg0
  z0 := Try.sizeOf0
  v0 := Try.zeroValue0
  t3 := Try.underlying3
  a3 := Try.isAgg3
  z3 := Try.sizeOf3
  v3 := Try.zeroValue3
  t4 := Try.underlying4
  a4 := Try.isAgg4
  z4 := Try.sizeOf4
  v4 := Try.zeroValue4
  t22 := Try.underlying32
  a22 := Try.isAgg32
  z22 := Try.sizeOf32
  v22 := Try.zeroValue32
  t23 := Try.underlying3
  a23 := Try.isAgg3
  z23 := Try.sizeOf3
  v23 := Try.zeroValue3
  i23 := by kernel_rfl }
def cloA_ren : Go.Shelf.Ren := ⟨fun | 41 => 22 | n => n, fun | 22 => 32 | 23 => 3 | n => n, fun n => n⟩
theorem cloA : SlLaysN.n41 Try.prog cloA_ren := {
  mixed := by kernel_rfl
  f41 := ⟨Try.f22.name, by kernel_rfl, Try.func22.trans (congrArg some (by kernel_rfl))⟩
  t4 := Try.underlying4
  a4 := Try.isAgg4
  z4 := Try.sizeOf4
  v4 := Try.zeroValue4
  t22 := Try.underlying32
  a22 := Try.isAgg32
  z22 := Try.sizeOf32
  v22 := Try.zeroValue32
  t23 := Try.underlying3
  a23 := Try.isAgg3
  z23 := Try.sizeOf3
  v23 := Try.zeroValue3
  i23 := by kernel_rfl }
end Ls
end Go.Proofs.Ytpgonpjakllnjaa
