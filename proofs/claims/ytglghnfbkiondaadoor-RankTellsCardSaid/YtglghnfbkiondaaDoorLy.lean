/-
  The kit's shelf laid at this program: slices.Sorted (with Collect, AppendSeq), maps.Keys, slices.Sort: printed by genly.py.
-/
import Derived.Test.YtglghnfbkiondaaDoorChecked
import Derived.Shelf.SlIterI.Nil
import Derived.Shelf.SlIterI.Sorted
import Derived.Shelf.SortM.Plain
import Derived.Shelf.SortM.SortNone
import Derived.Shelf.Small.Bits
namespace Go.Proofs.YtglghnfbkiondaaDoor
open Go.Proofs Go.Shelf
namespace Rk

def keysA_ren : Go.Shelf.Ren := ⟨fun | 7 => 28 | 10 => 40 | n => n, fun | 23 => 46 | 26 => 3 | 3 => 26 | 28 => 54 | 27 => 53 | 33 => 67 | n => n, fun n => n⟩
theorem keysA : SlLaysZI.n7 Tryd.prog keysA_ren := {
  mixed := by kernel_rfl
  f7 := ⟨Tryd.f28.name, by kernel_rfl, Tryd.func28.trans (congrArg some (by kernel_rfl))⟩
  f10 := ⟨Tryd.f40.name, by kernel_rfl, Tryd.func40.trans (congrArg some (by kernel_rfl))⟩
  t0 := Tryd.underlying0
  a0 := Tryd.isAgg0
  z0 := Tryd.sizeOf0
  v0 := Tryd.zeroValue0
  t4 := Tryd.underlying4
  a4 := Tryd.isAgg4
  z4 := Tryd.sizeOf4
  v4 := Tryd.zeroValue4
  t23 := Tryd.underlying46
  a23 := Tryd.isAgg46
  z23 := Tryd.sizeOf46
  v23 := Tryd.zeroValue46
  t26 := Tryd.underlying3
  a26 := Tryd.isAgg3
  z26 := Tryd.sizeOf3
  v26 := Tryd.zeroValue3
  t27 := Tryd.underlying53
  a27 := Tryd.isAgg53
  z27 := Tryd.sizeOf53
  v27 := Tryd.zeroValue53
  t28 := Tryd.underlying54
  a28 := Tryd.isAgg54
  z28 := Tryd.sizeOf54
  v28 := Tryd.zeroValue54
  t33 := Tryd.underlying67
  a33 := Tryd.isAgg67
  z33 := Tryd.sizeOf67
  v33 := Tryd.zeroValue67 }

def sortedA_ren : Go.Shelf.Ren := ⟨fun | 6 => 19 | 8 => 34 | 9 => 24 | 11 => 44 | 13 => 18 | 12 => 38 | 23 => 32 | 24 => 33 | 14 => 45 | 15 => 46 | 16 => 47 | 17 => 48 | 18 => 49 | 19 => 50 | 20 => 51 | 21 => 52 | 22 => 53 | 25 => 60 | 26 => 61 | 27 => 62 | 28 => 63 | 29 => 64 | 30 => 65 | 31 => 68 | n => n, fun | 26 => 3 | 28 => 54 | 24 => 22 | 37 => 51 | 48 => 65 | 50 => 39 | 40 => 76 | 39 => 75 | 45 => 81 | 51 => 91 | 55 => 95 | 57 => 100 | 58 => 101 | 33 => 67 | n => n, fun n => n⟩
theorem sortedA : SlLaysZI.n6 Tryd.prog sortedA_ren := {
  mixed := by kernel_rfl
  f6 := ⟨Tryd.f19.name, by kernel_rfl, Tryd.func19.trans (congrArg some (by kernel_rfl))⟩
  f8 := ⟨Tryd.f34.name, by kernel_rfl, Tryd.func34.trans (congrArg some (by kernel_rfl))⟩
  f11 := ⟨Tryd.f44.name, by kernel_rfl, Tryd.func44.trans (congrArg some (by kernel_rfl))⟩
  t0 := Tryd.underlying0
  a0 := Tryd.isAgg0
  z0 := Tryd.sizeOf0
  v0 := Tryd.zeroValue0
  t24 := Tryd.underlying22
  a24 := Tryd.isAgg22
  z24 := Tryd.sizeOf22
  v24 := Tryd.zeroValue22
  t26 := Tryd.underlying3
  a26 := Tryd.isAgg3
  z26 := Tryd.sizeOf3
  v26 := Tryd.zeroValue3
  t28 := Tryd.underlying54
  a28 := Tryd.isAgg54
  z28 := Tryd.sizeOf54
  v28 := Tryd.zeroValue54
  i26 := by kernel_rfl }

def sortA_ren : Go.Shelf.Ren := ⟨fun | 5 => 24 | 8 => 18 | 7 => 38 | 19 => 32 | 20 => 33 | 10 => 45 | 11 => 46 | 12 => 47 | 13 => 48 | 14 => 49 | 15 => 50 | 16 => 51 | 17 => 52 | 18 => 53 | 30 => 60 | 31 => 61 | 32 => 62 | 33 => 63 | 34 => 64 | 35 => 65 | 40 => 68 | n => n, fun | 23 => 22 | 25 => 3 | 32 => 51 | 44 => 65 | 46 => 39 | 36 => 76 | 35 => 75 | 41 => 81 | 53 => 91 | 57 => 95 | 63 => 100 | 64 => 101 | n => n, fun n => n⟩
theorem sortA : SlLaysM.n5 Tryd.prog sortA_ren := {
  mixed := by kernel_rfl
  f5 := ⟨Tryd.f24.name, by kernel_rfl, Tryd.func24.trans (congrArg some (by kernel_rfl))⟩
  f7 := ⟨Tryd.f38.name, by kernel_rfl, Tryd.func38.trans (congrArg some (by kernel_rfl))⟩
  f8 := Tryd.func18.trans (congrArg some (by kernel_rfl))
  f10 := ⟨Tryd.f45.name, by kernel_rfl, Tryd.func45.trans (congrArg some (by kernel_rfl))⟩
  f11 := ⟨Tryd.f46.name, by kernel_rfl, Tryd.func46.trans (congrArg some (by kernel_rfl))⟩
  f12 := ⟨Tryd.f47.name, by kernel_rfl, Tryd.func47.trans (congrArg some (by kernel_rfl))⟩
  f13 := ⟨Tryd.f48.name, by kernel_rfl, Tryd.func48.trans (congrArg some (by kernel_rfl))⟩
  f14 := ⟨Tryd.f49.name, by kernel_rfl, Tryd.func49.trans (congrArg some (by kernel_rfl))⟩
  f15 := ⟨Tryd.f50.name, by kernel_rfl, Tryd.func50.trans (congrArg some (by kernel_rfl))⟩
  f16 := ⟨Tryd.f51.name, by kernel_rfl, Tryd.func51.trans (congrArg some (by kernel_rfl))⟩
  f17 := ⟨Tryd.f52.name, by kernel_rfl, Tryd.func52.trans (congrArg some (by kernel_rfl))⟩
  f18 := ⟨Tryd.f53.name, by kernel_rfl, Tryd.func53.trans (congrArg some (by kernel_rfl))⟩
  f19 := Tryd.func32.trans (congrArg some (by kernel_rfl))
  f20 := Tryd.func33.trans (congrArg some (by kernel_rfl))
  f30 := ⟨Tryd.f60.name, by kernel_rfl, Tryd.func60.trans (congrArg some (by kernel_rfl))⟩
  f31 := Tryd.func61.trans (congrArg some (by kernel_rfl))
  f32 := Tryd.func62.trans (congrArg some (by kernel_rfl))
  f33 := ⟨Tryd.f63.name, by kernel_rfl, Tryd.func63.trans (congrArg some (by kernel_rfl))⟩
  f34 := ⟨Tryd.f64.name, by kernel_rfl, Tryd.func64.trans (congrArg some (by kernel_rfl))⟩
  f35 := ⟨Tryd.f65.name, by kernel_rfl, Tryd.func65.trans (congrArg some (by kernel_rfl))⟩
  f40 := ⟨Tryd.f68.name, by kernel_rfl, Tryd.func68.trans (congrArg some (by kernel_rfl))⟩
  t0 := Tryd.underlying0
  a0 := Tryd.isAgg0
  z0 := Tryd.sizeOf0
  v0 := Tryd.zeroValue0
  t3 := Tryd.underlying3
  a3 := Tryd.isAgg3
  z3 := Tryd.sizeOf3
  v3 := Tryd.zeroValue3
  t4 := Tryd.underlying4
  a4 := Tryd.isAgg4
  z4 := Tryd.sizeOf4
  v4 := Tryd.zeroValue4
  t5 := Tryd.underlying5
  a5 := Tryd.isAgg5
  z5 := Tryd.sizeOf5
  v5 := Tryd.zeroValue5
  t9 := Tryd.underlying9
  a9 := Tryd.isAgg9
  z9 := Tryd.sizeOf9
  v9 := Tryd.zeroValue9
  t22 := Tryd.underlying22
  a22 := Tryd.isAgg22
  z22 := Tryd.sizeOf22
  v22 := Tryd.zeroValue22
  t23 := Tryd.underlying22
  a23 := Tryd.isAgg22
  z23 := Tryd.sizeOf22
  v23 := Tryd.zeroValue22
  t25 := Tryd.underlying3
  a25 := Tryd.isAgg3
  z25 := Tryd.sizeOf3
  v25 := Tryd.zeroValue3
  t32 := Tryd.underlying51
  a32 := Tryd.isAgg51
  z32 := Tryd.sizeOf51
  v32 := Tryd.zeroValue51
  t35 := Tryd.underlying75
  a35 := Tryd.isAgg75
  z35 := Tryd.sizeOf75
  v35 := Tryd.zeroValue75
  t36 := Tryd.underlying76
  a36 := Tryd.isAgg76
  z36 := Tryd.sizeOf76
  v36 := Tryd.zeroValue76
  t41 := Tryd.underlying81
  a41 := Tryd.isAgg81
  z41 := Tryd.sizeOf81
  v41 := Tryd.zeroValue81
  t44 := Tryd.underlying65
  a44 := Tryd.isAgg65
  z44 := Tryd.sizeOf65
  v44 := Tryd.zeroValue65
  t46 := Tryd.underlying39
  a46 := Tryd.isAgg39
  z46 := Tryd.sizeOf39
  v46 := Tryd.zeroValue39
  t53 := Tryd.underlying91
  a53 := Tryd.isAgg91
  z53 := Tryd.sizeOf91
  v53 := Tryd.zeroValue91
  t57 := Tryd.underlying95
  a57 := Tryd.isAgg95
  z57 := Tryd.sizeOf95
  v57 := Tryd.zeroValue95
  t63 := Tryd.underlying100
  a63 := Tryd.isAgg100
  z63 := Tryd.sizeOf100
  v63 := Tryd.zeroValue100
  t64 := Tryd.underlying101
  a64 := Tryd.isAgg101
  z64 := Tryd.sizeOf101
  v64 := Tryd.zeroValue101 }

def lenA_ren : Go.Shelf.Ren := ⟨fun | 125 => 18 | 128 => 32 | 129 => 33 | n => n, fun | 46 => 51 | 51 => 65 | 53 => 39 | n => n, fun n => n⟩
theorem lenA : Lays.n125 Tryd.prog lenA_ren := {
  mixed := by kernel_rfl
  f125 := Tryd.func18.trans (congrArg some (by kernel_rfl))
  f128 := Tryd.func32.trans (congrArg some (by kernel_rfl))
  f129 := Tryd.func33.trans (congrArg some (by kernel_rfl))
  t3 := Tryd.underlying3
  a3 := Tryd.isAgg3
  z3 := Tryd.sizeOf3
  v3 := Tryd.zeroValue3
  t4 := Tryd.underlying4
  a4 := Tryd.isAgg4
  z4 := Tryd.sizeOf4
  v4 := Tryd.zeroValue4
  t5 := Tryd.underlying5
  a5 := Tryd.isAgg5
  z5 := Tryd.sizeOf5
  v5 := Tryd.zeroValue5
  t9 := Tryd.underlying9
  a9 := Tryd.isAgg9
  z9 := Tryd.sizeOf9
  v9 := Tryd.zeroValue9
  t46 := Tryd.underlying51
  a46 := Tryd.isAgg51
  z46 := Tryd.sizeOf51
  v46 := Tryd.zeroValue51
  t51 := Tryd.underlying65
  a51 := Tryd.isAgg65
  z51 := Tryd.sizeOf65
  v51 := Tryd.zeroValue65
  t53 := Tryd.underlying39
  a53 := Tryd.isAgg39
  z53 := Tryd.sizeOf39
  v53 := Tryd.zeroValue39 }

end Rk
end Go.Proofs.YtglghnfbkiondaaDoor
