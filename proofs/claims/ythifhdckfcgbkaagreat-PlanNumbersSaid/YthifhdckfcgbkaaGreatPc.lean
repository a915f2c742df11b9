/-
  Plans (3): the others of these calls, walked.
-/
import Derived.Test.YthifhdckfcgbkaaGreatPb
namespace Go.Proofs.YthifhdckfcgbkaaGreat
open Go.Vm
theorem runC5 : (run Tryz.prog [] noSp 40000 false 32 (entry Tryz.f32 (Tryz.f32.body.getD .ret) Clos.c5.args (ofP Clos.c5.h) Clos.c5.nl [])).map Clos.c5.ends = some true := by kernel_rfl
theorem runC6 : (run Tryz.prog [] noSp 40000 false 32 (entry Tryz.f32 (Tryz.f32.body.getD .ret) Clos.c6.args (ofP Clos.c6.h) Clos.c6.nl [])).map Clos.c6.ends = some true := by kernel_rfl
theorem runC7 : (run Tryz.prog [] noSp 40000 false 32 (entry Tryz.f32 (Tryz.f32.body.getD .ret) Clos.c7.args (ofP Clos.c7.h) Clos.c7.nl [])).map Clos.c7.ends = some true := by kernel_rfl
theorem runC8 : (run Tryz.prog [] noSp 40000 false 32 (entry Tryz.f32 (Tryz.f32.body.getD .ret) Clos.c8.args (ofP Clos.c8.h) Clos.c8.nl [])).map Clos.c8.ends = some true := by kernel_rfl
end Go.Proofs.YthifhdckfcgbkaaGreat
