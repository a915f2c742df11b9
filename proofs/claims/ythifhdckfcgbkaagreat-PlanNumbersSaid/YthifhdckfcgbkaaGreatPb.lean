/-
  Plans (2): the first of these calls, walked.
-/
import Derived.Test.YthifhdckfcgbkaaGreatPa
namespace Go.Proofs.YthifhdckfcgbkaaGreat
open Go.Vm
theorem runC0 : (run Tryz.prog [] noSp 40000 false 32 (entry Tryz.f32 (Tryz.f32.body.getD .ret) Clos.c0.args (ofP Clos.c0.h) Clos.c0.nl [])).map Clos.c0.ends = some true := by kernel_rfl
theorem runC1 : (run Tryz.prog [] noSp 40000 false 32 (entry Tryz.f32 (Tryz.f32.body.getD .ret) Clos.c1.args (ofP Clos.c1.h) Clos.c1.nl [])).map Clos.c1.ends = some true := by kernel_rfl
theorem runC2 : (run Tryz.prog [] noSp 40000 false 32 (entry Tryz.f32 (Tryz.f32.body.getD .ret) Clos.c2.args (ofP Clos.c2.h) Clos.c2.nl [])).map Clos.c2.ends = some true := by kernel_rfl
theorem runC3 : (run Tryz.prog [] noSp 40000 false 32 (entry Tryz.f32 (Tryz.f32.body.getD .ret) Clos.c3.args (ofP Clos.c3.h) Clos.c3.nl [])).map Clos.c3.ends = some true := by kernel_rfl
theorem runC4 : (run Tryz.prog [] noSp 40000 false 32 (entry Tryz.f32 (Tryz.f32.body.getD .ret) Clos.c4.args (ofP Clos.c4.h) Clos.c4.nl [])).map Clos.c4.ends = some true := by kernel_rfl
end Go.Proofs.YthifhdckfcgbkaaGreat
