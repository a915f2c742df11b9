/-
  Closed calls (Dc1ae): these calls, walked; printed by genclo.py.
-/
import Derived.Test.YtgiomdniafpjnaaGreatDoorDc0
section
namespace Go.Proofs.YtgiomdniafpjnaaGreatDoor
open Go.Vm
namespace We
theorem runc_20 : (run Tryz.prog E40 sp40 400000 false 38 (entry Tryz.f38 (Tryz.f38.body.getD .ret) Clos.c20.args (ofP Clos.c20.h) Clos.c20.nl [])).map (fun ls => Clos.c20.ends (thin Clos.c20.nl ls)) = some true := by kernel_rfl
theorem clo20 : Clos.c20.okF = true ∧ CloF Tryz.prog Clos.c20 := ⟨by kernel_rfl, cloT_of_run noCount E40_ok (fun _ => sp40_ok) follows Tryz.func38 rfl runc_20⟩
theorem runc_21 : (run Tryz.prog E40 sp40 400000 false 38 (entry Tryz.f38 (Tryz.f38.body.getD .ret) Clos.c21.args (ofP Clos.c21.h) Clos.c21.nl [])).map (fun ls => Clos.c21.ends (thin Clos.c21.nl ls)) = some true := by kernel_rfl
theorem clo21 : Clos.c21.okF = true ∧ CloF Tryz.prog Clos.c21 := ⟨by kernel_rfl, cloT_of_run noCount E40_ok (fun _ => sp40_ok) follows Tryz.func38 rfl runc_21⟩
theorem runc_22 : (run Tryz.prog E40 sp40 400000 false 38 (entry Tryz.f38 (Tryz.f38.body.getD .ret) Clos.c22.args (ofP Clos.c22.h) Clos.c22.nl [])).map (fun ls => Clos.c22.ends (thin Clos.c22.nl ls)) = some true := by kernel_rfl
theorem clo22 : Clos.c22.okF = true ∧ CloF Tryz.prog Clos.c22 := ⟨by kernel_rfl, cloT_of_run noCount E40_ok (fun _ => sp40_ok) follows Tryz.func38 rfl runc_22⟩
end We
end Go.Proofs.YtgiomdniafpjnaaGreatDoor
end

/-
  Closed calls (Dc1af): these calls, walked; printed by genclo.py.
-/
section
namespace Go.Proofs.YtgiomdniafpjnaaGreatDoor
open Go.Vm
namespace We
theorem runc_23 : (run Tryz.prog E40 sp40 400000 false 38 (entry Tryz.f38 (Tryz.f38.body.getD .ret) Clos.c23.args (ofP Clos.c23.h) Clos.c23.nl [])).map (fun ls => Clos.c23.ends (thin Clos.c23.nl ls)) = some true := by kernel_rfl
theorem clo23 : Clos.c23.okF = true ∧ CloF Tryz.prog Clos.c23 := ⟨by kernel_rfl, cloT_of_run noCount E40_ok (fun _ => sp40_ok) follows Tryz.func38 rfl runc_23⟩
theorem runc_24 : (run Tryz.prog E40 sp40 400000 false 38 (entry Tryz.f38 (Tryz.f38.body.getD .ret) Clos.c24.args (ofP Clos.c24.h) Clos.c24.nl [])).map (fun ls => Clos.c24.ends (thin Clos.c24.nl ls)) = some true := by kernel_rfl
theorem clo24 : Clos.c24.okF = true ∧ CloF Tryz.prog Clos.c24 := ⟨by kernel_rfl, cloT_of_run noCount E40_ok (fun _ => sp40_ok) follows Tryz.func38 rfl runc_24⟩
theorem runc_25 : (run Tryz.prog E40 sp40 400000 false 38 (entry Tryz.f38 (Tryz.f38.body.getD .ret) Clos.c25.args (ofP Clos.c25.h) Clos.c25.nl [])).map (fun ls => Clos.c25.ends (thin Clos.c25.nl ls)) = some true := by kernel_rfl
theorem clo25 : Clos.c25.okF = true ∧ CloF Tryz.prog Clos.c25 := ⟨by kernel_rfl, cloT_of_run noCount E40_ok (fun _ => sp40_ok) follows Tryz.func38 rfl runc_25⟩
end We
end Go.Proofs.YtgiomdniafpjnaaGreatDoor
end
