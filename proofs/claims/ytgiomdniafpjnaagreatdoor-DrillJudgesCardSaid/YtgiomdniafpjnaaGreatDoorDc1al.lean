/-
  Closed calls (Dc1aj): these calls, walked; printed by genclo.py.
-/
import Derived.Test.YtgiomdniafpjnaaGreatDoorDc0
section
namespace Go.Proofs.YtgiomdniafpjnaaGreatDoor
open Go.Vm
namespace We
theorem runc_40 : (run Tryz.prog E40 sp40 400000 false 38 (entry Tryz.f38 (Tryz.f38.body.getD .ret) Clos.c40.args (ofP Clos.c40.h) Clos.c40.nl [])).map (fun ls => Clos.c40.ends (thin Clos.c40.nl ls)) = some true := by kernel_rfl
theorem clo40 : Clos.c40.okF = true ∧ CloF Tryz.prog Clos.c40 := ⟨by kernel_rfl, cloT_of_run noCount E40_ok (fun _ => sp40_ok) follows Tryz.func38 rfl runc_40⟩
theorem runc_41 : (run Tryz.prog E40 sp40 400000 false 38 (entry Tryz.f38 (Tryz.f38.body.getD .ret) Clos.c41.args (ofP Clos.c41.h) Clos.c41.nl [])).map (fun ls => Clos.c41.ends (thin Clos.c41.nl ls)) = some true := by kernel_rfl
theorem clo41 : Clos.c41.okF = true ∧ CloF Tryz.prog Clos.c41 := ⟨by kernel_rfl, cloT_of_run noCount E40_ok (fun _ => sp40_ok) follows Tryz.func38 rfl runc_41⟩
theorem runc_42 : (run Tryz.prog E40 sp40 400000 false 38 (entry Tryz.f38 (Tryz.f38.body.getD .ret) Clos.c42.args (ofP Clos.c42.h) Clos.c42.nl [])).map (fun ls => Clos.c42.ends (thin Clos.c42.nl ls)) = some true := by kernel_rfl
theorem clo42 : Clos.c42.okF = true ∧ CloF Tryz.prog Clos.c42 := ⟨by kernel_rfl, cloT_of_run noCount E40_ok (fun _ => sp40_ok) follows Tryz.func38 rfl runc_42⟩
end We
end Go.Proofs.YtgiomdniafpjnaaGreatDoor
end

/-
  Closed calls (Dc1al): these calls, walked; printed by genclo.py.
-/
section
namespace Go.Proofs.YtgiomdniafpjnaaGreatDoor
open Go.Vm
namespace We
theorem runc_46 : (run Tryz.prog E40 sp40 400000 false 38 (entry Tryz.f38 (Tryz.f38.body.getD .ret) Clos.c46.args (ofP Clos.c46.h) Clos.c46.nl [])).map (fun ls => Clos.c46.ends (thin Clos.c46.nl ls)) = some true := by kernel_rfl
theorem clo46 : Clos.c46.okF = true ∧ CloF Tryz.prog Clos.c46 := ⟨by kernel_rfl, cloT_of_run noCount E40_ok (fun _ => sp40_ok) follows Tryz.func38 rfl runc_46⟩
theorem runc_47 : (run Tryz.prog E40 sp40 400000 false 38 (entry Tryz.f38 (Tryz.f38.body.getD .ret) Clos.c47.args (ofP Clos.c47.h) Clos.c47.nl [])).map (fun ls => Clos.c47.ends (thin Clos.c47.nl ls)) = some true := by kernel_rfl
theorem clo47 : Clos.c47.okF = true ∧ CloF Tryz.prog Clos.c47 := ⟨by kernel_rfl, cloT_of_run noCount E40_ok (fun _ => sp40_ok) follows Tryz.func38 rfl runc_47⟩
theorem runc_50 : (run Tryz.prog E40 sp40 400000 false 31 (entry Tryz.f31 (Tryz.f31.body.getD .ret) Clos.c50.args (ofP Clos.c50.h) Clos.c50.nl [])).map (fun ls => Clos.c50.ends (thin Clos.c50.nl ls)) = some true := by kernel_rfl
theorem clo50 : Clos.c50.okF = true ∧ CloF Tryz.prog Clos.c50 := ⟨by kernel_rfl, cloT_of_run noCount E40_ok (fun _ => sp40_ok) follows Tryz.func31 rfl runc_50⟩
end We
end Go.Proofs.YtgiomdniafpjnaaGreatDoor
end
