/-
  Closed calls (Dc1ak): these calls, walked; printed by genclo.py.
-/
import Derived.Test.YtgiomdniafpjnaaGreatDoorDc0
section
namespace Go.Proofs.YtgiomdniafpjnaaGreatDoor
open Go.Vm
namespace We
theorem runc_43 : (run Tryz.prog E40 sp40 400000 false 38 (entry Tryz.f38 (Tryz.f38.body.getD .ret) Clos.c43.args (ofP Clos.c43.h) Clos.c43.nl [])).map (fun ls => Clos.c43.ends (thin Clos.c43.nl ls)) = some true := by kernel_rfl
theorem clo43 : Clos.c43.okF = true ∧ CloF Tryz.prog Clos.c43 := ⟨by kernel_rfl, cloT_of_run noCount E40_ok (fun _ => sp40_ok) follows Tryz.func38 rfl runc_43⟩
theorem runc_44 : (run Tryz.prog E40 sp40 400000 false 38 (entry Tryz.f38 (Tryz.f38.body.getD .ret) Clos.c44.args (ofP Clos.c44.h) Clos.c44.nl [])).map (fun ls => Clos.c44.ends (thin Clos.c44.nl ls)) = some true := by kernel_rfl
theorem clo44 : Clos.c44.okF = true ∧ CloF Tryz.prog Clos.c44 := ⟨by kernel_rfl, cloT_of_run noCount E40_ok (fun _ => sp40_ok) follows Tryz.func38 rfl runc_44⟩
theorem runc_45 : (run Tryz.prog E40 sp40 400000 false 38 (entry Tryz.f38 (Tryz.f38.body.getD .ret) Clos.c45.args (ofP Clos.c45.h) Clos.c45.nl [])).map (fun ls => Clos.c45.ends (thin Clos.c45.nl ls)) = some true := by kernel_rfl
theorem clo45 : Clos.c45.okF = true ∧ CloF Tryz.prog Clos.c45 := ⟨by kernel_rfl, cloT_of_run noCount E40_ok (fun _ => sp40_ok) follows Tryz.func38 rfl runc_45⟩
end We
end Go.Proofs.YtgiomdniafpjnaaGreatDoor
end

/-
  Closed calls (Dc1am): these calls, walked; printed by genclo.py.
-/
section
namespace Go.Proofs.YtgiomdniafpjnaaGreatDoor
open Go.Vm
namespace We
theorem runc_51 : (run Tryz.prog E40 sp40 400000 false 85 (entry Tryz.f85 (Tryz.f85.body.getD .ret) Clos.c51.args (ofP Clos.c51.h) Clos.c51.nl [])).map (fun ls => Clos.c51.ends (thin Clos.c51.nl ls)) = some true := by kernel_rfl
theorem clo51 : Clos.c51.okF = true ∧ CloF Tryz.prog Clos.c51 := ⟨by kernel_rfl, cloT_of_run noCount E40_ok (fun _ => sp40_ok) follows Tryz.func85 rfl runc_51⟩
theorem runc_52 : (run Tryz.prog E40 sp40 400000 false 124 (entry Tryz.f124 (Tryz.f124.body.getD .ret) Clos.c52.args (ofP Clos.c52.h) Clos.c52.nl [])).map (fun ls => Clos.c52.ends (thin Clos.c52.nl ls)) = some true := by kernel_rfl
theorem clo52 : Clos.c52.okF = true ∧ CloF Tryz.prog Clos.c52 := ⟨by kernel_rfl, cloT_of_run noCount E40_ok (fun _ => sp40_ok) follows Tryz.func124 rfl runc_52⟩
theorem runc_54 : (run Tryz.prog E40 sp40 400000 false 60 (entry Tryz.f60 (Tryz.f60.body.getD .ret) Clos.c54.args (ofP Clos.c54.h) Clos.c54.nl [])).map (fun ls => Clos.c54.ends (thin Clos.c54.nl ls)) = some true := by kernel_rfl
theorem clo54 : Clos.c54.okF = true ∧ CloF Tryz.prog Clos.c54 := ⟨by kernel_rfl, cloT_of_run noCount E40_ok (fun _ => sp40_ok) follows Tryz.func60 rfl runc_54⟩
end We
end Go.Proofs.YtgiomdniafpjnaaGreatDoor
end
