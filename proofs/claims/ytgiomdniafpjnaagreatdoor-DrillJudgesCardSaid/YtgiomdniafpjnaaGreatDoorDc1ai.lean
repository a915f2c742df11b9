/-
  Closed calls (Dc1ag): these calls, walked; printed by genclo.py.
-/
import Derived.Test.YtgiomdniafpjnaaGreatDoorDc0
section
namespace Go.Proofs.YtgiomdniafpjnaaGreatDoor
open Go.Vm
namespace We
theorem runc_26 : (run Tryz.prog E40 sp40 400000 false 38 (entry Tryz.f38 (Tryz.f38.body.getD .ret) Clos.c26.args (ofP Clos.c26.h) Clos.c26.nl [])).map (fun ls => Clos.c26.ends (thin Clos.c26.nl ls)) = some true := by kernel_rfl
theorem clo26 : Clos.c26.okF = true ∧ CloF Tryz.prog Clos.c26 := ⟨by kernel_rfl, cloT_of_run noCount E40_ok (fun _ => sp40_ok) follows Tryz.func38 rfl runc_26⟩
theorem runc_27 : (run Tryz.prog E40 sp40 400000 false 38 (entry Tryz.f38 (Tryz.f38.body.getD .ret) Clos.c27.args (ofP Clos.c27.h) Clos.c27.nl [])).map (fun ls => Clos.c27.ends (thin Clos.c27.nl ls)) = some true := by kernel_rfl
theorem clo27 : Clos.c27.okF = true ∧ CloF Tryz.prog Clos.c27 := ⟨by kernel_rfl, cloT_of_run noCount E40_ok (fun _ => sp40_ok) follows Tryz.func38 rfl runc_27⟩
theorem runc_28 : (run Tryz.prog E40 sp40 400000 false 38 (entry Tryz.f38 (Tryz.f38.body.getD .ret) Clos.c28.args (ofP Clos.c28.h) Clos.c28.nl [])).map (fun ls => Clos.c28.ends (thin Clos.c28.nl ls)) = some true := by kernel_rfl
theorem clo28 : Clos.c28.okF = true ∧ CloF Tryz.prog Clos.c28 := ⟨by kernel_rfl, cloT_of_run noCount E40_ok (fun _ => sp40_ok) follows Tryz.func38 rfl runc_28⟩
end We
end Go.Proofs.YtgiomdniafpjnaaGreatDoor
end

/-
  Closed calls (Dc1ah): these calls, walked; printed by genclo.py.
-/
section
namespace Go.Proofs.YtgiomdniafpjnaaGreatDoor
open Go.Vm
namespace We
theorem runc_31 : (run Tryz.prog E40 sp40 400000 false 31 (entry Tryz.f31 (Tryz.f31.body.getD .ret) Clos.c31.args (ofP Clos.c31.h) Clos.c31.nl [])).map (fun ls => Clos.c31.ends (thin Clos.c31.nl ls)) = some true := by kernel_rfl
theorem clo31 : Clos.c31.okF = true ∧ CloF Tryz.prog Clos.c31 := ⟨by kernel_rfl, cloT_of_run noCount E40_ok (fun _ => sp40_ok) follows Tryz.func31 rfl runc_31⟩
theorem runc_32 : (run Tryz.prog E40 sp40 400000 false 85 (entry Tryz.f85 (Tryz.f85.body.getD .ret) Clos.c32.args (ofP Clos.c32.h) Clos.c32.nl [])).map (fun ls => Clos.c32.ends (thin Clos.c32.nl ls)) = some true := by kernel_rfl
theorem clo32 : Clos.c32.okF = true ∧ CloF Tryz.prog Clos.c32 := ⟨by kernel_rfl, cloT_of_run noCount E40_ok (fun _ => sp40_ok) follows Tryz.func85 rfl runc_32⟩
theorem runc_33 : (run Tryz.prog E40 sp40 400000 false 124 (entry Tryz.f124 (Tryz.f124.body.getD .ret) Clos.c33.args (ofP Clos.c33.h) Clos.c33.nl [])).map (fun ls => Clos.c33.ends (thin Clos.c33.nl ls)) = some true := by kernel_rfl
theorem clo33 : Clos.c33.okF = true ∧ CloF Tryz.prog Clos.c33 := ⟨by kernel_rfl, cloT_of_run noCount E40_ok (fun _ => sp40_ok) follows Tryz.func124 rfl runc_33⟩
end We
end Go.Proofs.YtgiomdniafpjnaaGreatDoor
end

/-
  Closed calls (Dc1ai): these calls, walked; printed by genclo.py.
-/
section
namespace Go.Proofs.YtgiomdniafpjnaaGreatDoor
open Go.Vm
namespace We
theorem runc_35 : (run Tryz.prog E40 sp40 400000 false 60 (entry Tryz.f60 (Tryz.f60.body.getD .ret) Clos.c35.args (ofP Clos.c35.h) Clos.c35.nl [])).map (fun ls => Clos.c35.ends (thin Clos.c35.nl ls)) = some true := by kernel_rfl
theorem clo35 : Clos.c35.okF = true ∧ CloF Tryz.prog Clos.c35 := ⟨by kernel_rfl, cloT_of_run noCount E40_ok (fun _ => sp40_ok) follows Tryz.func60 rfl runc_35⟩
theorem runc_38 : (run Tryz.prog E40 sp40 400000 false 70 (entry Tryz.f70 (Tryz.f70.body.getD .ret) Clos.c38.args (ofP Clos.c38.h) Clos.c38.nl [])).map (fun ls => Clos.c38.ends (thin Clos.c38.nl ls)) = some true := by kernel_rfl
theorem clo38 : Clos.c38.okF = true ∧ CloF Tryz.prog Clos.c38 := ⟨by kernel_rfl, cloT_of_run noCount E40_ok (fun _ => sp40_ok) follows Tryz.func70 rfl runc_38⟩
theorem runc_39 : (run Tryz.prog E40 sp40 400000 false 38 (entry Tryz.f38 (Tryz.f38.body.getD .ret) Clos.c39.args (ofP Clos.c39.h) Clos.c39.nl [])).map (fun ls => Clos.c39.ends (thin Clos.c39.nl ls)) = some true := by kernel_rfl
theorem clo39 : Clos.c39.okF = true ∧ CloF Tryz.prog Clos.c39 := ⟨by kernel_rfl, cloT_of_run noCount E40_ok (fun _ => sp40_ok) follows Tryz.func38 rfl runc_39⟩
end We
end Go.Proofs.YtgiomdniafpjnaaGreatDoor
end
