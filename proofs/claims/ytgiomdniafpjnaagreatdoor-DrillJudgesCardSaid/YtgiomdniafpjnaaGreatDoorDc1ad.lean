/-
  Closed calls (Dc1aa): these calls, walked; printed by genclo.py.
-/
import Derived.Test.YtgiomdniafpjnaaGreatDoorDc0
section
namespace Go.Proofs.YtgiomdniafpjnaaGreatDoor
open Go.Vm
namespace We
theorem runc_0 : (run Tryz.prog E40 sp40 400000 false 31 (entry Tryz.f31 (Tryz.f31.body.getD .ret) Clos.c0.args (ofP Clos.c0.h) Clos.c0.nl [])).map (fun ls => Clos.c0.ends (thin Clos.c0.nl ls)) = some true := by kernel_rfl
theorem clo0 : Clos.c0.okF = true ∧ CloF Tryz.prog Clos.c0 := ⟨by kernel_rfl, cloT_of_run noCount E40_ok (fun _ => sp40_ok) follows Tryz.func31 rfl runc_0⟩
theorem runc_1 : (run Tryz.prog E40 sp40 400000 false 85 (entry Tryz.f85 (Tryz.f85.body.getD .ret) Clos.c1.args (ofP Clos.c1.h) Clos.c1.nl [])).map (fun ls => Clos.c1.ends (thin Clos.c1.nl ls)) = some true := by kernel_rfl
theorem clo1 : Clos.c1.okF = true ∧ CloF Tryz.prog Clos.c1 := ⟨by kernel_rfl, cloT_of_run noCount E40_ok (fun _ => sp40_ok) follows Tryz.func85 rfl runc_1⟩
theorem runc_2 : (run Tryz.prog E40 sp40 400000 false 124 (entry Tryz.f124 (Tryz.f124.body.getD .ret) Clos.c2.args (ofP Clos.c2.h) Clos.c2.nl [])).map (fun ls => Clos.c2.ends (thin Clos.c2.nl ls)) = some true := by kernel_rfl
theorem clo2 : Clos.c2.okF = true ∧ CloF Tryz.prog Clos.c2 := ⟨by kernel_rfl, cloT_of_run noCount E40_ok (fun _ => sp40_ok) follows Tryz.func124 rfl runc_2⟩
end We
end Go.Proofs.YtgiomdniafpjnaaGreatDoor
end

/-
  Closed calls (Dc1ab): these calls, walked; printed by genclo.py.
-/
section
namespace Go.Proofs.YtgiomdniafpjnaaGreatDoor
open Go.Vm
namespace We
theorem runc_4 : (run Tryz.prog E40 sp40 400000 false 60 (entry Tryz.f60 (Tryz.f60.body.getD .ret) Clos.c4.args (ofP Clos.c4.h) Clos.c4.nl [])).map (fun ls => Clos.c4.ends (thin Clos.c4.nl ls)) = some true := by kernel_rfl
theorem clo4 : Clos.c4.okF = true ∧ CloF Tryz.prog Clos.c4 := ⟨by kernel_rfl, cloT_of_run noCount E40_ok (fun _ => sp40_ok) follows Tryz.func60 rfl runc_4⟩
theorem runc_7 : (run Tryz.prog E40 sp40 400000 false 38 (entry Tryz.f38 (Tryz.f38.body.getD .ret) Clos.c7.args (ofP Clos.c7.h) Clos.c7.nl [])).map (fun ls => Clos.c7.ends (thin Clos.c7.nl ls)) = some true := by kernel_rfl
theorem clo7 : Clos.c7.okF = true ∧ CloF Tryz.prog Clos.c7 := ⟨by kernel_rfl, cloT_of_run noCount E40_ok (fun _ => sp40_ok) follows Tryz.func38 rfl runc_7⟩
theorem runc_8 : (run Tryz.prog E40 sp40 400000 false 38 (entry Tryz.f38 (Tryz.f38.body.getD .ret) Clos.c8.args (ofP Clos.c8.h) Clos.c8.nl [])).map (fun ls => Clos.c8.ends (thin Clos.c8.nl ls)) = some true := by kernel_rfl
theorem clo8 : Clos.c8.okF = true ∧ CloF Tryz.prog Clos.c8 := ⟨by kernel_rfl, cloT_of_run noCount E40_ok (fun _ => sp40_ok) follows Tryz.func38 rfl runc_8⟩
end We
end Go.Proofs.YtgiomdniafpjnaaGreatDoor
end

/-
  Closed calls (Dc1ac): these calls, walked; printed by genclo.py.
-/
section
namespace Go.Proofs.YtgiomdniafpjnaaGreatDoor
open Go.Vm
namespace We
theorem runc_10 : (run Tryz.prog E40 sp40 400000 false 31 (entry Tryz.f31 (Tryz.f31.body.getD .ret) Clos.c10.args (ofP Clos.c10.h) Clos.c10.nl [])).map (fun ls => Clos.c10.ends (thin Clos.c10.nl ls)) = some true := by kernel_rfl
theorem clo10 : Clos.c10.okF = true ∧ CloF Tryz.prog Clos.c10 := ⟨by kernel_rfl, cloT_of_run noCount E40_ok (fun _ => sp40_ok) follows Tryz.func31 rfl runc_10⟩
theorem runc_11 : (run Tryz.prog E40 sp40 400000 false 85 (entry Tryz.f85 (Tryz.f85.body.getD .ret) Clos.c11.args (ofP Clos.c11.h) Clos.c11.nl [])).map (fun ls => Clos.c11.ends (thin Clos.c11.nl ls)) = some true := by kernel_rfl
theorem clo11 : Clos.c11.okF = true ∧ CloF Tryz.prog Clos.c11 := ⟨by kernel_rfl, cloT_of_run noCount E40_ok (fun _ => sp40_ok) follows Tryz.func85 rfl runc_11⟩
theorem runc_12 : (run Tryz.prog E40 sp40 400000 false 124 (entry Tryz.f124 (Tryz.f124.body.getD .ret) Clos.c12.args (ofP Clos.c12.h) Clos.c12.nl [])).map (fun ls => Clos.c12.ends (thin Clos.c12.nl ls)) = some true := by kernel_rfl
theorem clo12 : Clos.c12.okF = true ∧ CloF Tryz.prog Clos.c12 := ⟨by kernel_rfl, cloT_of_run noCount E40_ok (fun _ => sp40_ok) follows Tryz.func124 rfl runc_12⟩
end We
end Go.Proofs.YtgiomdniafpjnaaGreatDoor
end

/-
  Closed calls (Dc1ad): these calls, walked; printed by genclo.py.
-/
section
namespace Go.Proofs.YtgiomdniafpjnaaGreatDoor
open Go.Vm
namespace We
theorem runc_14 : (run Tryz.prog E40 sp40 400000 false 60 (entry Tryz.f60 (Tryz.f60.body.getD .ret) Clos.c14.args (ofP Clos.c14.h) Clos.c14.nl [])).map (fun ls => Clos.c14.ends (thin Clos.c14.nl ls)) = some true := by kernel_rfl
theorem clo14 : Clos.c14.okF = true ∧ CloF Tryz.prog Clos.c14 := ⟨by kernel_rfl, cloT_of_run noCount E40_ok (fun _ => sp40_ok) follows Tryz.func60 rfl runc_14⟩
theorem runc_17 : (run Tryz.prog E40 sp40 400000 false 70 (entry Tryz.f70 (Tryz.f70.body.getD .ret) Clos.c17.args (ofP Clos.c17.h) Clos.c17.nl [])).map (fun ls => Clos.c17.ends (thin Clos.c17.nl ls)) = some true := by kernel_rfl
theorem clo17 : Clos.c17.okF = true ∧ CloF Tryz.prog Clos.c17 := ⟨by kernel_rfl, cloT_of_run noCount E40_ok (fun _ => sp40_ok) follows Tryz.func70 rfl runc_17⟩
theorem runc_19 : (run Tryz.prog E40 sp40 400000 false 70 (entry Tryz.f70 (Tryz.f70.body.getD .ret) Clos.c19.args (ofP Clos.c19.h) Clos.c19.nl [])).map (fun ls => Clos.c19.ends (thin Clos.c19.nl ls)) = some true := by kernel_rfl
theorem clo19 : Clos.c19.okF = true ∧ CloF Tryz.prog Clos.c19 := ⟨by kernel_rfl, cloT_of_run noCount E40_ok (fun _ => sp40_ok) follows Tryz.func70 rfl runc_19⟩
end We
end Go.Proofs.YtgiomdniafpjnaaGreatDoor
end
