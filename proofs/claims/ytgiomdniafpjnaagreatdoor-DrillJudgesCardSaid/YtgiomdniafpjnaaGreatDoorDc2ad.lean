/-
  Closed calls (Dc2ad): these calls, walked; printed by genclo.py.
-/
import Derived.Test.YtgiomdniafpjnaaGreatDoorDc2ak
namespace Go.Proofs.YtgiomdniafpjnaaGreatDoor
open Go.Vm
namespace We
theorem runc_13 : (run Tryz.prog E40 spG0 400000 false 56 (entry Tryz.f56 (Tryz.f56.body.getD .ret) Clos.c13.args (ofP Clos.c13.h) Clos.c13.nl [])).map (fun ls => Clos.c13.ends (thin Clos.c13.nl ls)) = some true := by kernel_rfl
theorem clo13 : Clos.c13.okF = true ∧ CloF Tryz.prog Clos.c13 := ⟨by kernel_rfl, cloT_of_run noCount E40_ok (fun _ => spG0_ok) follows Tryz.func56 rfl runc_13⟩
end We
end Go.Proofs.YtgiomdniafpjnaaGreatDoor
