/-
  Closed calls (Dc2aa): these calls, walked; printed by genclo.py.
-/
import Derived.Test.YtgiomdniafpjnaaGreatDoorDc2ak
namespace Go.Proofs.YtgiomdniafpjnaaGreatDoor
open Go.Vm
namespace We
theorem runc_3 : (run Tryz.prog E40 spG0 400000 false 56 (entry Tryz.f56 (Tryz.f56.body.getD .ret) Clos.c3.args (ofP Clos.c3.h) Clos.c3.nl [])).map (fun ls => Clos.c3.ends (thin Clos.c3.nl ls)) = some true := by kernel_rfl
theorem clo3 : Clos.c3.okF = true ∧ CloF Tryz.prog Clos.c3 := ⟨by kernel_rfl, cloT_of_run noCount E40_ok (fun _ => spG0_ok) follows Tryz.func56 rfl runc_3⟩
end We
end Go.Proofs.YtgiomdniafpjnaaGreatDoor
