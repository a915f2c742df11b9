/-
  Closed calls (Dc2ag): these calls, walked; printed by genclo.py.
-/
import Derived.Test.YtgiomdniafpjnaaGreatDoorDc2ak
namespace Go.Proofs.YtgiomdniafpjnaaGreatDoor
open Go.Vm
namespace We
theorem runc_34 : (run Tryz.prog E40 spG0 400000 false 56 (entry Tryz.f56 (Tryz.f56.body.getD .ret) Clos.c34.args (ofP Clos.c34.h) Clos.c34.nl [])).map (fun ls => Clos.c34.ends (thin Clos.c34.nl ls)) = some true := by kernel_rfl
theorem clo34 : Clos.c34.okF = true ∧ CloF Tryz.prog Clos.c34 := ⟨by kernel_rfl, cloT_of_run noCount E40_ok (fun _ => spG0_ok) follows Tryz.func56 rfl runc_34⟩
end We
end Go.Proofs.YtgiomdniafpjnaaGreatDoor
