/-
  Closed calls (Dc2aj): these calls, walked; printed by genclo.py.
-/
import Derived.Test.YtgiomdniafpjnaaGreatDoorDc2ak
namespace Go.Proofs.YtgiomdniafpjnaaGreatDoor
open Go.Vm
namespace We
theorem runc_53 : (run Tryz.prog E40 spG0 400000 false 56 (entry Tryz.f56 (Tryz.f56.body.getD .ret) Clos.c53.args (ofP Clos.c53.h) Clos.c53.nl [])).map (fun ls => Clos.c53.ends (thin Clos.c53.nl ls)) = some true := by kernel_rfl
theorem clo53 : Clos.c53.okF = true ∧ CloF Tryz.prog Clos.c53 := ⟨by kernel_rfl, cloT_of_run noCount E40_ok (fun _ => spG0_ok) follows Tryz.func56 rfl runc_53⟩
end We
end Go.Proofs.YtgiomdniafpjnaaGreatDoor
