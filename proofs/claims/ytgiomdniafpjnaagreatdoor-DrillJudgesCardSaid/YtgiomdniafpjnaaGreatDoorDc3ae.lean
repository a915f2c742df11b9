/-
  Closed calls (Dg1): these calls, walked; printed by genclo.py.
-/
import Derived.Test.YtgiomdniafpjnaaGreatDoorDc2aa
import Derived.Test.YtgiomdniafpjnaaGreatDoorDc2ak
import Derived.Test.YtgiomdniafpjnaaGreatDoorDc2ad
import Derived.Test.YtgiomdniafpjnaaGreatDoorDc2ag
import Derived.Test.YtgiomdniafpjnaaGreatDoorDc2aj
section
namespace Go.Proofs.YtgiomdniafpjnaaGreatDoor
open Go.Vm
namespace We
theorem clos1_ok : ∀ x ∈ Clos.clos1, x.okF = true ∧ CloF Tryz.prog x := by
  intro x hx
  simp only [Clos.clos1, List.mem_cons, List.not_mem_nil, or_false] at hx
  rcases hx with rfl | rfl | rfl | rfl | rfl | rfl | rfl | rfl | rfl | rfl | rfl
  · exact clo3
  · exact clo5
  · exact clo9
  · exact clo13
  · exact clo15
  · exact clo29
  · exact clo34
  · exact clo36
  · exact clo48
  · exact clo53
  · exact clo55
noncomputable def spG1 : CallF := ⟨fun g args H nl cs => match spG0.fn g args H nl cs with
  | some ls => some ls
  | none => spFf Clos.clos1 g args H nl cs, hk40⟩
theorem spG1_ok {β : Base} : CallOk Tryz.prog β spG1 := by
  refine ⟨?_, hk40_ok⟩
  intro g args H nl cs ls ρ w xs h hx hr hc hd
  simp only [spG1] at h
  split at h
  · rename_i l hl
    cases h
    exact spG0_ok.1 g args H nl cs _ ρ w xs hl hx hr hc hd
  · exact spFf_ok clos1_ok g args H nl cs ls ρ w xs h hx hr hc hd
end We
end Go.Proofs.YtgiomdniafpjnaaGreatDoor
end

/-
  Closed calls (Dc3aa): these calls, walked; printed by genclo.py.
-/
section
namespace Go.Proofs.YtgiomdniafpjnaaGreatDoor
open Go.Vm
namespace We
theorem runc_6 : (run Tryz.prog E40 spG1 400000 false 10 (entry Tryz.f10 (Tryz.f10.body.getD .ret) Clos.c6.args (ofP Clos.c6.h) Clos.c6.nl [])).map (fun ls => Clos.c6.ends (thin Clos.c6.nl ls)) = some true := by kernel_rfl
theorem clo6 : Clos.c6.okF = true ∧ CloF Tryz.prog Clos.c6 := ⟨by kernel_rfl, cloT_of_run noCount E40_ok (fun _ => spG1_ok) follows Tryz.func10 rfl runc_6⟩
end We
end Go.Proofs.YtgiomdniafpjnaaGreatDoor
end

/-
  Closed calls (Dc3ab): these calls, walked; printed by genclo.py.
-/
section
namespace Go.Proofs.YtgiomdniafpjnaaGreatDoor
open Go.Vm
namespace We
theorem runc_16 : (run Tryz.prog E40 spG1 400000 false 10 (entry Tryz.f10 (Tryz.f10.body.getD .ret) Clos.c16.args (ofP Clos.c16.h) Clos.c16.nl [])).map (fun ls => Clos.c16.ends (thin Clos.c16.nl ls)) = some true := by kernel_rfl
theorem clo16 : Clos.c16.okF = true ∧ CloF Tryz.prog Clos.c16 := ⟨by kernel_rfl, cloT_of_run noCount E40_ok (fun _ => spG1_ok) follows Tryz.func10 rfl runc_16⟩
end We
end Go.Proofs.YtgiomdniafpjnaaGreatDoor
end

/-
  Closed calls (Dc3ac): these calls, walked; printed by genclo.py.
-/
section
namespace Go.Proofs.YtgiomdniafpjnaaGreatDoor
open Go.Vm
namespace We
theorem runc_37 : (run Tryz.prog E40 spG1 400000 false 10 (entry Tryz.f10 (Tryz.f10.body.getD .ret) Clos.c37.args (ofP Clos.c37.h) Clos.c37.nl [])).map (fun ls => Clos.c37.ends (thin Clos.c37.nl ls)) = some true := by kernel_rfl
theorem clo37 : Clos.c37.okF = true ∧ CloF Tryz.prog Clos.c37 := ⟨by kernel_rfl, cloT_of_run noCount E40_ok (fun _ => spG1_ok) follows Tryz.func10 rfl runc_37⟩
end We
end Go.Proofs.YtgiomdniafpjnaaGreatDoor
end

/-
  Closed calls (Dc3ad): these calls, walked; printed by genclo.py.
-/
section
namespace Go.Proofs.YtgiomdniafpjnaaGreatDoor
open Go.Vm
namespace We
theorem runc_56 : (run Tryz.prog E40 spG1 400000 false 10 (entry Tryz.f10 (Tryz.f10.body.getD .ret) Clos.c56.args (ofP Clos.c56.h) Clos.c56.nl [])).map (fun ls => Clos.c56.ends (thin Clos.c56.nl ls)) = some true := by kernel_rfl
theorem clo56 : Clos.c56.okF = true ∧ CloF Tryz.prog Clos.c56 := ⟨by kernel_rfl, cloT_of_run noCount E40_ok (fun _ => spG1_ok) follows Tryz.func10 rfl runc_56⟩
end We
end Go.Proofs.YtgiomdniafpjnaaGreatDoor
end

/-
  Closed calls (Dc3ae): these calls, walked; printed by genclo.py.
-/
section
namespace Go.Proofs.YtgiomdniafpjnaaGreatDoor
open Go.Vm
namespace We
theorem runc_57 : (run Tryz.prog E40 spG1 400000 false 10 (entry Tryz.f10 (Tryz.f10.body.getD .ret) Clos.c57.args (ofP Clos.c57.h) Clos.c57.nl [])).map (fun ls => Clos.c57.ends (thin Clos.c57.nl ls)) = some true := by kernel_rfl
theorem clo57 : Clos.c57.okF = true ∧ CloF Tryz.prog Clos.c57 := ⟨by kernel_rfl, cloT_of_run noCount E40_ok (fun _ => spG1_ok) follows Tryz.func10 rfl runc_57⟩
end We
end Go.Proofs.YtgiomdniafpjnaaGreatDoor
end
