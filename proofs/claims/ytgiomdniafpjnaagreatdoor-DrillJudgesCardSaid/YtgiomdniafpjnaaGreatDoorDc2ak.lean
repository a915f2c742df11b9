/-
  Closed calls (Dg0): these calls, walked; printed by genclo.py.
-/
import Derived.Test.YtgiomdniafpjnaaGreatDoorDc1ad
import Derived.Test.YtgiomdniafpjnaaGreatDoorDc1af
import Derived.Test.YtgiomdniafpjnaaGreatDoorDc1ai
import Derived.Test.YtgiomdniafpjnaaGreatDoorDc1al
import Derived.Test.YtgiomdniafpjnaaGreatDoorDc1am
section
namespace Go.Proofs.YtgiomdniafpjnaaGreatDoor
open Go.Vm
namespace We
theorem clos0_ok : ∀ x ∈ Clos.clos0, x.okF = true ∧ CloF Tryz.prog x := by
  intro x hx
  simp only [Clos.clos0, List.mem_cons, List.not_mem_nil, or_false] at hx
  rcases hx with rfl | rfl | rfl | rfl | rfl | rfl | rfl | rfl | rfl | rfl | rfl | rfl | rfl | rfl | rfl | rfl | rfl | rfl | rfl | rfl | rfl | rfl | rfl | rfl | rfl | rfl | rfl | rfl | rfl | rfl | rfl | rfl | rfl | rfl | rfl | rfl | rfl | rfl | rfl
  · exact clo0
  · exact clo1
  · exact clo2
  · exact clo4
  · exact clo7
  · exact clo8
  · exact clo10
  · exact clo11
  · exact clo12
  · exact clo14
  · exact clo17
  · exact clo19
  · exact clo20
  · exact clo21
  · exact clo22
  · exact clo23
  · exact clo24
  · exact clo25
  · exact clo26
  · exact clo27
  · exact clo28
  · exact clo31
  · exact clo32
  · exact clo33
  · exact clo35
  · exact clo38
  · exact clo39
  · exact clo40
  · exact clo41
  · exact clo42
  · exact clo43
  · exact clo44
  · exact clo45
  · exact clo46
  · exact clo47
  · exact clo50
  · exact clo51
  · exact clo52
  · exact clo54
noncomputable def spG0 : CallF := ⟨fun g args H nl cs => match sp40.fn g args H nl cs with
  | some ls => some ls
  | none => spFf Clos.clos0 g args H nl cs, hk40⟩
theorem spG0_ok {β : Base} : CallOk Tryz.prog β spG0 := by
  refine ⟨?_, hk40_ok⟩
  intro g args H nl cs ls ρ w xs h hx hr hc hd
  simp only [spG0] at h
  split at h
  · rename_i l hl
    cases h
    exact sp40_ok.1 g args H nl cs _ ρ w xs hl hx hr hc hd
  · exact spFf_ok clos0_ok g args H nl cs ls ρ w xs h hx hr hc hd
end We
end Go.Proofs.YtgiomdniafpjnaaGreatDoor
end

/-
  Closed calls (Dc2ab): these calls, walked; printed by genclo.py.
-/
section
namespace Go.Proofs.YtgiomdniafpjnaaGreatDoor
open Go.Vm
namespace We
theorem runc_5 : (run Tryz.prog E40 spG0 400000 false 35 (entry Tryz.f35 (Tryz.f35.body.getD .ret) Clos.c5.args (ofP Clos.c5.h) Clos.c5.nl [])).map (fun ls => Clos.c5.ends (thin Clos.c5.nl ls)) = some true := by kernel_rfl
theorem clo5 : Clos.c5.okF = true ∧ CloF Tryz.prog Clos.c5 := ⟨by kernel_rfl, cloT_of_run noCount E40_ok (fun _ => spG0_ok) follows Tryz.func35 rfl runc_5⟩
end We
end Go.Proofs.YtgiomdniafpjnaaGreatDoor
end

/-
  Closed calls (Dc2ac): these calls, walked; printed by genclo.py.
-/
section
namespace Go.Proofs.YtgiomdniafpjnaaGreatDoor
open Go.Vm
namespace We
theorem runc_9 : (run Tryz.prog E40 spG0 400000 false 11 (entry Tryz.f11 (Tryz.f11.body.getD .ret) Clos.c9.args (ofP Clos.c9.h) Clos.c9.nl [])).map (fun ls => Clos.c9.ends (thin Clos.c9.nl ls)) = some true := by kernel_rfl
theorem clo9 : Clos.c9.okF = true ∧ CloF Tryz.prog Clos.c9 := ⟨by kernel_rfl, cloT_of_run noCount E40_ok (fun _ => spG0_ok) follows Tryz.func11 rfl runc_9⟩
end We
end Go.Proofs.YtgiomdniafpjnaaGreatDoor
end

/-
  Closed calls (Dc2ae): these calls, walked; printed by genclo.py.
-/
section
namespace Go.Proofs.YtgiomdniafpjnaaGreatDoor
open Go.Vm
namespace We
theorem runc_15 : (run Tryz.prog E40 spG0 400000 false 35 (entry Tryz.f35 (Tryz.f35.body.getD .ret) Clos.c15.args (ofP Clos.c15.h) Clos.c15.nl [])).map (fun ls => Clos.c15.ends (thin Clos.c15.nl ls)) = some true := by kernel_rfl
theorem clo15 : Clos.c15.okF = true ∧ CloF Tryz.prog Clos.c15 := ⟨by kernel_rfl, cloT_of_run noCount E40_ok (fun _ => spG0_ok) follows Tryz.func35 rfl runc_15⟩
end We
end Go.Proofs.YtgiomdniafpjnaaGreatDoor
end

/-
  Closed calls (Dc2af): these calls, walked; printed by genclo.py.
-/
section
namespace Go.Proofs.YtgiomdniafpjnaaGreatDoor
open Go.Vm
namespace We
theorem runc_29 : (run Tryz.prog E40 spG0 400000 false 11 (entry Tryz.f11 (Tryz.f11.body.getD .ret) Clos.c29.args (ofP Clos.c29.h) Clos.c29.nl [])).map (fun ls => Clos.c29.ends (thin Clos.c29.nl ls)) = some true := by kernel_rfl
theorem clo29 : Clos.c29.okF = true ∧ CloF Tryz.prog Clos.c29 := ⟨by kernel_rfl, cloT_of_run noCount E40_ok (fun _ => spG0_ok) follows Tryz.func11 rfl runc_29⟩
end We
end Go.Proofs.YtgiomdniafpjnaaGreatDoor
end

/-
  Closed calls (Dc2ah): these calls, walked; printed by genclo.py.
-/
section
namespace Go.Proofs.YtgiomdniafpjnaaGreatDoor
open Go.Vm
namespace We
theorem runc_36 : (run Tryz.prog E40 spG0 400000 false 35 (entry Tryz.f35 (Tryz.f35.body.getD .ret) Clos.c36.args (ofP Clos.c36.h) Clos.c36.nl [])).map (fun ls => Clos.c36.ends (thin Clos.c36.nl ls)) = some true := by kernel_rfl
theorem clo36 : Clos.c36.okF = true ∧ CloF Tryz.prog Clos.c36 := ⟨by kernel_rfl, cloT_of_run noCount E40_ok (fun _ => spG0_ok) follows Tryz.func35 rfl runc_36⟩
end We
end Go.Proofs.YtgiomdniafpjnaaGreatDoor
end

/-
  Closed calls (Dc2ai): these calls, walked; printed by genclo.py.
-/
section
namespace Go.Proofs.YtgiomdniafpjnaaGreatDoor
open Go.Vm
namespace We
theorem runc_48 : (run Tryz.prog E40 spG0 400000 false 11 (entry Tryz.f11 (Tryz.f11.body.getD .ret) Clos.c48.args (ofP Clos.c48.h) Clos.c48.nl [])).map (fun ls => Clos.c48.ends (thin Clos.c48.nl ls)) = some true := by kernel_rfl
theorem clo48 : Clos.c48.okF = true ∧ CloF Tryz.prog Clos.c48 := ⟨by kernel_rfl, cloT_of_run noCount E40_ok (fun _ => spG0_ok) follows Tryz.func11 rfl runc_48⟩
end We
end Go.Proofs.YtgiomdniafpjnaaGreatDoor
end

/-
  Closed calls (Dc2ak): these calls, walked; printed by genclo.py.
-/
section
namespace Go.Proofs.YtgiomdniafpjnaaGreatDoor
open Go.Vm
namespace We
theorem runc_55 : (run Tryz.prog E40 spG0 400000 false 35 (entry Tryz.f35 (Tryz.f35.body.getD .ret) Clos.c55.args (ofP Clos.c55.h) Clos.c55.nl [])).map (fun ls => Clos.c55.ends (thin Clos.c55.nl ls)) = some true := by kernel_rfl
theorem clo55 : Clos.c55.okF = true ∧ CloF Tryz.prog Clos.c55 := ⟨by kernel_rfl, cloT_of_run noCount E40_ok (fun _ => spG0_ok) follows Tryz.func35 rfl runc_55⟩
end We
end Go.Proofs.YtgiomdniafpjnaaGreatDoor
end
