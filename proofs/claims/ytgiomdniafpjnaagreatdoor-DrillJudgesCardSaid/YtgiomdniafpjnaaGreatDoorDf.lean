/-
  Closed calls (Dg2): these calls, walked; printed by genclo.py.
-/
import Derived.Test.YtgiomdniafpjnaaGreatDoorDc3ae
section
namespace Go.Proofs.YtgiomdniafpjnaaGreatDoor
open Go.Vm
namespace We
theorem clos2_ok : ∀ x ∈ Clos.clos2, x.okF = true ∧ CloF Tryz.prog x := by
  intro x hx
  simp only [Clos.clos2, List.mem_cons, List.not_mem_nil, or_false] at hx
  rcases hx with rfl | rfl | rfl | rfl | rfl
  · exact clo6
  · exact clo16
  · exact clo37
  · exact clo56
  · exact clo57
noncomputable def spG2 : CallF := ⟨fun g args H nl cs => match spG1.fn g args H nl cs with
  | some ls => some ls
  | none => spFf Clos.clos2 g args H nl cs, hk40⟩
theorem spG2_ok {β : Base} : CallOk Tryz.prog β spG2 := by
  refine ⟨?_, hk40_ok⟩
  intro g args H nl cs ls ρ w xs h hx hr hc hd
  simp only [spG2] at h
  split at h
  · rename_i l hl
    cases h
    exact spG1_ok.1 g args H nl cs _ ρ w xs hl hx hr hc hd
  · exact spFf_ok clos2_ok g args H nl cs ls ρ w xs h hx hr hc hd
end We
end Go.Proofs.YtgiomdniafpjnaaGreatDoor
end

/-
  Closed calls (Dc4aa): these calls, walked; printed by genclo.py.
-/
section
namespace Go.Proofs.YtgiomdniafpjnaaGreatDoor
open Go.Vm
namespace We
theorem runc_18 : (run Tryz.prog E40 spG2 400000 false 39 (entry Tryz.f39 (Tryz.f39.body.getD .ret) Clos.c18.args (ofP Clos.c18.h) Clos.c18.nl [])).map (fun ls => Clos.c18.ends (thin Clos.c18.nl ls)) = some true := by kernel_rfl
theorem clo18 : Clos.c18.okF = true ∧ CloF Tryz.prog Clos.c18 := ⟨by kernel_rfl, cloT_of_run noCount E40_ok (fun _ => spG2_ok) follows Tryz.func39 rfl runc_18⟩
end We
end Go.Proofs.YtgiomdniafpjnaaGreatDoor
end

/-
  Closed calls (Dc4ab): these calls, walked; printed by genclo.py.
-/
section
namespace Go.Proofs.YtgiomdniafpjnaaGreatDoor
open Go.Vm
namespace We
theorem runc_30 : (run Tryz.prog E40 spG2 400000 false 39 (entry Tryz.f39 (Tryz.f39.body.getD .ret) Clos.c30.args (ofP Clos.c30.h) Clos.c30.nl [])).map (fun ls => Clos.c30.ends (thin Clos.c30.nl ls)) = some true := by kernel_rfl
theorem clo30 : Clos.c30.okF = true ∧ CloF Tryz.prog Clos.c30 := ⟨by kernel_rfl, cloT_of_run noCount E40_ok (fun _ => spG2_ok) follows Tryz.func39 rfl runc_30⟩
end We
end Go.Proofs.YtgiomdniafpjnaaGreatDoor
end

/-
  Closed calls (Dc4ac): these calls, walked; printed by genclo.py.
-/
section
namespace Go.Proofs.YtgiomdniafpjnaaGreatDoor
open Go.Vm
namespace We
theorem runc_49 : (run Tryz.prog E40 spG2 400000 false 39 (entry Tryz.f39 (Tryz.f39.body.getD .ret) Clos.c49.args (ofP Clos.c49.h) Clos.c49.nl [])).map (fun ls => Clos.c49.ends (thin Clos.c49.nl ls)) = some true := by kernel_rfl
theorem clo49 : Clos.c49.okF = true ∧ CloF Tryz.prog Clos.c49 := ⟨by kernel_rfl, cloT_of_run noCount E40_ok (fun _ => spG2_ok) follows Tryz.func39 rfl runc_49⟩
end We
end Go.Proofs.YtgiomdniafpjnaaGreatDoor
end

/-
  Closed calls (Dg3): these calls, walked; printed by genclo.py.
-/
section
namespace Go.Proofs.YtgiomdniafpjnaaGreatDoor
open Go.Vm
namespace We
theorem clos3_ok : ∀ x ∈ Clos.clos3, x.okF = true ∧ CloF Tryz.prog x := by
  intro x hx
  simp only [Clos.clos3, List.mem_cons, List.not_mem_nil, or_false] at hx
  rcases hx with rfl | rfl | rfl
  · exact clo18
  · exact clo30
  · exact clo49
noncomputable def spG3 : CallF := ⟨fun g args H nl cs => match spG2.fn g args H nl cs with
  | some ls => some ls
  | none => spFf Clos.clos3 g args H nl cs, hk40⟩
theorem spG3_ok {β : Base} : CallOk Tryz.prog β spG3 := by
  refine ⟨?_, hk40_ok⟩
  intro g args H nl cs ls ρ w xs h hx hr hc hd
  simp only [spG3] at h
  split at h
  · rename_i l hl
    cases h
    exact spG2_ok.1 g args H nl cs _ ρ w xs hl hx hr hc hd
  · exact spFf_ok clos3_ok g args H nl cs ls ρ w xs h hx hr hc hd
end We
end Go.Proofs.YtgiomdniafpjnaaGreatDoor
end

/-
  Closed calls (Df): these calls, walked; printed by genclo.py.
-/
section
namespace Go.Proofs.YtgiomdniafpjnaaGreatDoor
open Go.Vm
namespace We
theorem run4 : (run Tryz.prog E40 spG3 400000 false 4 (entry Tryz.f4 (Tryz.f4.body.getD .ret) [] .leaf 0 [])).map (·.all (retIs (.bool (.lit true)))) = some true := by kernel_rfl
/-- 'first' answers true. -/
theorem first4 {w : World} : Calls Tryz.prog 4 #[] w (fun e w' => e = .returned (.bool true) ∧ Framed w w') :=
  calls_ret (G := fun _ _ _ _ _ => True) (ρ := envOf [] [] F0) E40_ok spG3_ok Tryz.func4 rfl run4 (xs := []) rfl (HRel.startG w _ (fun _ => rfl) trivial) (fun _ h => by cases h) fun _ _ => rfl
end We
end Go.Proofs.YtgiomdniafpjnaaGreatDoor
end
