/-
  Plans (4): 'first' of law 35.
-/
import Derived.Test.YthifhdckfcgbkaaGreatPc
namespace Go.Proofs.YthifhdckfcgbkaaGreat
open Go.Vm
noncomputable def clos : List Clo := [Clos.c0, Clos.c1, Clos.c2, Clos.c3, Clos.c4, Clos.c5, Clos.c6, Clos.c7, Clos.c8]
theorem clos_ok {β : Base} : ∀ x ∈ clos, CloOk Tryz.prog β x := fun x hx => by
  simp only [clos, List.mem_cons, List.not_mem_nil, or_false] at hx
  rcases hx with rfl | rfl | rfl | rfl | rfl | rfl | rfl | rfl | rfl
  · exact clo_of_run noCount noExt noSp_ok follows Tryz.func32 rfl runC0
  · exact clo_of_run noCount noExt noSp_ok follows Tryz.func32 rfl runC1
  · exact clo_of_run noCount noExt noSp_ok follows Tryz.func32 rfl runC2
  · exact clo_of_run noCount noExt noSp_ok follows Tryz.func32 rfl runC3
  · exact clo_of_run noCount noExt noSp_ok follows Tryz.func32 rfl runC4
  · exact clo_of_run noCount noExt noSp_ok follows Tryz.func32 rfl runC5
  · exact clo_of_run noCount noExt noSp_ok follows Tryz.func32 rfl runC6
  · exact clo_of_run noCount noExt noSp_ok follows Tryz.func32 rfl runC7
  · exact clo_of_run noCount noExt noSp_ok follows Tryz.func32 rfl runC8
theorem run16 : (run Tryz.prog [] (spC clos) 40000 false 16 (entry Tryz.f16 (Tryz.f16.body.getD .ret) [] .leaf 0 [])).map (·.all (leafB (.lit true))) = some true := by kernel_rfl
theorem first35 (w : World) : Calls Tryz.prog 16 #[] w (fun e w' => e = .returned (.bool true) ∧ Framed w w') :=
  calls_true (β := .plain w) (ρ := envOf [] [] F0) noExt (spC_ok clos_ok) rfl Tryz.func16 rfl run16 (xs := []) rfl (HRel.start w _ fun _ => rfl) (fun _ h => by cases h)
end Go.Proofs.YthifhdckfcgbkaaGreat
