/-
  Scripts: 'first' of law 26.
-/
import Derived.Test.YthifhdckfcgbkaaGreatBa
namespace Go.Proofs.YthifhdckfcgbkaaGreat
open Go.Vm

noncomputable def body27 : Code := Tryz.f27.body.getD .ret
theorem run27 : (run Tryz.prog [] noSp 40000 false 27 (entry Tryz.f27 body27 [] .leaf 0 [])).map (·.all (leafB (.lit true))) = some true := by kernel_rfl
theorem first26 (w : World) : Calls Tryz.prog 27 #[] w (fun e w' => e = .returned (.bool true) ∧ Framed w w') :=
  calls_true (β := .plain w) (ρ := envOf [] [] F0) noExt noSp_ok rfl Tryz.func27 rfl run27 (xs := []) rfl (HRel.start w _ fun _ => rfl) (fun _ h => by cases h)

end Go.Proofs.YthifhdckfcgbkaaGreat
