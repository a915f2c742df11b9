/-
  Bounds (1): 'first' of law 29; the bounds of numbers; for how many there is room.
-/
import Derived.Test.YthifhdckfcgbkaaGreatBa
namespace Go.Proofs.YthifhdckfcgbkaaGreat
open Go.Vm

noncomputable def body29 : Code := Tryz.f9.body.getD .ret
theorem run29 : (run Tryz.prog [] noSp 4000 false 9 (entry Tryz.f9 body29 [] .leaf 0 [])).map (·.all (leafB (.lit true))) = some true := by kernel_rfl
theorem first29 (w : World) : Calls Tryz.prog 9 #[] w (fun e w' => e = .returned (.bool true) ∧ Framed w w') :=
  calls_bool (L := []) (ρ := envOf [] [] F0) noCount noExt (fun _ h => by cases h) follows Tryz.func9 rfl (by exact run29) rfl (fun _ => rfl) (fun _ h => by cases h) rfl

end Go.Proofs.YthifhdckfcgbkaaGreat
