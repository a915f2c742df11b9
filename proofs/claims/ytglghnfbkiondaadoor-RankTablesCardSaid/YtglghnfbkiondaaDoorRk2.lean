/-
  Ranks (2): what must be answered ahead of everything else.
-/
import Derived.Test.YtglghnfbkiondaaDoorRk1
namespace Go.Proofs.YtglghnfbkiondaaDoor
open Go.Vm Go.Vm.Rk Go.Maps
namespace Rk

def xR : Exts := [(81, .indexByte)]
theorem run6 : (run Tryd.prog xR (spL [(19, spSrt)]) 40000 false 6 (entry Tryd.f6 (Tryd.f6.body.getD .ret) [] .leaf 0 [])).map (·.all (leafB (.lit true))) = some true := by kernel_rfl
theorem xR_ok : ExtOk Tryd.prog xR := by
  intro g k h
  simp only [xR, Exts.get] at h
  cases hb : Nat.beq 81 g with
  | false => rw [hb] at h; cases h
  | true =>
    rw [hb] at h; cases h
    obtain rfl := Nat.eq_of_beq_eq_true hb
    exact ⟨_, Tryd.func81, rfl, by kernel_rfl, by kernel_rfl⟩
theorem sp19_ok {w : World} : CallOk Tryd.prog ⟨w, [], GR⟩ (spL [(19, spSrt)]) := spL_ok fun p hp => by
  rw [List.mem_singleton.1 hp]
  exact spSrt_ok fun _ _ _ _ _ h => h
theorem first6 (w : World) : Calls Tryd.prog 6 #[] w (fun e w' => e = .returned (.bool true) ∧ Framed w w') :=
  calls_true (β := ⟨w, [], GR⟩) (ρ := ⟨fun _ => 0, fun _ => false, fun _ => default, fun _ => undef, fun _ => none, FR⟩) xR_ok sp19_ok rfl Tryd.func6 rfl run6 (xs := []) rfl (HRel.ro [] (fun p hp => by cases hp) (fun _ _ => rfl) (GR_at ..)) (fun _ h => by cases h)
end Rk
end Go.Proofs.YtglghnfbkiondaaDoor
