/-
  HistoryOrders (1): what the machine is asked to know of the program; 'first'.
-/
import Derived.Test.YtagdcclpibjfoaaDoorBa
namespace Go.Proofs.YtagdcclpibjfoaaDoor
open Go.Vm

def exts : Exts := [(127, .same)]
theorem exts_ok : ExtOk Tryd.prog exts := by
  intro g k h
  simp only [exts, Exts.get] at h
  cases hb : Nat.beq 127 g with
  | true =>
    obtain rfl := Nat.eq_of_beq_eq_true hb
    rw [hb] at h; cases h
    exact ⟨Tryd.f127, Tryd.func127, by kernel_rfl, by kernel_rfl, by kernel_rfl⟩
  | false => rw [hb] at h; cases h

theorem body16 : ∃ c, Tryd.f16.body = some c ∧ (run Tryd.prog exts (spOf noSpecs) 4000 false 16 (entry Tryd.f16 c [] .leaf 0 [])).map (·.all (leafB (.lit true))) = some true :=
  ⟨_, rfl, by kernel_rfl⟩
theorem first27 (w : World) : Calls Tryd.prog 16 #[] w (fun e w' => e = .returned (.bool true) ∧ Framed w w') := by
  obtain ⟨c, hb, hr⟩ := body16
  exact calls_bool (ρ := envOf [] [] F0) noCount exts_ok noSpecs_ok follows Tryd.func16 hb hr rfl (fun _ => rfl) (fun _ h => by cases h) rfl

end Go.Proofs.YtagdcclpibjfoaaDoor
