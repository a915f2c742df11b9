/-
  Ops (1): 'first' of law 5.
-/
import Derived.Test.YtagdcclpibjfoaaDoorBa
namespace Go.Proofs.YtagdcclpibjfoaaDoor
open Go.Vm

def exts05 : Exts := [(127, .same), (157, .count), (176, .indexByte)]
theorem exts05_ok : ExtOk Tryd.prog exts05 := by
  intro g k h
  simp only [exts05, Exts.get] at h
  cases hb : Nat.beq 127 g with
  | true =>
    obtain rfl := Nat.eq_of_beq_eq_true hb
    rw [hb] at h; cases h
    exact ⟨Tryd.f127, Tryd.func127, by kernel_rfl, by kernel_rfl, by kernel_rfl⟩
  | false =>
    rw [hb] at h; simp only [cond_false] at h
    cases hb : Nat.beq 157 g with
    | true =>
      obtain rfl := Nat.eq_of_beq_eq_true hb
      rw [hb] at h; cases h
      exact ⟨Tryd.f157, Tryd.func157, by kernel_rfl, by kernel_rfl, by kernel_rfl⟩
    | false =>
      rw [hb] at h; simp only [cond_false] at h
      cases hb : Nat.beq 176 g with
      | true =>
        obtain rfl := Nat.eq_of_beq_eq_true hb
        rw [hb] at h; cases h
        exact ⟨Tryd.f176, Tryd.func176, by kernel_rfl, by kernel_rfl, by kernel_rfl⟩
      | false => rw [hb] at h; cases h
def swapText : AVal := .str (.lit [115, 119, 97, 112, 32, 51, 32, 52, 32, 53])
def swapOp : AVal := .agg [.int .i64 (.lit 7), .int .i64 (.lit 3), .int .i64 (.lit 4), .int .i64 (.lit 5)]
def swapAlts : List (AVal × Cs) := [(.tuple [swapOp, .bool (.lit true)], [])]
def spParse : SpecF := fun args => cond (AVal.beqL args [swapText]) (some swapAlts) none
noncomputable def body54 : Code := Tryd.f54.body.getD .ret
theorem run54 : (run Tryd.prog exts05 (spOf noSpecs) 4000 false 54 (entry Tryd.f54 body54 [swapText] .leaf 0 [])).map (·.all (leafA swapAlts)) = some true := by kernel_rfl
theorem spParse_ok : SpecOk Tryd.prog 54 spParse := by
  refine spec_of_alts noCount exts05_ok noSpecs_ok follows Tryd.func54 rfl run54 (fun l al h => ?_) (fun ρ u hu => ?_) (fun ρ ρ' _ _ _ _ => ⟨rfl, fun u hu => ?_⟩)
  · unfold spParse at h
    cases hb : AVal.beqL l [swapText] with
    | true => rw [hb] at h; cases h; exact ⟨AVal.beqL_eq _ _ hb, rfl⟩
    | false => rw [hb] at h; cases h
  · rcases List.mem_cons.1 hu with rfl | hu
    · exact ⟨rfl, fun q hq => by cases hq⟩
    · cases hu
  · rcases List.mem_cons.1 hu with rfl | hu
    · exact ⟨rfl, fun q hq => by cases hq⟩
    · cases hu
def specsParse : Specs := [(54, spParse)]
theorem specsParse_ok : ∀ p ∈ specsParse, SpecOk Tryd.prog p.1 p.2 := by
  intro p hp
  rcases List.mem_cons.1 hp with rfl | hp
  · exact spParse_ok
  cases hp
noncomputable def body42 : Code := Tryd.f42.body.getD .ret
theorem run42 : (run Tryd.prog exts05 (spOf specsParse) 4000 false 42 (entry Tryd.f42 body42 [] .leaf 0 [])).map (·.all (leafB (.lit true))) = some true := by kernel_rfl
theorem first05 (w : World) : Calls Tryd.prog 42 #[] w (fun e w' => e = .returned (.bool true) ∧ Framed w w') :=
  calls_bool (ρ := envOf [] [] F0) noCount exts05_ok specsParse_ok follows Tryd.func42 rfl run42 rfl (fun _ => rfl) (fun _ h => by cases h) rfl
end Go.Proofs.YtagdcclpibjfoaaDoor
