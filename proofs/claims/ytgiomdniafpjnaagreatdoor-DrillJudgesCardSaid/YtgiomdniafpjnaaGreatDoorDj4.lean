/-
  Reports (4): DrillJudges of any report: which are sound is told by their numbers, and both texts are the same.
-/
import Derived.Test.YtgiomdniafpjnaaGreatDoorDj3
import Derived.Test.YtgiomdniafpjnaaGreatDoorDf
namespace Go.Proofs.YtgiomdniafpjnaaGreatDoor
open Go.Vm
namespace Txt
/-- Any report: its sixteen numbers, and whether its models are the same. -/
def repA : AVal := .agg ((List.range 16).map (fun i => .int .i64 (.var i)) ++ [.bool (.var 0)])
def repV (x : Nat → Int) (b : Bool) : Value := .agg #[.int .i64 (x 0), .int .i64 (x 1), .int .i64 (x 2), .int .i64 (x 3), .int .i64 (x 4), .int .i64 (x 5), .int .i64 (x 6), .int .i64 (x 7), .int .i64 (x 8), .int .i64 (x 9), .int .i64 (x 10), .int .i64 (x 11), .int .i64 (x 12), .int .i64 (x 13), .int .i64 (x 14), .int .i64 (x 15), .bool b]
def spLaw : CallF := spL [(4, spTrue), (14, spItoa), (15, spItoa)]
def GL : GP := fun I B S V F => SxOk S ∧ RangeG I B S V F
noncomputable def envL (x : Nat → Int) (b : Bool) : Env := ⟨fun i => if i < 16 then x i else 0, fun _ => b, Sx, fun _ => undef, fun _ => none, F0, fun _ => none⟩
theorem runLaw : (run Tryz.prog [] spLaw 40000 false 3 (entry Tryz.f3 (Tryz.f3.body.getD .ret) [repA] .leaf 0 [])).map (·.all (leafB (.lit true))) = some true := by kernel_rfl
theorem lawD {w : World} (hT : TabW w) (x : Nat → Int) (b : Bool) (hx : ∀ i, i < 16 → -9223372036854775808 ≤ x i ∧ x i < 9223372036854775808) :
    Calls Tryz.prog 3 #[repV x b] w fun e w' => e = .returned (.bool true) ∧ Framed w w' := by
  have hsp : CallOk Tryz.prog ⟨w, noO, GL⟩ spLaw := spL_ok fun p hp => by
    simp only [List.mem_cons, List.not_mem_nil, or_false] at hp
    rcases hp with rfl | rfl | rfl
    · exact spTrue_ok fun w => We.first4
    · exact spText_ok (fun _ _ _ _ _ h => h) fun hh n h1 h2 => itoa14 (TabW.of (β := ⟨w, noO, GL⟩) hT rfl hh) n h1 h2
    · exact spText_ok (fun _ _ _ _ _ h => h) fun hh n h1 h2 => num15 _ n h1 h2
  refine calls_true noExt hsp rfl Tryz.func3 rfl runLaw (xs := [repV x b]) (ρ := envL x b) rfl (HRel.startG w _ (fun _ => rfl) ⟨SxOk.of rfl, fun i _ => ?_⟩) (fun _ h => by cases h)
  show _ ≤ (if i < 16 then x i else 0) ∧ (if i < 16 then x i else 0) < _
  split
  · exact hx i (by assumption)
  · omega
end Txt
end Go.Proofs.YtgiomdniafpjnaaGreatDoor
