/-
  Scripts (9): the two laws.
-/
import Derived.Test.YthifhdckfcgbkaaGreatSc7
import Derived.Test.YthifhdckfcgbkaaGreatSf
namespace Go.Proofs.YthifhdckfcgbkaaGreat
open Go.Vm

/-- Decoding the number that came in. -/
def spDecV : SpecF := fun args => match args with
  | [.int .i64 (.var 0)] => some [decV (.var 0) true, decV (.var 0) false]
  | _ => none
theorem spDecV_ok {β : Base} (hG : ∀ I B S V F, β.G I B S V F → F = F1 ∧ -9223372036854775808 ≤ I 0 ∧ I 0 < 9223372036854775808) {g : FuncId} (h : ∀ W x, -9223372036854775808 ≤ x → x < 9223372036854775808 → Calls Tryz.prog g #[.int .i64 x] W (fun e w' => ∃ v, e = .returned v ∧ v = decU x ∧ Framed W w')) : SpGOk Tryz.prog β g (spA spDecV) := by
  intro args H nl cs ls ρ w xs hr hx hh hc
  unfold spA spDecV at hr
  split at hr
  · obtain rfl := Option.some.inj hr
    have hx2 : xs = [.int .i64 (ρ.I 0)] := by
      simp only [AVal.denL, AVal.den, IT.den, Option.map_some, Option.some.injEq] at hx
      exact hx.symm
    rw [hx2]
    obtain ⟨h1, h2, h3⟩ := hG _ _ _ _ _ hh.g
    exact decV_ok h1 (t := .var 0) rfl hh hc (h w _ h2 h3)
  · cases hr
def spD : CallF := spL [(27, spTrue), (28, spA spDecV), (29, spA spDecV)]
theorem run7 : (run Tryz.prog [] spD 4000 false 7 (entry Tryz.f7 (Tryz.f7.body.getD .ret) [.int .i64 (.var 0)] .leaf 0 [])).map (·.all (leafB (.lit true))) = some true := by kernel_rfl
theorem decodes_walk (W : World) (x : Int) (hlo : -9223372036854775808 ≤ x) (hhi : x < 9223372036854775808) : Calls Tryz.prog 7 #[.int .i64 x] W (fun e w' => e = .returned (.bool true) ∧ Framed W w') := by
  refine calls_true (β := ⟨W, [], fun I _ _ _ F => F = F1 ∧ -9223372036854775808 ≤ I 0 ∧ I 0 < 9223372036854775808⟩) (sp := spD) (ρ := envOf [x] [] F1) noExt (spL_ok fun p hp => ?_) rfl Tryz.func7 rfl run7 (xs := [.int .i64 x]) rfl (HRel.startG W _ (fun _ => rfl) ⟨rfl, hlo, hhi⟩) (fun _ h => by cases h)
  simp only [List.mem_cons, List.not_mem_nil, or_false] at hp
  rcases hp with rfl | rfl | rfl
  · exact spTrue_ok first26
  · exact spDecV_ok (fun _ _ _ _ _ h => h) dec28
  · exact spDecV_ok (fun _ _ _ _ _ h => h) dec29
def spE : CallF := spL [(27, spTrue), (30, spA spEnc), (24, spA spEnc)]
theorem run8 : (run Tryz.prog [] spE 4000 false 8 (entry Tryz.f8 (Tryz.f8.body.getD .ret) [evA] .leaf 0 [])).map (·.all (leafB (.lit true))) = some true := by kernel_rfl
theorem encodes_walk (W : World) (k w o n c y a b : Int) : Calls Tryz.prog 8 #[evV k w o n c y a b] W (fun e w' => e = .returned (.bool true) ∧ Framed W w') := by
  refine calls_true (β := βF W) (sp := spE) (ρ := envOf [k, w, o, n, c, y, a, b] [] F1) noExt (spL_ok fun p hp => ?_) rfl Tryz.func8 rfl run8 (xs := [evV k w o n c y a b]) rfl (HRel.startG W _ (fun _ => rfl) rfl) (fun _ h => by cases h)
  simp only [List.mem_cons, List.not_mem_nil, or_false] at hp
  rcases hp with rfl | rfl | rfl
  · exact spTrue_ok first26
  · exact spEnc_ok (βF_named W) enc30
  · exact spEnc_ok (βF_named W) enc24

end Go.Proofs.YthifhdckfcgbkaaGreat
