/-
  Trace lines (Tf2): these calls, walked.
-/
import Derived.Test.YtjjijagclgambaaGreatDoorTf1
namespace Go.Proofs.YtjjijagclgambaaGreatDoor
open Go.Vm
namespace Txt

/-- All ends of a call answer so, and leave so much. -/
def endsA (x : Clo) (ls : List Leaf) : Bool := ls.all fun l => match l with
  | .ret u H nl [] => Nat.beq nl x.nl' && (AVal.beq u x.u && hasB x.h' H)
  | _ => false
theorem clo_of_runs {P : Program} {β : Base} (hc : NoCount P) {E : Exts} (hE : ExtOk P E) {sp : CallF} (hsp : CallOk P β sp) (hm : P.follows .mixedOrders = true) {x : Clo} {n : Nat} {fn : Func} {c : Code} (hf : P.funcs[x.g]? = some fn) (hb : fn.body = some c)
    (hrun : (run P E sp n false x.g (entry fn c x.args (ofP x.h) x.nl [])).map (endsA x) = some true) : CloOk P β x := by
  intro ρ w xs hx hr
  obtain ⟨ls, hls, he⟩ := Option.map_eq_some_iff.1 hrun
  refine run_calls hc hE hsp hm hf hb hls hx hr (fun _ h => by cases h) (R := fun v w' => ∃ ρ', ρ.Le ρ' ∧ x.u.den ρ' = some v ∧ HRel β ρ' (ofP x.h') x.nl' w') (fun l hl => ?_)
  have h1 := List.all_eq_true.1 he l hl
  split at h1
  · simp only [Bool.and_eq_true] at h1
    obtain ⟨h2, h3, h4⟩ := h1
    obtain rfl := Nat.eq_of_beq_eq_true h2
    obtain rfl := AVal.beq_eq _ _ h3
    exact fun ρ' w' v hle hv hr' _ => ⟨ρ', hle, hv, hr'.sub fun _ _ h => hasB_get h4 h⟩
  · cases h1
def E39 : Exts := [(160, .mapsClone), (62, .count)]
theorem E39_ok : ExtOk Tryz.prog E39 := by
  intro g k h
  simp only [E39, Exts.get] at h
  cases hb : Nat.beq 160 g with
  | true =>
    obtain rfl := Nat.eq_of_beq_eq_true hb
    rw [hb] at h; cases h
    exact ⟨Tryz.f160, Tryz.func160, by kernel_rfl, by kernel_rfl, by kernel_rfl⟩
  | false =>
    rw [hb] at h; simp only [cond_false] at h
    cases hb : Nat.beq 62 g with
    | true =>
      obtain rfl := Nat.eq_of_beq_eq_true hb
      rw [hb] at h; cases h
      exact ⟨Tryz.f62, Tryz.func62, by kernel_rfl, by kernel_rfl, by kernel_rfl⟩
    | false => rw [hb] at h; cases h
def hk39 : OpF := orH hkNextK (hkEqL 119 9)
theorem hk39_ok {β : Base} : HookOk Tryz.prog β hk39 := orH_ok hkNextK_ok (hkEqL_ok Tryz.underlying119 Tryz.underlying22 (by kernel_rfl) (by kernel_rfl))
def base39 : CallF := { fn := fun _ _ _ _ _ => none, op := hk39 }
theorem base39_ok {β : Base} : CallOk Tryz.prog β base39 := ⟨fun _ _ _ _ _ _ _ _ _ h => (by cases h), hk39_ok⟩
theorem runC0 : (run Tryz.prog E39 base39 40000 false 9 (entry Tryz.f9 (Tryz.f9.body.getD .ret) Clos.c0.args (ofP Clos.c0.h) Clos.c0.nl [])).map (endsA Clos.c0) = some true := by kernel_rfl
theorem runC1 : (run Tryz.prog E39 base39 40000 false 40 (entry Tryz.f40 (Tryz.f40.body.getD .ret) Clos.c1.args (ofP Clos.c1.h) Clos.c1.nl [])).map (endsA Clos.c1) = some true := by kernel_rfl
theorem runC2 : (run Tryz.prog E39 base39 40000 false 9 (entry Tryz.f9 (Tryz.f9.body.getD .ret) Clos.c2.args (ofP Clos.c2.h) Clos.c2.nl [])).map (endsA Clos.c2) = some true := by kernel_rfl
theorem runC3 : (run Tryz.prog E39 base39 40000 false 40 (entry Tryz.f40 (Tryz.f40.body.getD .ret) Clos.c3.args (ofP Clos.c3.h) Clos.c3.nl [])).map (endsA Clos.c3) = some true := by kernel_rfl
theorem runC4 : (run Tryz.prog E39 base39 40000 false 9 (entry Tryz.f9 (Tryz.f9.body.getD .ret) Clos.c4.args (ofP Clos.c4.h) Clos.c4.nl [])).map (endsA Clos.c4) = some true := by kernel_rfl
theorem runC5 : (run Tryz.prog E39 base39 40000 false 40 (entry Tryz.f40 (Tryz.f40.body.getD .ret) Clos.c5.args (ofP Clos.c5.h) Clos.c5.nl [])).map (endsA Clos.c5) = some true := by kernel_rfl
theorem runC6 : (run Tryz.prog E39 base39 40000 false 9 (entry Tryz.f9 (Tryz.f9.body.getD .ret) Clos.c6.args (ofP Clos.c6.h) Clos.c6.nl [])).map (endsA Clos.c6) = some true := by kernel_rfl
theorem runC7 : (run Tryz.prog E39 base39 40000 false 9 (entry Tryz.f9 (Tryz.f9.body.getD .ret) Clos.c7.args (ofP Clos.c7.h) Clos.c7.nl [])).map (endsA Clos.c7) = some true := by kernel_rfl
theorem runC8 : (run Tryz.prog E39 base39 40000 false 40 (entry Tryz.f40 (Tryz.f40.body.getD .ret) Clos.c8.args (ofP Clos.c8.h) Clos.c8.nl [])).map (endsA Clos.c8) = some true := by kernel_rfl
theorem runC9 : (run Tryz.prog E39 base39 40000 false 9 (entry Tryz.f9 (Tryz.f9.body.getD .ret) Clos.c9.args (ofP Clos.c9.h) Clos.c9.nl [])).map (endsA Clos.c9) = some true := by kernel_rfl
theorem runC10 : (run Tryz.prog E39 base39 40000 false 40 (entry Tryz.f40 (Tryz.f40.body.getD .ret) Clos.c10.args (ofP Clos.c10.h) Clos.c10.nl [])).map (endsA Clos.c10) = some true := by kernel_rfl
theorem runC11 : (run Tryz.prog E39 base39 40000 false 9 (entry Tryz.f9 (Tryz.f9.body.getD .ret) Clos.c11.args (ofP Clos.c11.h) Clos.c11.nl [])).map (endsA Clos.c11) = some true := by kernel_rfl
theorem runC12 : (run Tryz.prog E39 base39 40000 false 9 (entry Tryz.f9 (Tryz.f9.body.getD .ret) Clos.c12.args (ofP Clos.c12.h) Clos.c12.nl [])).map (endsA Clos.c12) = some true := by kernel_rfl
theorem runC13 : (run Tryz.prog E39 base39 40000 false 40 (entry Tryz.f40 (Tryz.f40.body.getD .ret) Clos.c13.args (ofP Clos.c13.h) Clos.c13.nl [])).map (endsA Clos.c13) = some true := by kernel_rfl
theorem runC14 : (run Tryz.prog E39 base39 40000 false 9 (entry Tryz.f9 (Tryz.f9.body.getD .ret) Clos.c14.args (ofP Clos.c14.h) Clos.c14.nl [])).map (endsA Clos.c14) = some true := by kernel_rfl
theorem runC15 : (run Tryz.prog E39 base39 40000 false 40 (entry Tryz.f40 (Tryz.f40.body.getD .ret) Clos.c15.args (ofP Clos.c15.h) Clos.c15.nl [])).map (endsA Clos.c15) = some true := by kernel_rfl
theorem runC16 : (run Tryz.prog E39 base39 40000 false 9 (entry Tryz.f9 (Tryz.f9.body.getD .ret) Clos.c16.args (ofP Clos.c16.h) Clos.c16.nl [])).map (endsA Clos.c16) = some true := by kernel_rfl
theorem clos_ok {β : Base} : ∀ x ∈ Clos.clos, CloOk Tryz.prog β x := fun x hx => by
  simp only [Clos.clos, List.mem_cons, List.not_mem_nil, or_false] at hx
  rcases hx with rfl | rfl | rfl | rfl | rfl | rfl | rfl | rfl | rfl | rfl | rfl | rfl | rfl | rfl | rfl | rfl | rfl
  · exact clo_of_runs (x := Clos.c0) noCount E39_ok base39_ok follows Tryz.func9 rfl runC0
  · exact clo_of_runs (x := Clos.c1) noCount E39_ok base39_ok follows Tryz.func40 rfl runC1
  · exact clo_of_runs (x := Clos.c2) noCount E39_ok base39_ok follows Tryz.func9 rfl runC2
  · exact clo_of_runs (x := Clos.c3) noCount E39_ok base39_ok follows Tryz.func40 rfl runC3
  · exact clo_of_runs (x := Clos.c4) noCount E39_ok base39_ok follows Tryz.func9 rfl runC4
  · exact clo_of_runs (x := Clos.c5) noCount E39_ok base39_ok follows Tryz.func40 rfl runC5
  · exact clo_of_runs (x := Clos.c6) noCount E39_ok base39_ok follows Tryz.func9 rfl runC6
  · exact clo_of_runs (x := Clos.c7) noCount E39_ok base39_ok follows Tryz.func9 rfl runC7
  · exact clo_of_runs (x := Clos.c8) noCount E39_ok base39_ok follows Tryz.func40 rfl runC8
  · exact clo_of_runs (x := Clos.c9) noCount E39_ok base39_ok follows Tryz.func9 rfl runC9
  · exact clo_of_runs (x := Clos.c10) noCount E39_ok base39_ok follows Tryz.func40 rfl runC10
  · exact clo_of_runs (x := Clos.c11) noCount E39_ok base39_ok follows Tryz.func9 rfl runC11
  · exact clo_of_runs (x := Clos.c12) noCount E39_ok base39_ok follows Tryz.func9 rfl runC12
  · exact clo_of_runs (x := Clos.c13) noCount E39_ok base39_ok follows Tryz.func40 rfl runC13
  · exact clo_of_runs (x := Clos.c14) noCount E39_ok base39_ok follows Tryz.func9 rfl runC14
  · exact clo_of_runs (x := Clos.c15) noCount E39_ok base39_ok follows Tryz.func40 rfl runC15
  · exact clo_of_runs (x := Clos.c16) noCount E39_ok base39_ok follows Tryz.func9 rfl runC16
end Txt
end Go.Proofs.YtjjijagclgambaaGreatDoor
