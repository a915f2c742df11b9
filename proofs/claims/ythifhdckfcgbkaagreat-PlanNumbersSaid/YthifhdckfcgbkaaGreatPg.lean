/-
  Plans (8): the reference's events.
-/
import Derived.Test.YthifhdckfcgbkaaGreatPg0
namespace Go.Proofs.YthifhdckfcgbkaaGreat
open Go.Vm
namespace Pln
noncomputable def rb0 : Code := ((loopsOf (Tryz.f23.body.getD .ret) []).getD 0 (.ret, [])).1
noncomputable def rk0 : List Item := ((loopsOf (Tryz.f23.body.getD .ret) []).getD 0 (.ret, [])).2
noncomputable def rb1 : Code := ((loopsOf (Tryz.f23.body.getD .ret) []).getD 1 (.ret, [])).1
noncomputable def rk1 : List Item := ((loopsOf (Tryz.f23.body.getD .ret) []).getD 1 (.ret, [])).2
noncomputable def sums_re : List LM := [.next 2 (.code (.loop rb0) :: rk0) planC ⟨[], [], [], [], [(0, 0)]⟩]
noncomputable def sums_r0 : List LM := [.next 1 (.inLoop rb0 :: rk0) ([((.cmp .lss (.lit 0) (.var 11)), true)] ++ planC) ⟨[(1, (.lit 2)), (0, (.lit 1))], [], [], [(0, (.lits [(.int .i64 (.lit 0)), (.int .i64 (.lit 0)), (.int .i64 (.lit 0)), (.int .i64 (.lit 0)), (.int .i64 (.lit 0)), (.int .i64 (.lit 0)), (.int .i64 (.lit 0)), (.int .i64 (.lit 0)), (.int .i64 (.lit 5)), (.int .i64 (.lit 0)), (.int .i64 (.lit 0)), (.int .i64 (.lit 40)), (.int .i64 (.lit 0)), (.int .i64 (.lit 0)), (.int .i64 (.lit 0)), (.int .i64 (.lit 0))]))], [(0, 0), (2, 3), (1, 2)]⟩]
noncomputable def sums_r1 : List LM := [.next 1 (.inLoop rb0 :: rk0) ([((.cmp .leq (.var 1) (.lit 1000000)), true), ((.cmp .lss (.var 0) (.var 11)), true)] ++ (rngC ++ planC)) ⟨[(1, (.bin .add .i64 (.var 1) (.lit 2))), (0, (.bin .add .i64 (.var 0) (.lit 1)))], [], [], [(0, (.snoc (.var 0) [(.int .i64 (.lit 0)), (.int .i64 (.var 0)), (.int .i64 (.lit 0)), (.int .i64 (.lit 0)), (.int .i64 (.lit 0)), (.int .i64 (.lit 0)), (.int .i64 (.lit 0)), (.int .i64 (.lit 0)), (.int .i64 (.lit 5)), (.int .i64 (.var 0)), (.int .i64 (.lit 0)), (.int .i64 (.lit 40)), (.int .i64 (.lit 0)), (.int .i64 (.lit 0)), (.int .i64 (.lit 0)), (.int .i64 (.lit 0))]))], [(0, 0), (2, 5), (1, 4)]⟩,
  .next 0 (.code (.loop rb1) :: rk1) ([((.cmp .lss (.var 0) (.var 11)), false)] ++ (rngC ++ planC)) ⟨[(1, (.var 1)), (2, (.var 10)), (0, (.lit 0))], [], [], [(0, (.var 0))], [(0, 0), (2, 2), (1, 1)]⟩]
noncomputable def sums_r2 : List LM := [.next 0 (.inLoop rb1 :: rk1) ([((.cmp .leq (.var 1) (.lit 1000000)), true), ((.cmp .lss (.var 0) (.var 12)), true)] ++ (rngC ++ planC)) ⟨[(1, (.bin .add .i64 (.var 1) (.lit 1))), (2, (.fn 60 (.var 2) (.lit 0))), (0, (.bin .add .i64 (.var 0) (.lit 1)))], [], [], [(0, (.snoc (.var 0) [(.int .i64 (.fn 61 (.var 2) (.lit 0))), (.int .i64 (.fn 62 (.var 2) (.lit 0))), (.int .i64 (.fn 63 (.var 2) (.lit 0))), (.int .i64 (.fn 64 (.var 2) (.lit 0))), (.int .i64 (.fn 65 (.var 2) (.lit 0))), (.int .i64 (.fn 66 (.var 2) (.lit 0))), (.int .i64 (.fn 67 (.var 2) (.lit 0))), (.int .i64 (.fn 68 (.var 2) (.lit 0)))]))], [(0, 0), (2, 6), (1, 5)]⟩,
  .done 0 ([((.cmp .lss (.var 0) (.var 12)), false)] ++ (rngC ++ planC)) ⟨[(1, (.var 1))], [], [], [(0, (.var 0))], [(0, 2), (1, 1)]⟩]
def spr : CallF := spL [(22, spI1 50), (69, spThrow)]
theorem spr_ok {A E P K S s : Int} (w : World) : CallOk Tryz.prog ⟨w, [], NumP A E P K S s⟩ spr := by
  refine spL_ok fun p hp => ?_
  simp only [List.mem_cons, List.not_mem_nil, or_false] at hp
  rcases hp with rfl | rfl
  · exact spI1_ok next22 fun _ _ _ _ F h x => by rw [show F = FE A P K S from h.2.2.2.2.2.2]; rfl
  · exact spThrow_ok fun _ _ _ _ F h => by rw [show F = FE A P K S from h.2.2.2.2.2.2]; exact ⟨fun _ _ => rfl, fun _ _ => rfl⟩
def retIs (u : AVal) : Leaf → Bool
  | .ret v _ _ _ => AVal.beq v u
  | .stop cs => dead cs
  | .pause _ => false
def EvRun (cs : Cs) (u : AVal) : Prop := (run Tryz.prog [] spr 4000 false 39 (entry Tryz.f39 (Tryz.f39.body.getD .ret) [p6, iv 2] .leaf 0 (cs ++ planC))).map (·.all (retIs u)) = some true
noncomputable def envP (A E P K S s x : Int) : Env := ⟨fun i => [0, 0, x, 0, 0, 0, 0, 0, 0, 0, s, A, E, P, K, S].getD i 0, fun _ => false, fun _ => default, fun _ => undef, fun _ => none, FE A P K S⟩
def planV (A E P K S s : Int) : Value := .agg #[.int .i64 s, .int .i64 A, .int .i64 E, .int .i64 P, .int .i64 K, .int .i64 S]
theorem rev0 : EvRun [((.cmp .eql (tr n2 (.lit 2)) (.lit 1)), true), ((.cmp .lss (tr n1 (.lit 100)) (.var 15)), true)] (.tuple [(.int .i64 n4), (.agg [(.int .i64 (.lit 4)), (.int .i64 (tr (.var 2) (.var 11))), (.int .i64 (tr n3 (.var 11))), (.int .i64 (.lit 0)), (.int .i64 (.lit 0)), (.int .i64 (.lit 0)), (.int .i64 (.lit 0)), (.int .i64 (.lit 0))])]) := by unfold EvRun; kernel_rfl
theorem rev1 : EvRun [((.cmp .eql (tr n2 (.lit 2)) (.lit 1)), false), ((.cmp .lss (tr n1 (.lit 100)) (.var 15)), true)] (.tuple [(.int .i64 n3), (.agg [(.int .i64 (.lit 3)), (.int .i64 (tr (.var 2) (.var 11))), (.int .i64 (.lit 0)), (.int .i64 (.lit 0)), (.int .i64 (.lit 0)), (.int .i64 (.lit 0)), (.int .i64 (.lit 0)), (.int .i64 (.lit 0))])]) := by unfold EvRun; kernel_rfl
theorem rev2 : EvRun [((.cmp .geq (tr n1 (.lit 100)) (.lit 98)), true), ((.cmp .lss (tr n1 (.lit 100)) (.var 15)), false)] (.tuple [(.int .i64 n2), (.agg [(.int .i64 (.lit 2)), (.int .i64 (tr (.var 2) (.var 11))), (.int .i64 (.lit 0)), (.int .i64 (.lit 0)), (.int .i64 (.lit 0)), (.int .i64 (.lit 0)), (.int .i64 (.lit 0)), (.int .i64 (.lit 0))])]) := by unfold EvRun; kernel_rfl
theorem rev3 : EvRun [((.cmp .geq (tr n1 (.lit 100)) (.lit 95)), true), ((.cmp .geq (tr n1 (.lit 100)) (.lit 98)), false), ((.cmp .lss (tr n1 (.lit 100)) (.var 15)), false)] (.tuple [(.int .i64 n2), (.agg [(.int .i64 (.lit 0)), (.int .i64 (tr (.var 2) (.var 11))), (.int .i64 (.lit 0)), (.int .i64 (.lit 0)), (.int .i64 (.lit 0)), (.int .i64 (.lit 0)), (.int .i64 (.lit 0)), (.int .i64 (.lit 0))])]) := by unfold EvRun; kernel_rfl
theorem rev4 : EvRun [((.cmp .eql cr (.lit 1)), true), ((.cmp .geq (tr n1 (.lit 100)) (.lit 80)), true), ((.cmp .geq (tr n1 (.lit 100)) (.lit 95)), false), ((.cmp .geq (tr n1 (.lit 100)) (.lit 98)), false), ((.cmp .lss (tr n1 (.lit 100)) (.var 15)), false)] (.tuple [(.int .i64 n4), (.agg [(.int .i64 (.lit 1)), (.int .i64 (tr (.var 2) (.var 11))), (.int .i64 (.lit 0)), (.int .i64 (.lit 0)), (.int .i64 cr), (.int .i64 (.lit 0)), (.int .i64 (tr n3 (.lit 4))), (.int .i64 (.lit 0))])]) := by unfold EvRun; kernel_rfl
theorem rev5 : EvRun [((.cmp .eql cr (.lit 2)), true), ((.cmp .geq (tr n1 (.lit 100)) (.lit 80)), true), ((.cmp .geq (tr n1 (.lit 100)) (.lit 95)), false), ((.cmp .geq (tr n1 (.lit 100)) (.lit 98)), false), ((.cmp .lss (tr n1 (.lit 100)) (.var 15)), false)] (.tuple [(.int .i64 n3), (.agg [(.int .i64 (.lit 1)), (.int .i64 (tr (.var 2) (.var 11))), (.int .i64 (.lit 0)), (.int .i64 (.lit 0)), (.int .i64 cr), (.int .i64 (.lit 0)), (.int .i64 (.lit 0)), (.int .i64 (.lit 0))])]) := by unfold EvRun; kernel_rfl
theorem rev6 : EvRun [((.cmp .eql cr (.lit 3)), true), ((.cmp .geq (tr n1 (.lit 100)) (.lit 80)), true), ((.cmp .geq (tr n1 (.lit 100)) (.lit 95)), false), ((.cmp .geq (tr n1 (.lit 100)) (.lit 98)), false), ((.cmp .lss (tr n1 (.lit 100)) (.var 15)), false)] (.tuple [(.int .i64 n3), (.agg [(.int .i64 (.lit 1)), (.int .i64 (tr (.var 2) (.var 11))), (.int .i64 (.lit 0)), (.int .i64 (.lit 0)), (.int .i64 cr), (.int .i64 (.lit 0)), (.int .i64 (.lit 0)), (.int .i64 (.lit 0))])]) := by unfold EvRun; kernel_rfl
theorem rev7 : EvRun [((.cmp .eql cr (.lit 4)), true), ((.cmp .geq (tr n1 (.lit 100)) (.lit 80)), true), ((.cmp .geq (tr n1 (.lit 100)) (.lit 95)), false), ((.cmp .geq (tr n1 (.lit 100)) (.lit 98)), false), ((.cmp .lss (tr n1 (.lit 100)) (.var 15)), false)] (.tuple [(.int .i64 n4), (.agg [(.int .i64 (.lit 1)), (.int .i64 (tr (.var 2) (.var 11))), (.int .i64 (.lit 0)), (.int .i64 (.lit 0)), (.int .i64 cr), (.int .i64 (tr n3 (.var 14))), (.int .i64 (.lit 0)), (.int .i64 (.lit 0))])]) := by unfold EvRun; kernel_rfl
theorem rev8 : EvRun [((.cmp .eql cr (.lit 5)), true), ((.cmp .geq (tr n1 (.lit 100)) (.lit 80)), true), ((.cmp .geq (tr n1 (.lit 100)) (.lit 95)), false), ((.cmp .geq (tr n1 (.lit 100)) (.lit 98)), false), ((.cmp .lss (tr n1 (.lit 100)) (.var 15)), false)] (.tuple [(.int .i64 n5), (.agg [(.int .i64 (.lit 1)), (.int .i64 (tr (.var 2) (.var 11))), (.int .i64 (.lit 0)), (.int .i64 (.lit 0)), (.int .i64 cr), (.int .i64 (tr n3 (.var 14))), (.int .i64 (tr n4 (.lit 4))), (.int .i64 (.lit 0))])]) := by unfold EvRun; kernel_rfl
theorem rev9 : EvRun [((.cmp .eql cr (.lit 6)), true), ((.cmp .geq (tr n1 (.lit 100)) (.lit 80)), true), ((.cmp .geq (tr n1 (.lit 100)) (.lit 95)), false), ((.cmp .geq (tr n1 (.lit 100)) (.lit 98)), false), ((.cmp .lss (tr n1 (.lit 100)) (.var 15)), false)] (.tuple [(.int .i64 n4), (.agg [(.int .i64 (.lit 1)), (.int .i64 (tr (.var 2) (.var 11))), (.int .i64 (.lit 0)), (.int .i64 (.lit 0)), (.int .i64 cr), (.int .i64 (tr n3 (.var 14))), (.int .i64 (.lit 0)), (.int .i64 (.lit 0))])]) := by unfold EvRun; kernel_rfl
theorem rev10 : EvRun [((.cmp .eql cr (.lit 7)), true), ((.cmp .geq (tr n1 (.lit 100)) (.lit 80)), true), ((.cmp .geq (tr n1 (.lit 100)) (.lit 95)), false), ((.cmp .geq (tr n1 (.lit 100)) (.lit 98)), false), ((.cmp .lss (tr n1 (.lit 100)) (.var 15)), false)] (.tuple [(.int .i64 n6), (.agg [(.int .i64 (.lit 1)), (.int .i64 (tr (.var 2) (.var 11))), (.int .i64 (.lit 0)), (.int .i64 (.lit 0)), (.int .i64 cr), (.int .i64 (tr n3 (.var 14))), (.int .i64 (tr n4 (.lit 4))), (.int .i64 (tr n5 (.lit 4)))])]) := by unfold EvRun; kernel_rfl
theorem rev11 : EvRun [((.cmp .eql cr (.lit 8)), true), ((.cmp .geq (tr n1 (.lit 100)) (.lit 80)), true), ((.cmp .geq (tr n1 (.lit 100)) (.lit 95)), false), ((.cmp .geq (tr n1 (.lit 100)) (.lit 98)), false), ((.cmp .lss (tr n1 (.lit 100)) (.var 15)), false)] (.tuple [(.int .i64 n3), (.agg [(.int .i64 (.lit 1)), (.int .i64 (tr (.var 2) (.var 11))), (.int .i64 (.lit 0)), (.int .i64 (.lit 0)), (.int .i64 cr), (.int .i64 (.lit 0)), (.int .i64 (.lit 0)), (.int .i64 (.lit 0))])]) := by unfold EvRun; kernel_rfl
theorem rev12 : EvRun [((.cmp .eql cr (.lit 9)), true), ((.cmp .geq (tr n1 (.lit 100)) (.lit 80)), true), ((.cmp .geq (tr n1 (.lit 100)) (.lit 95)), false), ((.cmp .geq (tr n1 (.lit 100)) (.lit 98)), false), ((.cmp .lss (tr n1 (.lit 100)) (.var 15)), false)] (.tuple [(.int .i64 n4), (.agg [(.int .i64 (.lit 1)), (.int .i64 (tr (.var 2) (.var 11))), (.int .i64 (.lit 0)), (.int .i64 (.lit 0)), (.int .i64 cr), (.int .i64 (tr n3 (.var 14))), (.int .i64 (.lit 0)), (.int .i64 (.lit 0))])]) := by unfold EvRun; kernel_rfl
theorem rev13 : EvRun [((.cmp .eql cr (.lit 10)), true), ((.cmp .geq (tr n1 (.lit 100)) (.lit 80)), true), ((.cmp .geq (tr n1 (.lit 100)) (.lit 95)), false), ((.cmp .geq (tr n1 (.lit 100)) (.lit 98)), false), ((.cmp .lss (tr n1 (.lit 100)) (.var 15)), false)] (.tuple [(.int .i64 n5), (.agg [(.int .i64 (.lit 1)), (.int .i64 (tr (.var 2) (.var 11))), (.int .i64 (.lit 0)), (.int .i64 (.lit 0)), (.int .i64 cr), (.int .i64 (tr n3 (.var 14))), (.int .i64 (tr n4 (.lit 4))), (.int .i64 (.lit 0))])]) := by unfold EvRun; kernel_rfl
theorem rev14 : EvRun [((.cmp .eql cr (.lit 11)), true), ((.cmp .geq (tr n1 (.lit 100)) (.lit 80)), true), ((.cmp .geq (tr n1 (.lit 100)) (.lit 95)), false), ((.cmp .geq (tr n1 (.lit 100)) (.lit 98)), false), ((.cmp .lss (tr n1 (.lit 100)) (.var 15)), false)] (.tuple [(.int .i64 n4), (.agg [(.int .i64 (.lit 1)), (.int .i64 (tr (.var 2) (.var 11))), (.int .i64 (.lit 0)), (.int .i64 (.lit 0)), (.int .i64 cr), (.int .i64 (tr n3 (.var 14))), (.int .i64 (.lit 0)), (.int .i64 (.lit 0))])]) := by unfold EvRun; kernel_rfl
theorem rev15 : EvRun [((.cmp .eql cr (.lit 12)), true), ((.cmp .geq (tr n1 (.lit 100)) (.lit 80)), true), ((.cmp .geq (tr n1 (.lit 100)) (.lit 95)), false), ((.cmp .geq (tr n1 (.lit 100)) (.lit 98)), false), ((.cmp .lss (tr n1 (.lit 100)) (.var 15)), false)] (.tuple [(.int .i64 n4), (.agg [(.int .i64 (.lit 1)), (.int .i64 (tr (.var 2) (.var 11))), (.int .i64 (.lit 0)), (.int .i64 (.lit 0)), (.int .i64 cr), (.int .i64 (tr n3 (.var 14))), (.int .i64 (.lit 0)), (.int .i64 (.lit 0))])]) := by unfold EvRun; kernel_rfl
theorem rev16 : EvRun [((.cmp .eql cr (.lit 13)), true), ((.cmp .geq (tr n1 (.lit 100)) (.lit 80)), true), ((.cmp .geq (tr n1 (.lit 100)) (.lit 95)), false), ((.cmp .geq (tr n1 (.lit 100)) (.lit 98)), false), ((.cmp .lss (tr n1 (.lit 100)) (.var 15)), false)] (.tuple [(.int .i64 n4), (.agg [(.int .i64 (.lit 1)), (.int .i64 (tr (.var 2) (.var 11))), (.int .i64 (.lit 0)), (.int .i64 (.lit 0)), (.int .i64 cr), (.int .i64 (tr n3 (.var 14))), (.int .i64 (.lit 0)), (.int .i64 (.lit 0))])]) := by unfold EvRun; kernel_rfl
theorem rev17 : EvRun [((.cmp .eql cr (.lit 14)), true), ((.cmp .geq (tr n1 (.lit 100)) (.lit 80)), true), ((.cmp .geq (tr n1 (.lit 100)) (.lit 95)), false), ((.cmp .geq (tr n1 (.lit 100)) (.lit 98)), false), ((.cmp .lss (tr n1 (.lit 100)) (.var 15)), false)] (.tuple [(.int .i64 n4), (.agg [(.int .i64 (.lit 1)), (.int .i64 (tr (.var 2) (.var 11))), (.int .i64 (.lit 0)), (.int .i64 (.lit 0)), (.int .i64 cr), (.int .i64 (tr n3 (.var 14))), (.int .i64 (.lit 0)), (.int .i64 (.lit 0))])]) := by unfold EvRun; kernel_rfl
theorem rev18 : EvRun [((.cmp .geq (tr n1 (.lit 100)) (.lit 80)), false), ((.cmp .geq (tr n1 (.lit 100)) (.lit 95)), false), ((.cmp .geq (tr n1 (.lit 100)) (.lit 98)), false), ((.cmp .lss (tr n1 (.lit 100)) (.var 15)), false)] (.tuple [(.int .i64 n3), (.agg [(.int .i64 (.lit 5)), (.int .i64 (tr (.var 2) (.var 11))), (.int .i64 (.lit 0)), (.int .i64 (.bin .add .i64 (.lit 1) (tr n2 (.var 13)))), (.int .i64 (.lit 0)), (.int .i64 (.lit 0)), (.int .i64 (.lit 0)), (.int .i64 (.lit 0))])]) := by unfold EvRun; kernel_rfl
theorem ev_leaf (w : World) {A E P K S s σ : Int} (h : Rt A E P K S) {cs : Cs} {u : AVal} {v : Value} (hrun : EvRun cs u) (hc : ∀ ρ', (envP A E P K S s σ).Le ρ' → CRel ρ' cs) (hu : ∀ ρ', (envP A E P K S s σ).Le ρ' → u.den ρ' = some v) :
    Calls Tryz.prog 39 #[planV A E P K S s, .int .i64 σ] w (fun e w' => e = .returned v ∧ Framed w w') := by
  have hG : (NumP A E P K S s).at (envP A E P K S s σ) := ⟨rfl, rfl, rfl, rfl, rfl, rfl, rfl⟩
  obtain ⟨ls, hls, hall⟩ := Option.map_eq_some_iff.1 hrun
  refine (run_calls (β := ⟨w, [], NumP A E P K S s⟩) noCount noExt (spr_ok w) follows Tryz.func39 rfl hls (xs := [planV A E P K S s, .int .i64 σ]) rfl (HRel.startG w (envP A E P K S s σ) (fun _ => rfl) hG) (CRel_app.2 ⟨hc _ (Env.Le.refl _), planC_of h hG⟩) (R := fun x w' => x = v ∧ Framed w w') (fun l hl => ?_)).mono fun e w' ⟨x, he, hv, hf⟩ => ⟨by rw [he, hv], hf⟩
  have h1 := List.all_eq_true.1 hall l hl
  cases l with
  | stop cs' => exact dead_ok h1
  | pause S => cases h1
  | ret v' H nl cs' =>
    intro ρ' w' x hle hxd hr hc'
    have := AVal.beq_eq _ _ h1
    subst this
    rw [hu ρ' hle] at hxd
    exact ⟨(Option.some.inj hxd).symm, Framed.of hr⟩
set_option maxHeartbeats 1000000 in
theorem event39 (w : World) (A E P K S s σ : Int) (h : Rt A E P K S) : Calls Tryz.prog 39 #[planV A E P K S s, .int .i64 σ] w (fun e w' => e = .returned (.tuple #[.int .i64 (evS A P K S σ).s, Ev.val (evS A P K S σ)]) ∧ Framed w w') := by
  have ha1 := h.a1; have ha2 := h.a2; have hp1 := h.p1; have hp2 := h.p2; have hk1 := h.k1; have hk2 := h.k2; have hs1 := h.s1; have hs2 := h.s2
  have dens : ∀ ρ' : Env, (envP A E P K S s σ).Le ρ' → ρ'.F = FE A P K S ∧ (IT.var 2).den ρ' = some σ ∧ (IT.var 11).den ρ' = some A ∧ (IT.var 13).den ρ' = some P ∧ (IT.var 14).den ρ' = some K ∧ (IT.var 15).den ρ' = some S := fun ρ' hle => by
    simp only [IT.den, hle.i, hle.f]; exact ⟨rfl, rfl, rfl, rfl, rfl, rfl⟩
  by_cases c1 : thS (nxS σ) 100 < S
  · by_cases c2 : thS (nxS (nxS σ)) 2 = 1
    ·
      have hev := ev4 (A := A) (P := P) (K := K) (S := S) (s := σ) (by omega) (by omega) 
      refine ev_leaf w h rev0 (fun ρ' hle => ?_) (fun ρ' hle => ?_)
      · obtain ⟨hF, d2, dA, dP, dK, dS⟩ := dens ρ' hle
        have e1 : n1.den ρ' = some (nxS σ) := nx_denE hF d2
        have e2 : n2.den ρ' = some (nxS (nxS σ)) := nx_denE hF e1
        have e3 : n3.den ρ' = some (nxS (nxS (nxS σ))) := nx_denE hF e2
        have e4 : n4.den ρ' = some (nxS (nxS (nxS (nxS σ)))) := nx_denE hF e3
        have e5 : n5.den ρ' = some (nxS (nxS (nxS (nxS (nxS σ))))) := nx_denE hF e4
        have e6 : n6.den ρ' = some (nxS (nxS (nxS (nxS (nxS (nxS σ)))))) := nx_denE hF e5
        have tA := tr_denE hF d2 dA
        have t1 := tr_denE hF e1 (den_lit 100)
        have t2 := tr_denE hF e2 (den_lit 2)
        have t3 := tr_denE hF e3 dA
        have t4 := tr_denE hF e2 (den_lit 14)
        have t5 := tr_denE hF e2 dP
        have k3 := tr_denE hF e3 dK
        have v3 := tr_denE hF e3 (den_lit 4)
        have v4 := tr_denE hF e4 (den_lit 4)
        have v5 := tr_denE hF e5 (den_lit 4)
        have b14 := thS_bnd (nxS (nxS σ)) (n := 14) (by decide)
        have bP := thS_bnd (nxS (nxS σ)) (n := P) (by omega)
        have bK := thS_bnd (nxS (nxS (nxS σ))) (n := K) (by omega)
        have b3 := thS_bnd (nxS (nxS (nxS σ))) (n := 4) (by decide)
        have b4 := thS_bnd (nxS (nxS (nxS (nxS σ)))) (n := 4) (by decide)
        have dc : cr.den ρ' = some (1 + thS (nxS (nxS σ)) 14) := by
          simp only [cr, IT.den, t4, intBin, Option.some.injEq]; exact wrap_ok (by omega) (by omega)
        have dn : (IT.bin .add .i64 (.lit 1) (tr n2 (.var 13))).den ρ' = some (1 + thS (nxS (nxS σ)) P) := by
          simp only [IT.den, t5, intBin, Option.some.injEq]; exact wrap_ok (by omega) (by omega)
        simp only [CRel_cons, CRel_nil, and_true, BT.den, dS, t1, t2, den_lit, intCmp, Option.some.injEq, decide_eq_true_eq, beq_iff_eq]
        omega
      · obtain ⟨hF, d2, dA, dP, dK, dS⟩ := dens ρ' hle
        have e1 : n1.den ρ' = some (nxS σ) := nx_denE hF d2
        have e2 : n2.den ρ' = some (nxS (nxS σ)) := nx_denE hF e1
        have e3 : n3.den ρ' = some (nxS (nxS (nxS σ))) := nx_denE hF e2
        have e4 : n4.den ρ' = some (nxS (nxS (nxS (nxS σ)))) := nx_denE hF e3
        have e5 : n5.den ρ' = some (nxS (nxS (nxS (nxS (nxS σ))))) := nx_denE hF e4
        have e6 : n6.den ρ' = some (nxS (nxS (nxS (nxS (nxS (nxS σ)))))) := nx_denE hF e5
        have tA := tr_denE hF d2 dA
        have t1 := tr_denE hF e1 (den_lit 100)
        have t2 := tr_denE hF e2 (den_lit 2)
        have t3 := tr_denE hF e3 dA
        have t4 := tr_denE hF e2 (den_lit 14)
        have t5 := tr_denE hF e2 dP
        have k3 := tr_denE hF e3 dK
        have v3 := tr_denE hF e3 (den_lit 4)
        have v4 := tr_denE hF e4 (den_lit 4)
        have v5 := tr_denE hF e5 (den_lit 4)
        have b14 := thS_bnd (nxS (nxS σ)) (n := 14) (by decide)
        have bP := thS_bnd (nxS (nxS σ)) (n := P) (by omega)
        have bK := thS_bnd (nxS (nxS (nxS σ))) (n := K) (by omega)
        have b3 := thS_bnd (nxS (nxS (nxS σ))) (n := 4) (by decide)
        have b4 := thS_bnd (nxS (nxS (nxS (nxS σ)))) (n := 4) (by decide)
        have dc : cr.den ρ' = some (1 + thS (nxS (nxS σ)) 14) := by
          simp only [cr, IT.den, t4, intBin, Option.some.injEq]; exact wrap_ok (by omega) (by omega)
        have dn : (IT.bin .add .i64 (.lit 1) (tr n2 (.var 13))).den ρ' = some (1 + thS (nxS (nxS σ)) P) := by
          simp only [IT.den, t5, intBin, Option.some.injEq]; exact wrap_ok (by omega) (by omega)
        rw [hev]
        simp only [AVal.den, AVal.denL, e4, tA, t3, den_lit, Option.map_some]; rfl
    ·
      have hev := ev3 (A := A) (P := P) (K := K) (S := S) (s := σ) (by omega) (by omega) 
      refine ev_leaf w h rev1 (fun ρ' hle => ?_) (fun ρ' hle => ?_)
      · obtain ⟨hF, d2, dA, dP, dK, dS⟩ := dens ρ' hle
        have e1 : n1.den ρ' = some (nxS σ) := nx_denE hF d2
        have e2 : n2.den ρ' = some (nxS (nxS σ)) := nx_denE hF e1
        have e3 : n3.den ρ' = some (nxS (nxS (nxS σ))) := nx_denE hF e2
        have e4 : n4.den ρ' = some (nxS (nxS (nxS (nxS σ)))) := nx_denE hF e3
        have e5 : n5.den ρ' = some (nxS (nxS (nxS (nxS (nxS σ))))) := nx_denE hF e4
        have e6 : n6.den ρ' = some (nxS (nxS (nxS (nxS (nxS (nxS σ)))))) := nx_denE hF e5
        have tA := tr_denE hF d2 dA
        have t1 := tr_denE hF e1 (den_lit 100)
        have t2 := tr_denE hF e2 (den_lit 2)
        have t3 := tr_denE hF e3 dA
        have t4 := tr_denE hF e2 (den_lit 14)
        have t5 := tr_denE hF e2 dP
        have k3 := tr_denE hF e3 dK
        have v3 := tr_denE hF e3 (den_lit 4)
        have v4 := tr_denE hF e4 (den_lit 4)
        have v5 := tr_denE hF e5 (den_lit 4)
        have b14 := thS_bnd (nxS (nxS σ)) (n := 14) (by decide)
        have bP := thS_bnd (nxS (nxS σ)) (n := P) (by omega)
        have bK := thS_bnd (nxS (nxS (nxS σ))) (n := K) (by omega)
        have b3 := thS_bnd (nxS (nxS (nxS σ))) (n := 4) (by decide)
        have b4 := thS_bnd (nxS (nxS (nxS (nxS σ)))) (n := 4) (by decide)
        have dc : cr.den ρ' = some (1 + thS (nxS (nxS σ)) 14) := by
          simp only [cr, IT.den, t4, intBin, Option.some.injEq]; exact wrap_ok (by omega) (by omega)
        have dn : (IT.bin .add .i64 (.lit 1) (tr n2 (.var 13))).den ρ' = some (1 + thS (nxS (nxS σ)) P) := by
          simp only [IT.den, t5, intBin, Option.some.injEq]; exact wrap_ok (by omega) (by omega)
        simp only [CRel_cons, CRel_nil, and_true, BT.den, dS, t1, t2, den_lit, intCmp, Option.some.injEq, decide_eq_true_eq, beq_eq_false_iff_ne, ne_eq]
        omega
      · obtain ⟨hF, d2, dA, dP, dK, dS⟩ := dens ρ' hle
        have e1 : n1.den ρ' = some (nxS σ) := nx_denE hF d2
        have e2 : n2.den ρ' = some (nxS (nxS σ)) := nx_denE hF e1
        have e3 : n3.den ρ' = some (nxS (nxS (nxS σ))) := nx_denE hF e2
        have e4 : n4.den ρ' = some (nxS (nxS (nxS (nxS σ)))) := nx_denE hF e3
        have e5 : n5.den ρ' = some (nxS (nxS (nxS (nxS (nxS σ))))) := nx_denE hF e4
        have e6 : n6.den ρ' = some (nxS (nxS (nxS (nxS (nxS (nxS σ)))))) := nx_denE hF e5
        have tA := tr_denE hF d2 dA
        have t1 := tr_denE hF e1 (den_lit 100)
        have t2 := tr_denE hF e2 (den_lit 2)
        have t3 := tr_denE hF e3 dA
        have t4 := tr_denE hF e2 (den_lit 14)
        have t5 := tr_denE hF e2 dP
        have k3 := tr_denE hF e3 dK
        have v3 := tr_denE hF e3 (den_lit 4)
        have v4 := tr_denE hF e4 (den_lit 4)
        have v5 := tr_denE hF e5 (den_lit 4)
        have b14 := thS_bnd (nxS (nxS σ)) (n := 14) (by decide)
        have bP := thS_bnd (nxS (nxS σ)) (n := P) (by omega)
        have bK := thS_bnd (nxS (nxS (nxS σ))) (n := K) (by omega)
        have b3 := thS_bnd (nxS (nxS (nxS σ))) (n := 4) (by decide)
        have b4 := thS_bnd (nxS (nxS (nxS (nxS σ)))) (n := 4) (by decide)
        have dc : cr.den ρ' = some (1 + thS (nxS (nxS σ)) 14) := by
          simp only [cr, IT.den, t4, intBin, Option.some.injEq]; exact wrap_ok (by omega) (by omega)
        have dn : (IT.bin .add .i64 (.lit 1) (tr n2 (.var 13))).den ρ' = some (1 + thS (nxS (nxS σ)) P) := by
          simp only [IT.den, t5, intBin, Option.some.injEq]; exact wrap_ok (by omega) (by omega)
        rw [hev]
        simp only [AVal.den, AVal.denL, e3, tA, den_lit, Option.map_some]; rfl
  by_cases c3 : 98 ≤ thS (nxS σ) 100
  ·
    have hev := ev2 (A := A) (P := P) (K := K) (S := S) (s := σ) (by omega) (by omega) 
    refine ev_leaf w h rev2 (fun ρ' hle => ?_) (fun ρ' hle => ?_)
    · obtain ⟨hF, d2, dA, dP, dK, dS⟩ := dens ρ' hle
      have e1 : n1.den ρ' = some (nxS σ) := nx_denE hF d2
      have e2 : n2.den ρ' = some (nxS (nxS σ)) := nx_denE hF e1
      have e3 : n3.den ρ' = some (nxS (nxS (nxS σ))) := nx_denE hF e2
      have e4 : n4.den ρ' = some (nxS (nxS (nxS (nxS σ)))) := nx_denE hF e3
      have e5 : n5.den ρ' = some (nxS (nxS (nxS (nxS (nxS σ))))) := nx_denE hF e4
      have e6 : n6.den ρ' = some (nxS (nxS (nxS (nxS (nxS (nxS σ)))))) := nx_denE hF e5
      have tA := tr_denE hF d2 dA
      have t1 := tr_denE hF e1 (den_lit 100)
      have t2 := tr_denE hF e2 (den_lit 2)
      have t3 := tr_denE hF e3 dA
      have t4 := tr_denE hF e2 (den_lit 14)
      have t5 := tr_denE hF e2 dP
      have k3 := tr_denE hF e3 dK
      have v3 := tr_denE hF e3 (den_lit 4)
      have v4 := tr_denE hF e4 (den_lit 4)
      have v5 := tr_denE hF e5 (den_lit 4)
      have b14 := thS_bnd (nxS (nxS σ)) (n := 14) (by decide)
      have bP := thS_bnd (nxS (nxS σ)) (n := P) (by omega)
      have bK := thS_bnd (nxS (nxS (nxS σ))) (n := K) (by omega)
      have b3 := thS_bnd (nxS (nxS (nxS σ))) (n := 4) (by decide)
      have b4 := thS_bnd (nxS (nxS (nxS (nxS σ)))) (n := 4) (by decide)
      have dc : cr.den ρ' = some (1 + thS (nxS (nxS σ)) 14) := by
        simp only [cr, IT.den, t4, intBin, Option.some.injEq]; exact wrap_ok (by omega) (by omega)
      have dn : (IT.bin .add .i64 (.lit 1) (tr n2 (.var 13))).den ρ' = some (1 + thS (nxS (nxS σ)) P) := by
        simp only [IT.den, t5, intBin, Option.some.injEq]; exact wrap_ok (by omega) (by omega)
      simp only [CRel_cons, CRel_nil, and_true, BT.den, dS, t1, den_lit, intCmp, Option.some.injEq, decide_eq_true_eq, decide_eq_false_iff_not]
      omega
    · obtain ⟨hF, d2, dA, dP, dK, dS⟩ := dens ρ' hle
      have e1 : n1.den ρ' = some (nxS σ) := nx_denE hF d2
      have e2 : n2.den ρ' = some (nxS (nxS σ)) := nx_denE hF e1
      have e3 : n3.den ρ' = some (nxS (nxS (nxS σ))) := nx_denE hF e2
      have e4 : n4.den ρ' = some (nxS (nxS (nxS (nxS σ)))) := nx_denE hF e3
      have e5 : n5.den ρ' = some (nxS (nxS (nxS (nxS (nxS σ))))) := nx_denE hF e4
      have e6 : n6.den ρ' = some (nxS (nxS (nxS (nxS (nxS (nxS σ)))))) := nx_denE hF e5
      have tA := tr_denE hF d2 dA
      have t1 := tr_denE hF e1 (den_lit 100)
      have t2 := tr_denE hF e2 (den_lit 2)
      have t3 := tr_denE hF e3 dA
      have t4 := tr_denE hF e2 (den_lit 14)
      have t5 := tr_denE hF e2 dP
      have k3 := tr_denE hF e3 dK
      have v3 := tr_denE hF e3 (den_lit 4)
      have v4 := tr_denE hF e4 (den_lit 4)
      have v5 := tr_denE hF e5 (den_lit 4)
      have b14 := thS_bnd (nxS (nxS σ)) (n := 14) (by decide)
      have bP := thS_bnd (nxS (nxS σ)) (n := P) (by omega)
      have bK := thS_bnd (nxS (nxS (nxS σ))) (n := K) (by omega)
      have b3 := thS_bnd (nxS (nxS (nxS σ))) (n := 4) (by decide)
      have b4 := thS_bnd (nxS (nxS (nxS (nxS σ)))) (n := 4) (by decide)
      have dc : cr.den ρ' = some (1 + thS (nxS (nxS σ)) 14) := by
        simp only [cr, IT.den, t4, intBin, Option.some.injEq]; exact wrap_ok (by omega) (by omega)
      have dn : (IT.bin .add .i64 (.lit 1) (tr n2 (.var 13))).den ρ' = some (1 + thS (nxS (nxS σ)) P) := by
        simp only [IT.den, t5, intBin, Option.some.injEq]; exact wrap_ok (by omega) (by omega)
      rw [hev]
      simp only [AVal.den, AVal.denL, e2, tA, den_lit, Option.map_some]; rfl
  by_cases c4 : 95 ≤ thS (nxS σ) 100
  ·
    have hev := ev0 (A := A) (P := P) (K := K) (S := S) (s := σ) (by omega) (by omega) (by omega) 
    refine ev_leaf w h rev3 (fun ρ' hle => ?_) (fun ρ' hle => ?_)
    · obtain ⟨hF, d2, dA, dP, dK, dS⟩ := dens ρ' hle
      have e1 : n1.den ρ' = some (nxS σ) := nx_denE hF d2
      have e2 : n2.den ρ' = some (nxS (nxS σ)) := nx_denE hF e1
      have e3 : n3.den ρ' = some (nxS (nxS (nxS σ))) := nx_denE hF e2
      have e4 : n4.den ρ' = some (nxS (nxS (nxS (nxS σ)))) := nx_denE hF e3
      have e5 : n5.den ρ' = some (nxS (nxS (nxS (nxS (nxS σ))))) := nx_denE hF e4
      have e6 : n6.den ρ' = some (nxS (nxS (nxS (nxS (nxS (nxS σ)))))) := nx_denE hF e5
      have tA := tr_denE hF d2 dA
      have t1 := tr_denE hF e1 (den_lit 100)
      have t2 := tr_denE hF e2 (den_lit 2)
      have t3 := tr_denE hF e3 dA
      have t4 := tr_denE hF e2 (den_lit 14)
      have t5 := tr_denE hF e2 dP
      have k3 := tr_denE hF e3 dK
      have v3 := tr_denE hF e3 (den_lit 4)
      have v4 := tr_denE hF e4 (den_lit 4)
      have v5 := tr_denE hF e5 (den_lit 4)
      have b14 := thS_bnd (nxS (nxS σ)) (n := 14) (by decide)
      have bP := thS_bnd (nxS (nxS σ)) (n := P) (by omega)
      have bK := thS_bnd (nxS (nxS (nxS σ))) (n := K) (by omega)
      have b3 := thS_bnd (nxS (nxS (nxS σ))) (n := 4) (by decide)
      have b4 := thS_bnd (nxS (nxS (nxS (nxS σ)))) (n := 4) (by decide)
      have dc : cr.den ρ' = some (1 + thS (nxS (nxS σ)) 14) := by
        simp only [cr, IT.den, t4, intBin, Option.some.injEq]; exact wrap_ok (by omega) (by omega)
      have dn : (IT.bin .add .i64 (.lit 1) (tr n2 (.var 13))).den ρ' = some (1 + thS (nxS (nxS σ)) P) := by
        simp only [IT.den, t5, intBin, Option.some.injEq]; exact wrap_ok (by omega) (by omega)
      simp only [CRel_cons, CRel_nil, and_true, BT.den, dS, t1, den_lit, intCmp, Option.some.injEq, decide_eq_true_eq, decide_eq_false_iff_not]
      omega
    · obtain ⟨hF, d2, dA, dP, dK, dS⟩ := dens ρ' hle
      have e1 : n1.den ρ' = some (nxS σ) := nx_denE hF d2
      have e2 : n2.den ρ' = some (nxS (nxS σ)) := nx_denE hF e1
      have e3 : n3.den ρ' = some (nxS (nxS (nxS σ))) := nx_denE hF e2
      have e4 : n4.den ρ' = some (nxS (nxS (nxS (nxS σ)))) := nx_denE hF e3
      have e5 : n5.den ρ' = some (nxS (nxS (nxS (nxS (nxS σ))))) := nx_denE hF e4
      have e6 : n6.den ρ' = some (nxS (nxS (nxS (nxS (nxS (nxS σ)))))) := nx_denE hF e5
      have tA := tr_denE hF d2 dA
      have t1 := tr_denE hF e1 (den_lit 100)
      have t2 := tr_denE hF e2 (den_lit 2)
      have t3 := tr_denE hF e3 dA
      have t4 := tr_denE hF e2 (den_lit 14)
      have t5 := tr_denE hF e2 dP
      have k3 := tr_denE hF e3 dK
      have v3 := tr_denE hF e3 (den_lit 4)
      have v4 := tr_denE hF e4 (den_lit 4)
      have v5 := tr_denE hF e5 (den_lit 4)
      have b14 := thS_bnd (nxS (nxS σ)) (n := 14) (by decide)
      have bP := thS_bnd (nxS (nxS σ)) (n := P) (by omega)
      have bK := thS_bnd (nxS (nxS (nxS σ))) (n := K) (by omega)
      have b3 := thS_bnd (nxS (nxS (nxS σ))) (n := 4) (by decide)
      have b4 := thS_bnd (nxS (nxS (nxS (nxS σ)))) (n := 4) (by decide)
      have dc : cr.den ρ' = some (1 + thS (nxS (nxS σ)) 14) := by
        simp only [cr, IT.den, t4, intBin, Option.some.injEq]; exact wrap_ok (by omega) (by omega)
      have dn : (IT.bin .add .i64 (.lit 1) (tr n2 (.var 13))).den ρ' = some (1 + thS (nxS (nxS σ)) P) := by
        simp only [IT.den, t5, intBin, Option.some.injEq]; exact wrap_ok (by omega) (by omega)
      rw [hev]
      simp only [AVal.den, AVal.denL, e2, tA, den_lit, Option.map_some]; rfl
  by_cases c5 : 80 ≤ thS (nxS σ) 100
  rotate_left
  ·
    have hev := ev5 (A := A) (P := P) (K := K) (S := S) (s := σ) (by omega) (by omega) 
    refine ev_leaf w h rev18 (fun ρ' hle => ?_) (fun ρ' hle => ?_)
    · obtain ⟨hF, d2, dA, dP, dK, dS⟩ := dens ρ' hle
      have e1 : n1.den ρ' = some (nxS σ) := nx_denE hF d2
      have e2 : n2.den ρ' = some (nxS (nxS σ)) := nx_denE hF e1
      have e3 : n3.den ρ' = some (nxS (nxS (nxS σ))) := nx_denE hF e2
      have e4 : n4.den ρ' = some (nxS (nxS (nxS (nxS σ)))) := nx_denE hF e3
      have e5 : n5.den ρ' = some (nxS (nxS (nxS (nxS (nxS σ))))) := nx_denE hF e4
      have e6 : n6.den ρ' = some (nxS (nxS (nxS (nxS (nxS (nxS σ)))))) := nx_denE hF e5
      have tA := tr_denE hF d2 dA
      have t1 := tr_denE hF e1 (den_lit 100)
      have t2 := tr_denE hF e2 (den_lit 2)
      have t3 := tr_denE hF e3 dA
      have t4 := tr_denE hF e2 (den_lit 14)
      have t5 := tr_denE hF e2 dP
      have k3 := tr_denE hF e3 dK
      have v3 := tr_denE hF e3 (den_lit 4)
      have v4 := tr_denE hF e4 (den_lit 4)
      have v5 := tr_denE hF e5 (den_lit 4)
      have b14 := thS_bnd (nxS (nxS σ)) (n := 14) (by decide)
      have bP := thS_bnd (nxS (nxS σ)) (n := P) (by omega)
      have bK := thS_bnd (nxS (nxS (nxS σ))) (n := K) (by omega)
      have b3 := thS_bnd (nxS (nxS (nxS σ))) (n := 4) (by decide)
      have b4 := thS_bnd (nxS (nxS (nxS (nxS σ)))) (n := 4) (by decide)
      have dc : cr.den ρ' = some (1 + thS (nxS (nxS σ)) 14) := by
        simp only [cr, IT.den, t4, intBin, Option.some.injEq]; exact wrap_ok (by omega) (by omega)
      have dn : (IT.bin .add .i64 (.lit 1) (tr n2 (.var 13))).den ρ' = some (1 + thS (nxS (nxS σ)) P) := by
        simp only [IT.den, t5, intBin, Option.some.injEq]; exact wrap_ok (by omega) (by omega)
      simp only [CRel_cons, CRel_nil, and_true, BT.den, dS, t1, den_lit, intCmp, Option.some.injEq, decide_eq_false_iff_not]
      omega
    · obtain ⟨hF, d2, dA, dP, dK, dS⟩ := dens ρ' hle
      have e1 : n1.den ρ' = some (nxS σ) := nx_denE hF d2
      have e2 : n2.den ρ' = some (nxS (nxS σ)) := nx_denE hF e1
      have e3 : n3.den ρ' = some (nxS (nxS (nxS σ))) := nx_denE hF e2
      have e4 : n4.den ρ' = some (nxS (nxS (nxS (nxS σ)))) := nx_denE hF e3
      have e5 : n5.den ρ' = some (nxS (nxS (nxS (nxS (nxS σ))))) := nx_denE hF e4
      have e6 : n6.den ρ' = some (nxS (nxS (nxS (nxS (nxS (nxS σ)))))) := nx_denE hF e5
      have tA := tr_denE hF d2 dA
      have t1 := tr_denE hF e1 (den_lit 100)
      have t2 := tr_denE hF e2 (den_lit 2)
      have t3 := tr_denE hF e3 dA
      have t4 := tr_denE hF e2 (den_lit 14)
      have t5 := tr_denE hF e2 dP
      have k3 := tr_denE hF e3 dK
      have v3 := tr_denE hF e3 (den_lit 4)
      have v4 := tr_denE hF e4 (den_lit 4)
      have v5 := tr_denE hF e5 (den_lit 4)
      have b14 := thS_bnd (nxS (nxS σ)) (n := 14) (by decide)
      have bP := thS_bnd (nxS (nxS σ)) (n := P) (by omega)
      have bK := thS_bnd (nxS (nxS (nxS σ))) (n := K) (by omega)
      have b3 := thS_bnd (nxS (nxS (nxS σ))) (n := 4) (by decide)
      have b4 := thS_bnd (nxS (nxS (nxS (nxS σ)))) (n := 4) (by decide)
      have dc : cr.den ρ' = some (1 + thS (nxS (nxS σ)) 14) := by
        simp only [cr, IT.den, t4, intBin, Option.some.injEq]; exact wrap_ok (by omega) (by omega)
      have dn : (IT.bin .add .i64 (.lit 1) (tr n2 (.var 13))).den ρ' = some (1 + thS (nxS (nxS σ)) P) := by
        simp only [IT.den, t5, intBin, Option.some.injEq]; exact wrap_ok (by omega) (by omega)
      rw [hev]
      simp only [AVal.den, AVal.denL, e3, tA, dn, den_lit, Option.map_some]; rfl
  have b14' := thS_bnd (nxS (nxS σ)) (n := 14) (by decide)
  have hjj : 1 + thS (nxS (nxS σ)) 14 = 1 ∨ 1 + thS (nxS (nxS σ)) 14 = 2 ∨ 1 + thS (nxS (nxS σ)) 14 = 3 ∨ 1 + thS (nxS (nxS σ)) 14 = 4 ∨ 1 + thS (nxS (nxS σ)) 14 = 5 ∨ 1 + thS (nxS (nxS σ)) 14 = 6 ∨ 1 + thS (nxS (nxS σ)) 14 = 7 ∨ 1 + thS (nxS (nxS σ)) 14 = 8 ∨ 1 + thS (nxS (nxS σ)) 14 = 9 ∨ 1 + thS (nxS (nxS σ)) 14 = 10 ∨ 1 + thS (nxS (nxS σ)) 14 = 11 ∨ 1 + thS (nxS (nxS σ)) 14 = 12 ∨ 1 + thS (nxS (nxS σ)) 14 = 13 ∨ 1 + thS (nxS (nxS σ)) 14 = 14 := by omega
  rcases hjj with hj | hj | hj | hj | hj | hj | hj | hj | hj | hj | hj | hj | hj | hj
  ·
    have hev := ev1 (A := A) (P := P) (K := K) (S := S) (s := σ) (by omega) (by omega) (by omega) (by omega) rfl (bk := false) (ba := true) (bb := false) (by rw [hj]; rfl) (by rw [hj]; rfl) (by rw [hj]; rfl)
    simp only [if_true, Bool.false_eq_true, if_false] at hev
    refine ev_leaf w h rev4 (fun ρ' hle => ?_) (fun ρ' hle => ?_)
    · obtain ⟨hF, d2, dA, dP, dK, dS⟩ := dens ρ' hle
      have e1 : n1.den ρ' = some (nxS σ) := nx_denE hF d2
      have e2 : n2.den ρ' = some (nxS (nxS σ)) := nx_denE hF e1
      have e3 : n3.den ρ' = some (nxS (nxS (nxS σ))) := nx_denE hF e2
      have e4 : n4.den ρ' = some (nxS (nxS (nxS (nxS σ)))) := nx_denE hF e3
      have e5 : n5.den ρ' = some (nxS (nxS (nxS (nxS (nxS σ))))) := nx_denE hF e4
      have e6 : n6.den ρ' = some (nxS (nxS (nxS (nxS (nxS (nxS σ)))))) := nx_denE hF e5
      have tA := tr_denE hF d2 dA
      have t1 := tr_denE hF e1 (den_lit 100)
      have t2 := tr_denE hF e2 (den_lit 2)
      have t3 := tr_denE hF e3 dA
      have t4 := tr_denE hF e2 (den_lit 14)
      have t5 := tr_denE hF e2 dP
      have k3 := tr_denE hF e3 dK
      have v3 := tr_denE hF e3 (den_lit 4)
      have v4 := tr_denE hF e4 (den_lit 4)
      have v5 := tr_denE hF e5 (den_lit 4)
      have b14 := thS_bnd (nxS (nxS σ)) (n := 14) (by decide)
      have bP := thS_bnd (nxS (nxS σ)) (n := P) (by omega)
      have bK := thS_bnd (nxS (nxS (nxS σ))) (n := K) (by omega)
      have b3 := thS_bnd (nxS (nxS (nxS σ))) (n := 4) (by decide)
      have b4 := thS_bnd (nxS (nxS (nxS (nxS σ)))) (n := 4) (by decide)
      have dc : cr.den ρ' = some (1 + thS (nxS (nxS σ)) 14) := by
        simp only [cr, IT.den, t4, intBin, Option.some.injEq]; exact wrap_ok (by omega) (by omega)
      have dn : (IT.bin .add .i64 (.lit 1) (tr n2 (.var 13))).den ρ' = some (1 + thS (nxS (nxS σ)) P) := by
        simp only [IT.den, t5, intBin, Option.some.injEq]; exact wrap_ok (by omega) (by omega)
      simp only [CRel_cons, CRel_nil, and_true, BT.den, dS, t1, dc, den_lit, intCmp, Option.some.injEq, decide_eq_true_eq, decide_eq_false_iff_not, beq_iff_eq]
      omega
    · obtain ⟨hF, d2, dA, dP, dK, dS⟩ := dens ρ' hle
      have e1 : n1.den ρ' = some (nxS σ) := nx_denE hF d2
      have e2 : n2.den ρ' = some (nxS (nxS σ)) := nx_denE hF e1
      have e3 : n3.den ρ' = some (nxS (nxS (nxS σ))) := nx_denE hF e2
      have e4 : n4.den ρ' = some (nxS (nxS (nxS (nxS σ)))) := nx_denE hF e3
      have e5 : n5.den ρ' = some (nxS (nxS (nxS (nxS (nxS σ))))) := nx_denE hF e4
      have e6 : n6.den ρ' = some (nxS (nxS (nxS (nxS (nxS (nxS σ)))))) := nx_denE hF e5
      have tA := tr_denE hF d2 dA
      have t1 := tr_denE hF e1 (den_lit 100)
      have t2 := tr_denE hF e2 (den_lit 2)
      have t3 := tr_denE hF e3 dA
      have t4 := tr_denE hF e2 (den_lit 14)
      have t5 := tr_denE hF e2 dP
      have k3 := tr_denE hF e3 dK
      have v3 := tr_denE hF e3 (den_lit 4)
      have v4 := tr_denE hF e4 (den_lit 4)
      have v5 := tr_denE hF e5 (den_lit 4)
      have b14 := thS_bnd (nxS (nxS σ)) (n := 14) (by decide)
      have bP := thS_bnd (nxS (nxS σ)) (n := P) (by omega)
      have bK := thS_bnd (nxS (nxS (nxS σ))) (n := K) (by omega)
      have b3 := thS_bnd (nxS (nxS (nxS σ))) (n := 4) (by decide)
      have b4 := thS_bnd (nxS (nxS (nxS (nxS σ)))) (n := 4) (by decide)
      have dc : cr.den ρ' = some (1 + thS (nxS (nxS σ)) 14) := by
        simp only [cr, IT.den, t4, intBin, Option.some.injEq]; exact wrap_ok (by omega) (by omega)
      have dn : (IT.bin .add .i64 (.lit 1) (tr n2 (.var 13))).den ρ' = some (1 + thS (nxS (nxS σ)) P) := by
        simp only [IT.den, t5, intBin, Option.some.injEq]; exact wrap_ok (by omega) (by omega)
      rw [hev]
      simp only [AVal.den, AVal.denL, e4, tA, v3, dc, den_lit, Option.map_some]; rfl
  ·
    have hev := ev1 (A := A) (P := P) (K := K) (S := S) (s := σ) (by omega) (by omega) (by omega) (by omega) rfl (bk := false) (ba := false) (bb := false) (by rw [hj]; rfl) (by rw [hj]; rfl) (by rw [hj]; rfl)
    simp only [Bool.false_eq_true, if_false] at hev
    refine ev_leaf w h rev5 (fun ρ' hle => ?_) (fun ρ' hle => ?_)
    · obtain ⟨hF, d2, dA, dP, dK, dS⟩ := dens ρ' hle
      have e1 : n1.den ρ' = some (nxS σ) := nx_denE hF d2
      have e2 : n2.den ρ' = some (nxS (nxS σ)) := nx_denE hF e1
      have e3 : n3.den ρ' = some (nxS (nxS (nxS σ))) := nx_denE hF e2
      have e4 : n4.den ρ' = some (nxS (nxS (nxS (nxS σ)))) := nx_denE hF e3
      have e5 : n5.den ρ' = some (nxS (nxS (nxS (nxS (nxS σ))))) := nx_denE hF e4
      have e6 : n6.den ρ' = some (nxS (nxS (nxS (nxS (nxS (nxS σ)))))) := nx_denE hF e5
      have tA := tr_denE hF d2 dA
      have t1 := tr_denE hF e1 (den_lit 100)
      have t2 := tr_denE hF e2 (den_lit 2)
      have t3 := tr_denE hF e3 dA
      have t4 := tr_denE hF e2 (den_lit 14)
      have t5 := tr_denE hF e2 dP
      have k3 := tr_denE hF e3 dK
      have v3 := tr_denE hF e3 (den_lit 4)
      have v4 := tr_denE hF e4 (den_lit 4)
      have v5 := tr_denE hF e5 (den_lit 4)
      have b14 := thS_bnd (nxS (nxS σ)) (n := 14) (by decide)
      have bP := thS_bnd (nxS (nxS σ)) (n := P) (by omega)
      have bK := thS_bnd (nxS (nxS (nxS σ))) (n := K) (by omega)
      have b3 := thS_bnd (nxS (nxS (nxS σ))) (n := 4) (by decide)
      have b4 := thS_bnd (nxS (nxS (nxS (nxS σ)))) (n := 4) (by decide)
      have dc : cr.den ρ' = some (1 + thS (nxS (nxS σ)) 14) := by
        simp only [cr, IT.den, t4, intBin, Option.some.injEq]; exact wrap_ok (by omega) (by omega)
      have dn : (IT.bin .add .i64 (.lit 1) (tr n2 (.var 13))).den ρ' = some (1 + thS (nxS (nxS σ)) P) := by
        simp only [IT.den, t5, intBin, Option.some.injEq]; exact wrap_ok (by omega) (by omega)
      simp only [CRel_cons, CRel_nil, and_true, BT.den, dS, t1, dc, den_lit, intCmp, Option.some.injEq, decide_eq_true_eq, decide_eq_false_iff_not, beq_iff_eq]
      omega
    · obtain ⟨hF, d2, dA, dP, dK, dS⟩ := dens ρ' hle
      have e1 : n1.den ρ' = some (nxS σ) := nx_denE hF d2
      have e2 : n2.den ρ' = some (nxS (nxS σ)) := nx_denE hF e1
      have e3 : n3.den ρ' = some (nxS (nxS (nxS σ))) := nx_denE hF e2
      have e4 : n4.den ρ' = some (nxS (nxS (nxS (nxS σ)))) := nx_denE hF e3
      have e5 : n5.den ρ' = some (nxS (nxS (nxS (nxS (nxS σ))))) := nx_denE hF e4
      have e6 : n6.den ρ' = some (nxS (nxS (nxS (nxS (nxS (nxS σ)))))) := nx_denE hF e5
      have tA := tr_denE hF d2 dA
      have t1 := tr_denE hF e1 (den_lit 100)
      have t2 := tr_denE hF e2 (den_lit 2)
      have t3 := tr_denE hF e3 dA
      have t4 := tr_denE hF e2 (den_lit 14)
      have t5 := tr_denE hF e2 dP
      have k3 := tr_denE hF e3 dK
      have v3 := tr_denE hF e3 (den_lit 4)
      have v4 := tr_denE hF e4 (den_lit 4)
      have v5 := tr_denE hF e5 (den_lit 4)
      have b14 := thS_bnd (nxS (nxS σ)) (n := 14) (by decide)
      have bP := thS_bnd (nxS (nxS σ)) (n := P) (by omega)
      have bK := thS_bnd (nxS (nxS (nxS σ))) (n := K) (by omega)
      have b3 := thS_bnd (nxS (nxS (nxS σ))) (n := 4) (by decide)
      have b4 := thS_bnd (nxS (nxS (nxS (nxS σ)))) (n := 4) (by decide)
      have dc : cr.den ρ' = some (1 + thS (nxS (nxS σ)) 14) := by
        simp only [cr, IT.den, t4, intBin, Option.some.injEq]; exact wrap_ok (by omega) (by omega)
      have dn : (IT.bin .add .i64 (.lit 1) (tr n2 (.var 13))).den ρ' = some (1 + thS (nxS (nxS σ)) P) := by
        simp only [IT.den, t5, intBin, Option.some.injEq]; exact wrap_ok (by omega) (by omega)
      rw [hev]
      simp only [AVal.den, AVal.denL, e3, tA, dc, den_lit, Option.map_some]; rfl
  ·
    have hev := ev1 (A := A) (P := P) (K := K) (S := S) (s := σ) (by omega) (by omega) (by omega) (by omega) rfl (bk := false) (ba := false) (bb := false) (by rw [hj]; rfl) (by rw [hj]; rfl) (by rw [hj]; rfl)
    simp only [Bool.false_eq_true, if_false] at hev
    refine ev_leaf w h rev6 (fun ρ' hle => ?_) (fun ρ' hle => ?_)
    · obtain ⟨hF, d2, dA, dP, dK, dS⟩ := dens ρ' hle
      have e1 : n1.den ρ' = some (nxS σ) := nx_denE hF d2
      have e2 : n2.den ρ' = some (nxS (nxS σ)) := nx_denE hF e1
      have e3 : n3.den ρ' = some (nxS (nxS (nxS σ))) := nx_denE hF e2
      have e4 : n4.den ρ' = some (nxS (nxS (nxS (nxS σ)))) := nx_denE hF e3
      have e5 : n5.den ρ' = some (nxS (nxS (nxS (nxS (nxS σ))))) := nx_denE hF e4
      have e6 : n6.den ρ' = some (nxS (nxS (nxS (nxS (nxS (nxS σ)))))) := nx_denE hF e5
      have tA := tr_denE hF d2 dA
      have t1 := tr_denE hF e1 (den_lit 100)
      have t2 := tr_denE hF e2 (den_lit 2)
      have t3 := tr_denE hF e3 dA
      have t4 := tr_denE hF e2 (den_lit 14)
      have t5 := tr_denE hF e2 dP
      have k3 := tr_denE hF e3 dK
      have v3 := tr_denE hF e3 (den_lit 4)
      have v4 := tr_denE hF e4 (den_lit 4)
      have v5 := tr_denE hF e5 (den_lit 4)
      have b14 := thS_bnd (nxS (nxS σ)) (n := 14) (by decide)
      have bP := thS_bnd (nxS (nxS σ)) (n := P) (by omega)
      have bK := thS_bnd (nxS (nxS (nxS σ))) (n := K) (by omega)
      have b3 := thS_bnd (nxS (nxS (nxS σ))) (n := 4) (by decide)
      have b4 := thS_bnd (nxS (nxS (nxS (nxS σ)))) (n := 4) (by decide)
      have dc : cr.den ρ' = some (1 + thS (nxS (nxS σ)) 14) := by
        simp only [cr, IT.den, t4, intBin, Option.some.injEq]; exact wrap_ok (by omega) (by omega)
      have dn : (IT.bin .add .i64 (.lit 1) (tr n2 (.var 13))).den ρ' = some (1 + thS (nxS (nxS σ)) P) := by
        simp only [IT.den, t5, intBin, Option.some.injEq]; exact wrap_ok (by omega) (by omega)
      simp only [CRel_cons, CRel_nil, and_true, BT.den, dS, t1, dc, den_lit, intCmp, Option.some.injEq, decide_eq_true_eq, decide_eq_false_iff_not, beq_iff_eq]
      omega
    · obtain ⟨hF, d2, dA, dP, dK, dS⟩ := dens ρ' hle
      have e1 : n1.den ρ' = some (nxS σ) := nx_denE hF d2
      have e2 : n2.den ρ' = some (nxS (nxS σ)) := nx_denE hF e1
      have e3 : n3.den ρ' = some (nxS (nxS (nxS σ))) := nx_denE hF e2
      have e4 : n4.den ρ' = some (nxS (nxS (nxS (nxS σ)))) := nx_denE hF e3
      have e5 : n5.den ρ' = some (nxS (nxS (nxS (nxS (nxS σ))))) := nx_denE hF e4
      have e6 : n6.den ρ' = some (nxS (nxS (nxS (nxS (nxS (nxS σ)))))) := nx_denE hF e5
      have tA := tr_denE hF d2 dA
      have t1 := tr_denE hF e1 (den_lit 100)
      have t2 := tr_denE hF e2 (den_lit 2)
      have t3 := tr_denE hF e3 dA
      have t4 := tr_denE hF e2 (den_lit 14)
      have t5 := tr_denE hF e2 dP
      have k3 := tr_denE hF e3 dK
      have v3 := tr_denE hF e3 (den_lit 4)
      have v4 := tr_denE hF e4 (den_lit 4)
      have v5 := tr_denE hF e5 (den_lit 4)
      have b14 := thS_bnd (nxS (nxS σ)) (n := 14) (by decide)
      have bP := thS_bnd (nxS (nxS σ)) (n := P) (by omega)
      have bK := thS_bnd (nxS (nxS (nxS σ))) (n := K) (by omega)
      have b3 := thS_bnd (nxS (nxS (nxS σ))) (n := 4) (by decide)
      have b4 := thS_bnd (nxS (nxS (nxS (nxS σ)))) (n := 4) (by decide)
      have dc : cr.den ρ' = some (1 + thS (nxS (nxS σ)) 14) := by
        simp only [cr, IT.den, t4, intBin, Option.some.injEq]; exact wrap_ok (by omega) (by omega)
      have dn : (IT.bin .add .i64 (.lit 1) (tr n2 (.var 13))).den ρ' = some (1 + thS (nxS (nxS σ)) P) := by
        simp only [IT.den, t5, intBin, Option.some.injEq]; exact wrap_ok (by omega) (by omega)
      rw [hev]
      simp only [AVal.den, AVal.denL, e3, tA, dc, den_lit, Option.map_some]; rfl
  ·
    have hev := ev1 (A := A) (P := P) (K := K) (S := S) (s := σ) (by omega) (by omega) (by omega) (by omega) rfl (bk := true) (ba := false) (bb := false) (by rw [hj]; rfl) (by rw [hj]; rfl) (by rw [hj]; rfl)
    simp only [if_true, Bool.false_eq_true, if_false] at hev
    refine ev_leaf w h rev7 (fun ρ' hle => ?_) (fun ρ' hle => ?_)
    · obtain ⟨hF, d2, dA, dP, dK, dS⟩ := dens ρ' hle
      have e1 : n1.den ρ' = some (nxS σ) := nx_denE hF d2
      have e2 : n2.den ρ' = some (nxS (nxS σ)) := nx_denE hF e1
      have e3 : n3.den ρ' = some (nxS (nxS (nxS σ))) := nx_denE hF e2
      have e4 : n4.den ρ' = some (nxS (nxS (nxS (nxS σ)))) := nx_denE hF e3
      have e5 : n5.den ρ' = some (nxS (nxS (nxS (nxS (nxS σ))))) := nx_denE hF e4
      have e6 : n6.den ρ' = some (nxS (nxS (nxS (nxS (nxS (nxS σ)))))) := nx_denE hF e5
      have tA := tr_denE hF d2 dA
      have t1 := tr_denE hF e1 (den_lit 100)
      have t2 := tr_denE hF e2 (den_lit 2)
      have t3 := tr_denE hF e3 dA
      have t4 := tr_denE hF e2 (den_lit 14)
      have t5 := tr_denE hF e2 dP
      have k3 := tr_denE hF e3 dK
      have v3 := tr_denE hF e3 (den_lit 4)
      have v4 := tr_denE hF e4 (den_lit 4)
      have v5 := tr_denE hF e5 (den_lit 4)
      have b14 := thS_bnd (nxS (nxS σ)) (n := 14) (by decide)
      have bP := thS_bnd (nxS (nxS σ)) (n := P) (by omega)
      have bK := thS_bnd (nxS (nxS (nxS σ))) (n := K) (by omega)
      have b3 := thS_bnd (nxS (nxS (nxS σ))) (n := 4) (by decide)
      have b4 := thS_bnd (nxS (nxS (nxS (nxS σ)))) (n := 4) (by decide)
      have dc : cr.den ρ' = some (1 + thS (nxS (nxS σ)) 14) := by
        simp only [cr, IT.den, t4, intBin, Option.some.injEq]; exact wrap_ok (by omega) (by omega)
      have dn : (IT.bin .add .i64 (.lit 1) (tr n2 (.var 13))).den ρ' = some (1 + thS (nxS (nxS σ)) P) := by
        simp only [IT.den, t5, intBin, Option.some.injEq]; exact wrap_ok (by omega) (by omega)
      simp only [CRel_cons, CRel_nil, and_true, BT.den, dS, t1, dc, den_lit, intCmp, Option.some.injEq, decide_eq_true_eq, decide_eq_false_iff_not, beq_iff_eq]
      omega
    · obtain ⟨hF, d2, dA, dP, dK, dS⟩ := dens ρ' hle
      have e1 : n1.den ρ' = some (nxS σ) := nx_denE hF d2
      have e2 : n2.den ρ' = some (nxS (nxS σ)) := nx_denE hF e1
      have e3 : n3.den ρ' = some (nxS (nxS (nxS σ))) := nx_denE hF e2
      have e4 : n4.den ρ' = some (nxS (nxS (nxS (nxS σ)))) := nx_denE hF e3
      have e5 : n5.den ρ' = some (nxS (nxS (nxS (nxS (nxS σ))))) := nx_denE hF e4
      have e6 : n6.den ρ' = some (nxS (nxS (nxS (nxS (nxS (nxS σ)))))) := nx_denE hF e5
      have tA := tr_denE hF d2 dA
      have t1 := tr_denE hF e1 (den_lit 100)
      have t2 := tr_denE hF e2 (den_lit 2)
      have t3 := tr_denE hF e3 dA
      have t4 := tr_denE hF e2 (den_lit 14)
      have t5 := tr_denE hF e2 dP
      have k3 := tr_denE hF e3 dK
      have v3 := tr_denE hF e3 (den_lit 4)
      have v4 := tr_denE hF e4 (den_lit 4)
      have v5 := tr_denE hF e5 (den_lit 4)
      have b14 := thS_bnd (nxS (nxS σ)) (n := 14) (by decide)
      have bP := thS_bnd (nxS (nxS σ)) (n := P) (by omega)
      have bK := thS_bnd (nxS (nxS (nxS σ))) (n := K) (by omega)
      have b3 := thS_bnd (nxS (nxS (nxS σ))) (n := 4) (by decide)
      have b4 := thS_bnd (nxS (nxS (nxS (nxS σ)))) (n := 4) (by decide)
      have dc : cr.den ρ' = some (1 + thS (nxS (nxS σ)) 14) := by
        simp only [cr, IT.den, t4, intBin, Option.some.injEq]; exact wrap_ok (by omega) (by omega)
      have dn : (IT.bin .add .i64 (.lit 1) (tr n2 (.var 13))).den ρ' = some (1 + thS (nxS (nxS σ)) P) := by
        simp only [IT.den, t5, intBin, Option.some.injEq]; exact wrap_ok (by omega) (by omega)
      rw [hev]
      simp only [AVal.den, AVal.denL, e4, tA, k3, dc, den_lit, Option.map_some]; rfl
  ·
    have hev := ev1 (A := A) (P := P) (K := K) (S := S) (s := σ) (by omega) (by omega) (by omega) (by omega) rfl (bk := true) (ba := true) (bb := false) (by rw [hj]; rfl) (by rw [hj]; rfl) (by rw [hj]; rfl)
    simp only [if_true, Bool.false_eq_true, if_false] at hev
    refine ev_leaf w h rev8 (fun ρ' hle => ?_) (fun ρ' hle => ?_)
    · obtain ⟨hF, d2, dA, dP, dK, dS⟩ := dens ρ' hle
      have e1 : n1.den ρ' = some (nxS σ) := nx_denE hF d2
      have e2 : n2.den ρ' = some (nxS (nxS σ)) := nx_denE hF e1
      have e3 : n3.den ρ' = some (nxS (nxS (nxS σ))) := nx_denE hF e2
      have e4 : n4.den ρ' = some (nxS (nxS (nxS (nxS σ)))) := nx_denE hF e3
      have e5 : n5.den ρ' = some (nxS (nxS (nxS (nxS (nxS σ))))) := nx_denE hF e4
      have e6 : n6.den ρ' = some (nxS (nxS (nxS (nxS (nxS (nxS σ)))))) := nx_denE hF e5
      have tA := tr_denE hF d2 dA
      have t1 := tr_denE hF e1 (den_lit 100)
      have t2 := tr_denE hF e2 (den_lit 2)
      have t3 := tr_denE hF e3 dA
      have t4 := tr_denE hF e2 (den_lit 14)
      have t5 := tr_denE hF e2 dP
      have k3 := tr_denE hF e3 dK
      have v3 := tr_denE hF e3 (den_lit 4)
      have v4 := tr_denE hF e4 (den_lit 4)
      have v5 := tr_denE hF e5 (den_lit 4)
      have b14 := thS_bnd (nxS (nxS σ)) (n := 14) (by decide)
      have bP := thS_bnd (nxS (nxS σ)) (n := P) (by omega)
      have bK := thS_bnd (nxS (nxS (nxS σ))) (n := K) (by omega)
      have b3 := thS_bnd (nxS (nxS (nxS σ))) (n := 4) (by decide)
      have b4 := thS_bnd (nxS (nxS (nxS (nxS σ)))) (n := 4) (by decide)
      have dc : cr.den ρ' = some (1 + thS (nxS (nxS σ)) 14) := by
        simp only [cr, IT.den, t4, intBin, Option.some.injEq]; exact wrap_ok (by omega) (by omega)
      have dn : (IT.bin .add .i64 (.lit 1) (tr n2 (.var 13))).den ρ' = some (1 + thS (nxS (nxS σ)) P) := by
        simp only [IT.den, t5, intBin, Option.some.injEq]; exact wrap_ok (by omega) (by omega)
      simp only [CRel_cons, CRel_nil, and_true, BT.den, dS, t1, dc, den_lit, intCmp, Option.some.injEq, decide_eq_true_eq, decide_eq_false_iff_not, beq_iff_eq]
      omega
    · obtain ⟨hF, d2, dA, dP, dK, dS⟩ := dens ρ' hle
      have e1 : n1.den ρ' = some (nxS σ) := nx_denE hF d2
      have e2 : n2.den ρ' = some (nxS (nxS σ)) := nx_denE hF e1
      have e3 : n3.den ρ' = some (nxS (nxS (nxS σ))) := nx_denE hF e2
      have e4 : n4.den ρ' = some (nxS (nxS (nxS (nxS σ)))) := nx_denE hF e3
      have e5 : n5.den ρ' = some (nxS (nxS (nxS (nxS (nxS σ))))) := nx_denE hF e4
      have e6 : n6.den ρ' = some (nxS (nxS (nxS (nxS (nxS (nxS σ)))))) := nx_denE hF e5
      have tA := tr_denE hF d2 dA
      have t1 := tr_denE hF e1 (den_lit 100)
      have t2 := tr_denE hF e2 (den_lit 2)
      have t3 := tr_denE hF e3 dA
      have t4 := tr_denE hF e2 (den_lit 14)
      have t5 := tr_denE hF e2 dP
      have k3 := tr_denE hF e3 dK
      have v3 := tr_denE hF e3 (den_lit 4)
      have v4 := tr_denE hF e4 (den_lit 4)
      have v5 := tr_denE hF e5 (den_lit 4)
      have b14 := thS_bnd (nxS (nxS σ)) (n := 14) (by decide)
      have bP := thS_bnd (nxS (nxS σ)) (n := P) (by omega)
      have bK := thS_bnd (nxS (nxS (nxS σ))) (n := K) (by omega)
      have b3 := thS_bnd (nxS (nxS (nxS σ))) (n := 4) (by decide)
      have b4 := thS_bnd (nxS (nxS (nxS (nxS σ)))) (n := 4) (by decide)
      have dc : cr.den ρ' = some (1 + thS (nxS (nxS σ)) 14) := by
        simp only [cr, IT.den, t4, intBin, Option.some.injEq]; exact wrap_ok (by omega) (by omega)
      have dn : (IT.bin .add .i64 (.lit 1) (tr n2 (.var 13))).den ρ' = some (1 + thS (nxS (nxS σ)) P) := by
        simp only [IT.den, t5, intBin, Option.some.injEq]; exact wrap_ok (by omega) (by omega)
      rw [hev]
      simp only [AVal.den, AVal.denL, e5, tA, k3, v4, dc, den_lit, Option.map_some]; rfl
  ·
    have hev := ev1 (A := A) (P := P) (K := K) (S := S) (s := σ) (by omega) (by omega) (by omega) (by omega) rfl (bk := true) (ba := false) (bb := false) (by rw [hj]; rfl) (by rw [hj]; rfl) (by rw [hj]; rfl)
    simp only [if_true, Bool.false_eq_true, if_false] at hev
    refine ev_leaf w h rev9 (fun ρ' hle => ?_) (fun ρ' hle => ?_)
    · obtain ⟨hF, d2, dA, dP, dK, dS⟩ := dens ρ' hle
      have e1 : n1.den ρ' = some (nxS σ) := nx_denE hF d2
      have e2 : n2.den ρ' = some (nxS (nxS σ)) := nx_denE hF e1
      have e3 : n3.den ρ' = some (nxS (nxS (nxS σ))) := nx_denE hF e2
      have e4 : n4.den ρ' = some (nxS (nxS (nxS (nxS σ)))) := nx_denE hF e3
      have e5 : n5.den ρ' = some (nxS (nxS (nxS (nxS (nxS σ))))) := nx_denE hF e4
      have e6 : n6.den ρ' = some (nxS (nxS (nxS (nxS (nxS (nxS σ)))))) := nx_denE hF e5
      have tA := tr_denE hF d2 dA
      have t1 := tr_denE hF e1 (den_lit 100)
      have t2 := tr_denE hF e2 (den_lit 2)
      have t3 := tr_denE hF e3 dA
      have t4 := tr_denE hF e2 (den_lit 14)
      have t5 := tr_denE hF e2 dP
      have k3 := tr_denE hF e3 dK
      have v3 := tr_denE hF e3 (den_lit 4)
      have v4 := tr_denE hF e4 (den_lit 4)
      have v5 := tr_denE hF e5 (den_lit 4)
      have b14 := thS_bnd (nxS (nxS σ)) (n := 14) (by decide)
      have bP := thS_bnd (nxS (nxS σ)) (n := P) (by omega)
      have bK := thS_bnd (nxS (nxS (nxS σ))) (n := K) (by omega)
      have b3 := thS_bnd (nxS (nxS (nxS σ))) (n := 4) (by decide)
      have b4 := thS_bnd (nxS (nxS (nxS (nxS σ)))) (n := 4) (by decide)
      have dc : cr.den ρ' = some (1 + thS (nxS (nxS σ)) 14) := by
        simp only [cr, IT.den, t4, intBin, Option.some.injEq]; exact wrap_ok (by omega) (by omega)
      have dn : (IT.bin .add .i64 (.lit 1) (tr n2 (.var 13))).den ρ' = some (1 + thS (nxS (nxS σ)) P) := by
        simp only [IT.den, t5, intBin, Option.some.injEq]; exact wrap_ok (by omega) (by omega)
      simp only [CRel_cons, CRel_nil, and_true, BT.den, dS, t1, dc, den_lit, intCmp, Option.some.injEq, decide_eq_true_eq, decide_eq_false_iff_not, beq_iff_eq]
      omega
    · obtain ⟨hF, d2, dA, dP, dK, dS⟩ := dens ρ' hle
      have e1 : n1.den ρ' = some (nxS σ) := nx_denE hF d2
      have e2 : n2.den ρ' = some (nxS (nxS σ)) := nx_denE hF e1
      have e3 : n3.den ρ' = some (nxS (nxS (nxS σ))) := nx_denE hF e2
      have e4 : n4.den ρ' = some (nxS (nxS (nxS (nxS σ)))) := nx_denE hF e3
      have e5 : n5.den ρ' = some (nxS (nxS (nxS (nxS (nxS σ))))) := nx_denE hF e4
      have e6 : n6.den ρ' = some (nxS (nxS (nxS (nxS (nxS (nxS σ)))))) := nx_denE hF e5
      have tA := tr_denE hF d2 dA
      have t1 := tr_denE hF e1 (den_lit 100)
      have t2 := tr_denE hF e2 (den_lit 2)
      have t3 := tr_denE hF e3 dA
      have t4 := tr_denE hF e2 (den_lit 14)
      have t5 := tr_denE hF e2 dP
      have k3 := tr_denE hF e3 dK
      have v3 := tr_denE hF e3 (den_lit 4)
      have v4 := tr_denE hF e4 (den_lit 4)
      have v5 := tr_denE hF e5 (den_lit 4)
      have b14 := thS_bnd (nxS (nxS σ)) (n := 14) (by decide)
      have bP := thS_bnd (nxS (nxS σ)) (n := P) (by omega)
      have bK := thS_bnd (nxS (nxS (nxS σ))) (n := K) (by omega)
      have b3 := thS_bnd (nxS (nxS (nxS σ))) (n := 4) (by decide)
      have b4 := thS_bnd (nxS (nxS (nxS (nxS σ)))) (n := 4) (by decide)
      have dc : cr.den ρ' = some (1 + thS (nxS (nxS σ)) 14) := by
        simp only [cr, IT.den, t4, intBin, Option.some.injEq]; exact wrap_ok (by omega) (by omega)
      have dn : (IT.bin .add .i64 (.lit 1) (tr n2 (.var 13))).den ρ' = some (1 + thS (nxS (nxS σ)) P) := by
        simp only [IT.den, t5, intBin, Option.some.injEq]; exact wrap_ok (by omega) (by omega)
      rw [hev]
      simp only [AVal.den, AVal.denL, e4, tA, k3, dc, den_lit, Option.map_some]; rfl
  ·
    have hev := ev1 (A := A) (P := P) (K := K) (S := S) (s := σ) (by omega) (by omega) (by omega) (by omega) rfl (bk := true) (ba := true) (bb := true) (by rw [hj]; rfl) (by rw [hj]; rfl) (by rw [hj]; rfl)
    simp only [if_true] at hev
    refine ev_leaf w h rev10 (fun ρ' hle => ?_) (fun ρ' hle => ?_)
    · obtain ⟨hF, d2, dA, dP, dK, dS⟩ := dens ρ' hle
      have e1 : n1.den ρ' = some (nxS σ) := nx_denE hF d2
      have e2 : n2.den ρ' = some (nxS (nxS σ)) := nx_denE hF e1
      have e3 : n3.den ρ' = some (nxS (nxS (nxS σ))) := nx_denE hF e2
      have e4 : n4.den ρ' = some (nxS (nxS (nxS (nxS σ)))) := nx_denE hF e3
      have e5 : n5.den ρ' = some (nxS (nxS (nxS (nxS (nxS σ))))) := nx_denE hF e4
      have e6 : n6.den ρ' = some (nxS (nxS (nxS (nxS (nxS (nxS σ)))))) := nx_denE hF e5
      have tA := tr_denE hF d2 dA
      have t1 := tr_denE hF e1 (den_lit 100)
      have t2 := tr_denE hF e2 (den_lit 2)
      have t3 := tr_denE hF e3 dA
      have t4 := tr_denE hF e2 (den_lit 14)
      have t5 := tr_denE hF e2 dP
      have k3 := tr_denE hF e3 dK
      have v3 := tr_denE hF e3 (den_lit 4)
      have v4 := tr_denE hF e4 (den_lit 4)
      have v5 := tr_denE hF e5 (den_lit 4)
      have b14 := thS_bnd (nxS (nxS σ)) (n := 14) (by decide)
      have bP := thS_bnd (nxS (nxS σ)) (n := P) (by omega)
      have bK := thS_bnd (nxS (nxS (nxS σ))) (n := K) (by omega)
      have b3 := thS_bnd (nxS (nxS (nxS σ))) (n := 4) (by decide)
      have b4 := thS_bnd (nxS (nxS (nxS (nxS σ)))) (n := 4) (by decide)
      have dc : cr.den ρ' = some (1 + thS (nxS (nxS σ)) 14) := by
        simp only [cr, IT.den, t4, intBin, Option.some.injEq]; exact wrap_ok (by omega) (by omega)
      have dn : (IT.bin .add .i64 (.lit 1) (tr n2 (.var 13))).den ρ' = some (1 + thS (nxS (nxS σ)) P) := by
        simp only [IT.den, t5, intBin, Option.some.injEq]; exact wrap_ok (by omega) (by omega)
      simp only [CRel_cons, CRel_nil, and_true, BT.den, dS, t1, dc, den_lit, intCmp, Option.some.injEq, decide_eq_true_eq, decide_eq_false_iff_not, beq_iff_eq]
      omega
    · obtain ⟨hF, d2, dA, dP, dK, dS⟩ := dens ρ' hle
      have e1 : n1.den ρ' = some (nxS σ) := nx_denE hF d2
      have e2 : n2.den ρ' = some (nxS (nxS σ)) := nx_denE hF e1
      have e3 : n3.den ρ' = some (nxS (nxS (nxS σ))) := nx_denE hF e2
      have e4 : n4.den ρ' = some (nxS (nxS (nxS (nxS σ)))) := nx_denE hF e3
      have e5 : n5.den ρ' = some (nxS (nxS (nxS (nxS (nxS σ))))) := nx_denE hF e4
      have e6 : n6.den ρ' = some (nxS (nxS (nxS (nxS (nxS (nxS σ)))))) := nx_denE hF e5
      have tA := tr_denE hF d2 dA
      have t1 := tr_denE hF e1 (den_lit 100)
      have t2 := tr_denE hF e2 (den_lit 2)
      have t3 := tr_denE hF e3 dA
      have t4 := tr_denE hF e2 (den_lit 14)
      have t5 := tr_denE hF e2 dP
      have k3 := tr_denE hF e3 dK
      have v3 := tr_denE hF e3 (den_lit 4)
      have v4 := tr_denE hF e4 (den_lit 4)
      have v5 := tr_denE hF e5 (den_lit 4)
      have b14 := thS_bnd (nxS (nxS σ)) (n := 14) (by decide)
      have bP := thS_bnd (nxS (nxS σ)) (n := P) (by omega)
      have bK := thS_bnd (nxS (nxS (nxS σ))) (n := K) (by omega)
      have b3 := thS_bnd (nxS (nxS (nxS σ))) (n := 4) (by decide)
      have b4 := thS_bnd (nxS (nxS (nxS (nxS σ)))) (n := 4) (by decide)
      have dc : cr.den ρ' = some (1 + thS (nxS (nxS σ)) 14) := by
        simp only [cr, IT.den, t4, intBin, Option.some.injEq]; exact wrap_ok (by omega) (by omega)
      have dn : (IT.bin .add .i64 (.lit 1) (tr n2 (.var 13))).den ρ' = some (1 + thS (nxS (nxS σ)) P) := by
        simp only [IT.den, t5, intBin, Option.some.injEq]; exact wrap_ok (by omega) (by omega)
      rw [hev]
      simp only [AVal.den, AVal.denL, e6, tA, k3, v4, v5, dc, den_lit, Option.map_some]; rfl
  ·
    have hev := ev1 (A := A) (P := P) (K := K) (S := S) (s := σ) (by omega) (by omega) (by omega) (by omega) rfl (bk := false) (ba := false) (bb := false) (by rw [hj]; rfl) (by rw [hj]; rfl) (by rw [hj]; rfl)
    simp only [Bool.false_eq_true, if_false] at hev
    refine ev_leaf w h rev11 (fun ρ' hle => ?_) (fun ρ' hle => ?_)
    · obtain ⟨hF, d2, dA, dP, dK, dS⟩ := dens ρ' hle
      have e1 : n1.den ρ' = some (nxS σ) := nx_denE hF d2
      have e2 : n2.den ρ' = some (nxS (nxS σ)) := nx_denE hF e1
      have e3 : n3.den ρ' = some (nxS (nxS (nxS σ))) := nx_denE hF e2
      have e4 : n4.den ρ' = some (nxS (nxS (nxS (nxS σ)))) := nx_denE hF e3
      have e5 : n5.den ρ' = some (nxS (nxS (nxS (nxS (nxS σ))))) := nx_denE hF e4
      have e6 : n6.den ρ' = some (nxS (nxS (nxS (nxS (nxS (nxS σ)))))) := nx_denE hF e5
      have tA := tr_denE hF d2 dA
      have t1 := tr_denE hF e1 (den_lit 100)
      have t2 := tr_denE hF e2 (den_lit 2)
      have t3 := tr_denE hF e3 dA
      have t4 := tr_denE hF e2 (den_lit 14)
      have t5 := tr_denE hF e2 dP
      have k3 := tr_denE hF e3 dK
      have v3 := tr_denE hF e3 (den_lit 4)
      have v4 := tr_denE hF e4 (den_lit 4)
      have v5 := tr_denE hF e5 (den_lit 4)
      have b14 := thS_bnd (nxS (nxS σ)) (n := 14) (by decide)
      have bP := thS_bnd (nxS (nxS σ)) (n := P) (by omega)
      have bK := thS_bnd (nxS (nxS (nxS σ))) (n := K) (by omega)
      have b3 := thS_bnd (nxS (nxS (nxS σ))) (n := 4) (by decide)
      have b4 := thS_bnd (nxS (nxS (nxS (nxS σ)))) (n := 4) (by decide)
      have dc : cr.den ρ' = some (1 + thS (nxS (nxS σ)) 14) := by
        simp only [cr, IT.den, t4, intBin, Option.some.injEq]; exact wrap_ok (by omega) (by omega)
      have dn : (IT.bin .add .i64 (.lit 1) (tr n2 (.var 13))).den ρ' = some (1 + thS (nxS (nxS σ)) P) := by
        simp only [IT.den, t5, intBin, Option.some.injEq]; exact wrap_ok (by omega) (by omega)
      simp only [CRel_cons, CRel_nil, and_true, BT.den, dS, t1, dc, den_lit, intCmp, Option.some.injEq, decide_eq_true_eq, decide_eq_false_iff_not, beq_iff_eq]
      omega
    · obtain ⟨hF, d2, dA, dP, dK, dS⟩ := dens ρ' hle
      have e1 : n1.den ρ' = some (nxS σ) := nx_denE hF d2
      have e2 : n2.den ρ' = some (nxS (nxS σ)) := nx_denE hF e1
      have e3 : n3.den ρ' = some (nxS (nxS (nxS σ))) := nx_denE hF e2
      have e4 : n4.den ρ' = some (nxS (nxS (nxS (nxS σ)))) := nx_denE hF e3
      have e5 : n5.den ρ' = some (nxS (nxS (nxS (nxS (nxS σ))))) := nx_denE hF e4
      have e6 : n6.den ρ' = some (nxS (nxS (nxS (nxS (nxS (nxS σ)))))) := nx_denE hF e5
      have tA := tr_denE hF d2 dA
      have t1 := tr_denE hF e1 (den_lit 100)
      have t2 := tr_denE hF e2 (den_lit 2)
      have t3 := tr_denE hF e3 dA
      have t4 := tr_denE hF e2 (den_lit 14)
      have t5 := tr_denE hF e2 dP
      have k3 := tr_denE hF e3 dK
      have v3 := tr_denE hF e3 (den_lit 4)
      have v4 := tr_denE hF e4 (den_lit 4)
      have v5 := tr_denE hF e5 (den_lit 4)
      have b14 := thS_bnd (nxS (nxS σ)) (n := 14) (by decide)
      have bP := thS_bnd (nxS (nxS σ)) (n := P) (by omega)
      have bK := thS_bnd (nxS (nxS (nxS σ))) (n := K) (by omega)
      have b3 := thS_bnd (nxS (nxS (nxS σ))) (n := 4) (by decide)
      have b4 := thS_bnd (nxS (nxS (nxS (nxS σ)))) (n := 4) (by decide)
      have dc : cr.den ρ' = some (1 + thS (nxS (nxS σ)) 14) := by
        simp only [cr, IT.den, t4, intBin, Option.some.injEq]; exact wrap_ok (by omega) (by omega)
      have dn : (IT.bin .add .i64 (.lit 1) (tr n2 (.var 13))).den ρ' = some (1 + thS (nxS (nxS σ)) P) := by
        simp only [IT.den, t5, intBin, Option.some.injEq]; exact wrap_ok (by omega) (by omega)
      rw [hev]
      simp only [AVal.den, AVal.denL, e3, tA, dc, den_lit, Option.map_some]; rfl
  ·
    have hev := ev1 (A := A) (P := P) (K := K) (S := S) (s := σ) (by omega) (by omega) (by omega) (by omega) rfl (bk := true) (ba := false) (bb := false) (by rw [hj]; rfl) (by rw [hj]; rfl) (by rw [hj]; rfl)
    simp only [if_true, Bool.false_eq_true, if_false] at hev
    refine ev_leaf w h rev12 (fun ρ' hle => ?_) (fun ρ' hle => ?_)
    · obtain ⟨hF, d2, dA, dP, dK, dS⟩ := dens ρ' hle
      have e1 : n1.den ρ' = some (nxS σ) := nx_denE hF d2
      have e2 : n2.den ρ' = some (nxS (nxS σ)) := nx_denE hF e1
      have e3 : n3.den ρ' = some (nxS (nxS (nxS σ))) := nx_denE hF e2
      have e4 : n4.den ρ' = some (nxS (nxS (nxS (nxS σ)))) := nx_denE hF e3
      have e5 : n5.den ρ' = some (nxS (nxS (nxS (nxS (nxS σ))))) := nx_denE hF e4
      have e6 : n6.den ρ' = some (nxS (nxS (nxS (nxS (nxS (nxS σ)))))) := nx_denE hF e5
      have tA := tr_denE hF d2 dA
      have t1 := tr_denE hF e1 (den_lit 100)
      have t2 := tr_denE hF e2 (den_lit 2)
      have t3 := tr_denE hF e3 dA
      have t4 := tr_denE hF e2 (den_lit 14)
      have t5 := tr_denE hF e2 dP
      have k3 := tr_denE hF e3 dK
      have v3 := tr_denE hF e3 (den_lit 4)
      have v4 := tr_denE hF e4 (den_lit 4)
      have v5 := tr_denE hF e5 (den_lit 4)
      have b14 := thS_bnd (nxS (nxS σ)) (n := 14) (by decide)
      have bP := thS_bnd (nxS (nxS σ)) (n := P) (by omega)
      have bK := thS_bnd (nxS (nxS (nxS σ))) (n := K) (by omega)
      have b3 := thS_bnd (nxS (nxS (nxS σ))) (n := 4) (by decide)
      have b4 := thS_bnd (nxS (nxS (nxS (nxS σ)))) (n := 4) (by decide)
      have dc : cr.den ρ' = some (1 + thS (nxS (nxS σ)) 14) := by
        simp only [cr, IT.den, t4, intBin, Option.some.injEq]; exact wrap_ok (by omega) (by omega)
      have dn : (IT.bin .add .i64 (.lit 1) (tr n2 (.var 13))).den ρ' = some (1 + thS (nxS (nxS σ)) P) := by
        simp only [IT.den, t5, intBin, Option.some.injEq]; exact wrap_ok (by omega) (by omega)
      simp only [CRel_cons, CRel_nil, and_true, BT.den, dS, t1, dc, den_lit, intCmp, Option.some.injEq, decide_eq_true_eq, decide_eq_false_iff_not, beq_iff_eq]
      omega
    · obtain ⟨hF, d2, dA, dP, dK, dS⟩ := dens ρ' hle
      have e1 : n1.den ρ' = some (nxS σ) := nx_denE hF d2
      have e2 : n2.den ρ' = some (nxS (nxS σ)) := nx_denE hF e1
      have e3 : n3.den ρ' = some (nxS (nxS (nxS σ))) := nx_denE hF e2
      have e4 : n4.den ρ' = some (nxS (nxS (nxS (nxS σ)))) := nx_denE hF e3
      have e5 : n5.den ρ' = some (nxS (nxS (nxS (nxS (nxS σ))))) := nx_denE hF e4
      have e6 : n6.den ρ' = some (nxS (nxS (nxS (nxS (nxS (nxS σ)))))) := nx_denE hF e5
      have tA := tr_denE hF d2 dA
      have t1 := tr_denE hF e1 (den_lit 100)
      have t2 := tr_denE hF e2 (den_lit 2)
      have t3 := tr_denE hF e3 dA
      have t4 := tr_denE hF e2 (den_lit 14)
      have t5 := tr_denE hF e2 dP
      have k3 := tr_denE hF e3 dK
      have v3 := tr_denE hF e3 (den_lit 4)
      have v4 := tr_denE hF e4 (den_lit 4)
      have v5 := tr_denE hF e5 (den_lit 4)
      have b14 := thS_bnd (nxS (nxS σ)) (n := 14) (by decide)
      have bP := thS_bnd (nxS (nxS σ)) (n := P) (by omega)
      have bK := thS_bnd (nxS (nxS (nxS σ))) (n := K) (by omega)
      have b3 := thS_bnd (nxS (nxS (nxS σ))) (n := 4) (by decide)
      have b4 := thS_bnd (nxS (nxS (nxS (nxS σ)))) (n := 4) (by decide)
      have dc : cr.den ρ' = some (1 + thS (nxS (nxS σ)) 14) := by
        simp only [cr, IT.den, t4, intBin, Option.some.injEq]; exact wrap_ok (by omega) (by omega)
      have dn : (IT.bin .add .i64 (.lit 1) (tr n2 (.var 13))).den ρ' = some (1 + thS (nxS (nxS σ)) P) := by
        simp only [IT.den, t5, intBin, Option.some.injEq]; exact wrap_ok (by omega) (by omega)
      rw [hev]
      simp only [AVal.den, AVal.denL, e4, tA, k3, dc, den_lit, Option.map_some]; rfl
  ·
    have hev := ev1 (A := A) (P := P) (K := K) (S := S) (s := σ) (by omega) (by omega) (by omega) (by omega) rfl (bk := true) (ba := true) (bb := false) (by rw [hj]; rfl) (by rw [hj]; rfl) (by rw [hj]; rfl)
    simp only [if_true, Bool.false_eq_true, if_false] at hev
    refine ev_leaf w h rev13 (fun ρ' hle => ?_) (fun ρ' hle => ?_)
    · obtain ⟨hF, d2, dA, dP, dK, dS⟩ := dens ρ' hle
      have e1 : n1.den ρ' = some (nxS σ) := nx_denE hF d2
      have e2 : n2.den ρ' = some (nxS (nxS σ)) := nx_denE hF e1
      have e3 : n3.den ρ' = some (nxS (nxS (nxS σ))) := nx_denE hF e2
      have e4 : n4.den ρ' = some (nxS (nxS (nxS (nxS σ)))) := nx_denE hF e3
      have e5 : n5.den ρ' = some (nxS (nxS (nxS (nxS (nxS σ))))) := nx_denE hF e4
      have e6 : n6.den ρ' = some (nxS (nxS (nxS (nxS (nxS (nxS σ)))))) := nx_denE hF e5
      have tA := tr_denE hF d2 dA
      have t1 := tr_denE hF e1 (den_lit 100)
      have t2 := tr_denE hF e2 (den_lit 2)
      have t3 := tr_denE hF e3 dA
      have t4 := tr_denE hF e2 (den_lit 14)
      have t5 := tr_denE hF e2 dP
      have k3 := tr_denE hF e3 dK
      have v3 := tr_denE hF e3 (den_lit 4)
      have v4 := tr_denE hF e4 (den_lit 4)
      have v5 := tr_denE hF e5 (den_lit 4)
      have b14 := thS_bnd (nxS (nxS σ)) (n := 14) (by decide)
      have bP := thS_bnd (nxS (nxS σ)) (n := P) (by omega)
      have bK := thS_bnd (nxS (nxS (nxS σ))) (n := K) (by omega)
      have b3 := thS_bnd (nxS (nxS (nxS σ))) (n := 4) (by decide)
      have b4 := thS_bnd (nxS (nxS (nxS (nxS σ)))) (n := 4) (by decide)
      have dc : cr.den ρ' = some (1 + thS (nxS (nxS σ)) 14) := by
        simp only [cr, IT.den, t4, intBin, Option.some.injEq]; exact wrap_ok (by omega) (by omega)
      have dn : (IT.bin .add .i64 (.lit 1) (tr n2 (.var 13))).den ρ' = some (1 + thS (nxS (nxS σ)) P) := by
        simp only [IT.den, t5, intBin, Option.some.injEq]; exact wrap_ok (by omega) (by omega)
      simp only [CRel_cons, CRel_nil, and_true, BT.den, dS, t1, dc, den_lit, intCmp, Option.some.injEq, decide_eq_true_eq, decide_eq_false_iff_not, beq_iff_eq]
      omega
    · obtain ⟨hF, d2, dA, dP, dK, dS⟩ := dens ρ' hle
      have e1 : n1.den ρ' = some (nxS σ) := nx_denE hF d2
      have e2 : n2.den ρ' = some (nxS (nxS σ)) := nx_denE hF e1
      have e3 : n3.den ρ' = some (nxS (nxS (nxS σ))) := nx_denE hF e2
      have e4 : n4.den ρ' = some (nxS (nxS (nxS (nxS σ)))) := nx_denE hF e3
      have e5 : n5.den ρ' = some (nxS (nxS (nxS (nxS (nxS σ))))) := nx_denE hF e4
      have e6 : n6.den ρ' = some (nxS (nxS (nxS (nxS (nxS (nxS σ)))))) := nx_denE hF e5
      have tA := tr_denE hF d2 dA
      have t1 := tr_denE hF e1 (den_lit 100)
      have t2 := tr_denE hF e2 (den_lit 2)
      have t3 := tr_denE hF e3 dA
      have t4 := tr_denE hF e2 (den_lit 14)
      have t5 := tr_denE hF e2 dP
      have k3 := tr_denE hF e3 dK
      have v3 := tr_denE hF e3 (den_lit 4)
      have v4 := tr_denE hF e4 (den_lit 4)
      have v5 := tr_denE hF e5 (den_lit 4)
      have b14 := thS_bnd (nxS (nxS σ)) (n := 14) (by decide)
      have bP := thS_bnd (nxS (nxS σ)) (n := P) (by omega)
      have bK := thS_bnd (nxS (nxS (nxS σ))) (n := K) (by omega)
      have b3 := thS_bnd (nxS (nxS (nxS σ))) (n := 4) (by decide)
      have b4 := thS_bnd (nxS (nxS (nxS (nxS σ)))) (n := 4) (by decide)
      have dc : cr.den ρ' = some (1 + thS (nxS (nxS σ)) 14) := by
        simp only [cr, IT.den, t4, intBin, Option.some.injEq]; exact wrap_ok (by omega) (by omega)
      have dn : (IT.bin .add .i64 (.lit 1) (tr n2 (.var 13))).den ρ' = some (1 + thS (nxS (nxS σ)) P) := by
        simp only [IT.den, t5, intBin, Option.some.injEq]; exact wrap_ok (by omega) (by omega)
      rw [hev]
      simp only [AVal.den, AVal.denL, e5, tA, k3, v4, dc, den_lit, Option.map_some]; rfl
  ·
    have hev := ev1 (A := A) (P := P) (K := K) (S := S) (s := σ) (by omega) (by omega) (by omega) (by omega) rfl (bk := true) (ba := false) (bb := false) (by rw [hj]; rfl) (by rw [hj]; rfl) (by rw [hj]; rfl)
    simp only [if_true, Bool.false_eq_true, if_false] at hev
    refine ev_leaf w h rev14 (fun ρ' hle => ?_) (fun ρ' hle => ?_)
    · obtain ⟨hF, d2, dA, dP, dK, dS⟩ := dens ρ' hle
      have e1 : n1.den ρ' = some (nxS σ) := nx_denE hF d2
      have e2 : n2.den ρ' = some (nxS (nxS σ)) := nx_denE hF e1
      have e3 : n3.den ρ' = some (nxS (nxS (nxS σ))) := nx_denE hF e2
      have e4 : n4.den ρ' = some (nxS (nxS (nxS (nxS σ)))) := nx_denE hF e3
      have e5 : n5.den ρ' = some (nxS (nxS (nxS (nxS (nxS σ))))) := nx_denE hF e4
      have e6 : n6.den ρ' = some (nxS (nxS (nxS (nxS (nxS (nxS σ)))))) := nx_denE hF e5
      have tA := tr_denE hF d2 dA
      have t1 := tr_denE hF e1 (den_lit 100)
      have t2 := tr_denE hF e2 (den_lit 2)
      have t3 := tr_denE hF e3 dA
      have t4 := tr_denE hF e2 (den_lit 14)
      have t5 := tr_denE hF e2 dP
      have k3 := tr_denE hF e3 dK
      have v3 := tr_denE hF e3 (den_lit 4)
      have v4 := tr_denE hF e4 (den_lit 4)
      have v5 := tr_denE hF e5 (den_lit 4)
      have b14 := thS_bnd (nxS (nxS σ)) (n := 14) (by decide)
      have bP := thS_bnd (nxS (nxS σ)) (n := P) (by omega)
      have bK := thS_bnd (nxS (nxS (nxS σ))) (n := K) (by omega)
      have b3 := thS_bnd (nxS (nxS (nxS σ))) (n := 4) (by decide)
      have b4 := thS_bnd (nxS (nxS (nxS (nxS σ)))) (n := 4) (by decide)
      have dc : cr.den ρ' = some (1 + thS (nxS (nxS σ)) 14) := by
        simp only [cr, IT.den, t4, intBin, Option.some.injEq]; exact wrap_ok (by omega) (by omega)
      have dn : (IT.bin .add .i64 (.lit 1) (tr n2 (.var 13))).den ρ' = some (1 + thS (nxS (nxS σ)) P) := by
        simp only [IT.den, t5, intBin, Option.some.injEq]; exact wrap_ok (by omega) (by omega)
      simp only [CRel_cons, CRel_nil, and_true, BT.den, dS, t1, dc, den_lit, intCmp, Option.some.injEq, decide_eq_true_eq, decide_eq_false_iff_not, beq_iff_eq]
      omega
    · obtain ⟨hF, d2, dA, dP, dK, dS⟩ := dens ρ' hle
      have e1 : n1.den ρ' = some (nxS σ) := nx_denE hF d2
      have e2 : n2.den ρ' = some (nxS (nxS σ)) := nx_denE hF e1
      have e3 : n3.den ρ' = some (nxS (nxS (nxS σ))) := nx_denE hF e2
      have e4 : n4.den ρ' = some (nxS (nxS (nxS (nxS σ)))) := nx_denE hF e3
      have e5 : n5.den ρ' = some (nxS (nxS (nxS (nxS (nxS σ))))) := nx_denE hF e4
      have e6 : n6.den ρ' = some (nxS (nxS (nxS (nxS (nxS (nxS σ)))))) := nx_denE hF e5
      have tA := tr_denE hF d2 dA
      have t1 := tr_denE hF e1 (den_lit 100)
      have t2 := tr_denE hF e2 (den_lit 2)
      have t3 := tr_denE hF e3 dA
      have t4 := tr_denE hF e2 (den_lit 14)
      have t5 := tr_denE hF e2 dP
      have k3 := tr_denE hF e3 dK
      have v3 := tr_denE hF e3 (den_lit 4)
      have v4 := tr_denE hF e4 (den_lit 4)
      have v5 := tr_denE hF e5 (den_lit 4)
      have b14 := thS_bnd (nxS (nxS σ)) (n := 14) (by decide)
      have bP := thS_bnd (nxS (nxS σ)) (n := P) (by omega)
      have bK := thS_bnd (nxS (nxS (nxS σ))) (n := K) (by omega)
      have b3 := thS_bnd (nxS (nxS (nxS σ))) (n := 4) (by decide)
      have b4 := thS_bnd (nxS (nxS (nxS (nxS σ)))) (n := 4) (by decide)
      have dc : cr.den ρ' = some (1 + thS (nxS (nxS σ)) 14) := by
        simp only [cr, IT.den, t4, intBin, Option.some.injEq]; exact wrap_ok (by omega) (by omega)
      have dn : (IT.bin .add .i64 (.lit 1) (tr n2 (.var 13))).den ρ' = some (1 + thS (nxS (nxS σ)) P) := by
        simp only [IT.den, t5, intBin, Option.some.injEq]; exact wrap_ok (by omega) (by omega)
      rw [hev]
      simp only [AVal.den, AVal.denL, e4, tA, k3, dc, den_lit, Option.map_some]; rfl
  ·
    have hev := ev1 (A := A) (P := P) (K := K) (S := S) (s := σ) (by omega) (by omega) (by omega) (by omega) rfl (bk := true) (ba := false) (bb := false) (by rw [hj]; rfl) (by rw [hj]; rfl) (by rw [hj]; rfl)
    simp only [if_true, Bool.false_eq_true, if_false] at hev
    refine ev_leaf w h rev15 (fun ρ' hle => ?_) (fun ρ' hle => ?_)
    · obtain ⟨hF, d2, dA, dP, dK, dS⟩ := dens ρ' hle
      have e1 : n1.den ρ' = some (nxS σ) := nx_denE hF d2
      have e2 : n2.den ρ' = some (nxS (nxS σ)) := nx_denE hF e1
      have e3 : n3.den ρ' = some (nxS (nxS (nxS σ))) := nx_denE hF e2
      have e4 : n4.den ρ' = some (nxS (nxS (nxS (nxS σ)))) := nx_denE hF e3
      have e5 : n5.den ρ' = some (nxS (nxS (nxS (nxS (nxS σ))))) := nx_denE hF e4
      have e6 : n6.den ρ' = some (nxS (nxS (nxS (nxS (nxS (nxS σ)))))) := nx_denE hF e5
      have tA := tr_denE hF d2 dA
      have t1 := tr_denE hF e1 (den_lit 100)
      have t2 := tr_denE hF e2 (den_lit 2)
      have t3 := tr_denE hF e3 dA
      have t4 := tr_denE hF e2 (den_lit 14)
      have t5 := tr_denE hF e2 dP
      have k3 := tr_denE hF e3 dK
      have v3 := tr_denE hF e3 (den_lit 4)
      have v4 := tr_denE hF e4 (den_lit 4)
      have v5 := tr_denE hF e5 (den_lit 4)
      have b14 := thS_bnd (nxS (nxS σ)) (n := 14) (by decide)
      have bP := thS_bnd (nxS (nxS σ)) (n := P) (by omega)
      have bK := thS_bnd (nxS (nxS (nxS σ))) (n := K) (by omega)
      have b3 := thS_bnd (nxS (nxS (nxS σ))) (n := 4) (by decide)
      have b4 := thS_bnd (nxS (nxS (nxS (nxS σ)))) (n := 4) (by decide)
      have dc : cr.den ρ' = some (1 + thS (nxS (nxS σ)) 14) := by
        simp only [cr, IT.den, t4, intBin, Option.some.injEq]; exact wrap_ok (by omega) (by omega)
      have dn : (IT.bin .add .i64 (.lit 1) (tr n2 (.var 13))).den ρ' = some (1 + thS (nxS (nxS σ)) P) := by
        simp only [IT.den, t5, intBin, Option.some.injEq]; exact wrap_ok (by omega) (by omega)
      simp only [CRel_cons, CRel_nil, and_true, BT.den, dS, t1, dc, den_lit, intCmp, Option.some.injEq, decide_eq_true_eq, decide_eq_false_iff_not, beq_iff_eq]
      omega
    · obtain ⟨hF, d2, dA, dP, dK, dS⟩ := dens ρ' hle
      have e1 : n1.den ρ' = some (nxS σ) := nx_denE hF d2
      have e2 : n2.den ρ' = some (nxS (nxS σ)) := nx_denE hF e1
      have e3 : n3.den ρ' = some (nxS (nxS (nxS σ))) := nx_denE hF e2
      have e4 : n4.den ρ' = some (nxS (nxS (nxS (nxS σ)))) := nx_denE hF e3
      have e5 : n5.den ρ' = some (nxS (nxS (nxS (nxS (nxS σ))))) := nx_denE hF e4
      have e6 : n6.den ρ' = some (nxS (nxS (nxS (nxS (nxS (nxS σ)))))) := nx_denE hF e5
      have tA := tr_denE hF d2 dA
      have t1 := tr_denE hF e1 (den_lit 100)
      have t2 := tr_denE hF e2 (den_lit 2)
      have t3 := tr_denE hF e3 dA
      have t4 := tr_denE hF e2 (den_lit 14)
      have t5 := tr_denE hF e2 dP
      have k3 := tr_denE hF e3 dK
      have v3 := tr_denE hF e3 (den_lit 4)
      have v4 := tr_denE hF e4 (den_lit 4)
      have v5 := tr_denE hF e5 (den_lit 4)
      have b14 := thS_bnd (nxS (nxS σ)) (n := 14) (by decide)
      have bP := thS_bnd (nxS (nxS σ)) (n := P) (by omega)
      have bK := thS_bnd (nxS (nxS (nxS σ))) (n := K) (by omega)
      have b3 := thS_bnd (nxS (nxS (nxS σ))) (n := 4) (by decide)
      have b4 := thS_bnd (nxS (nxS (nxS (nxS σ)))) (n := 4) (by decide)
      have dc : cr.den ρ' = some (1 + thS (nxS (nxS σ)) 14) := by
        simp only [cr, IT.den, t4, intBin, Option.some.injEq]; exact wrap_ok (by omega) (by omega)
      have dn : (IT.bin .add .i64 (.lit 1) (tr n2 (.var 13))).den ρ' = some (1 + thS (nxS (nxS σ)) P) := by
        simp only [IT.den, t5, intBin, Option.some.injEq]; exact wrap_ok (by omega) (by omega)
      rw [hev]
      simp only [AVal.den, AVal.denL, e4, tA, k3, dc, den_lit, Option.map_some]; rfl
  ·
    have hev := ev1 (A := A) (P := P) (K := K) (S := S) (s := σ) (by omega) (by omega) (by omega) (by omega) rfl (bk := true) (ba := false) (bb := false) (by rw [hj]; rfl) (by rw [hj]; rfl) (by rw [hj]; rfl)
    simp only [if_true, Bool.false_eq_true, if_false] at hev
    refine ev_leaf w h rev16 (fun ρ' hle => ?_) (fun ρ' hle => ?_)
    · obtain ⟨hF, d2, dA, dP, dK, dS⟩ := dens ρ' hle
      have e1 : n1.den ρ' = some (nxS σ) := nx_denE hF d2
      have e2 : n2.den ρ' = some (nxS (nxS σ)) := nx_denE hF e1
      have e3 : n3.den ρ' = some (nxS (nxS (nxS σ))) := nx_denE hF e2
      have e4 : n4.den ρ' = some (nxS (nxS (nxS (nxS σ)))) := nx_denE hF e3
      have e5 : n5.den ρ' = some (nxS (nxS (nxS (nxS (nxS σ))))) := nx_denE hF e4
      have e6 : n6.den ρ' = some (nxS (nxS (nxS (nxS (nxS (nxS σ)))))) := nx_denE hF e5
      have tA := tr_denE hF d2 dA
      have t1 := tr_denE hF e1 (den_lit 100)
      have t2 := tr_denE hF e2 (den_lit 2)
      have t3 := tr_denE hF e3 dA
      have t4 := tr_denE hF e2 (den_lit 14)
      have t5 := tr_denE hF e2 dP
      have k3 := tr_denE hF e3 dK
      have v3 := tr_denE hF e3 (den_lit 4)
      have v4 := tr_denE hF e4 (den_lit 4)
      have v5 := tr_denE hF e5 (den_lit 4)
      have b14 := thS_bnd (nxS (nxS σ)) (n := 14) (by decide)
      have bP := thS_bnd (nxS (nxS σ)) (n := P) (by omega)
      have bK := thS_bnd (nxS (nxS (nxS σ))) (n := K) (by omega)
      have b3 := thS_bnd (nxS (nxS (nxS σ))) (n := 4) (by decide)
      have b4 := thS_bnd (nxS (nxS (nxS (nxS σ)))) (n := 4) (by decide)
      have dc : cr.den ρ' = some (1 + thS (nxS (nxS σ)) 14) := by
        simp only [cr, IT.den, t4, intBin, Option.some.injEq]; exact wrap_ok (by omega) (by omega)
      have dn : (IT.bin .add .i64 (.lit 1) (tr n2 (.var 13))).den ρ' = some (1 + thS (nxS (nxS σ)) P) := by
        simp only [IT.den, t5, intBin, Option.some.injEq]; exact wrap_ok (by omega) (by omega)
      simp only [CRel_cons, CRel_nil, and_true, BT.den, dS, t1, dc, den_lit, intCmp, Option.some.injEq, decide_eq_true_eq, decide_eq_false_iff_not, beq_iff_eq]
      omega
    · obtain ⟨hF, d2, dA, dP, dK, dS⟩ := dens ρ' hle
      have e1 : n1.den ρ' = some (nxS σ) := nx_denE hF d2
      have e2 : n2.den ρ' = some (nxS (nxS σ)) := nx_denE hF e1
      have e3 : n3.den ρ' = some (nxS (nxS (nxS σ))) := nx_denE hF e2
      have e4 : n4.den ρ' = some (nxS (nxS (nxS (nxS σ)))) := nx_denE hF e3
      have e5 : n5.den ρ' = some (nxS (nxS (nxS (nxS (nxS σ))))) := nx_denE hF e4
      have e6 : n6.den ρ' = some (nxS (nxS (nxS (nxS (nxS (nxS σ)))))) := nx_denE hF e5
      have tA := tr_denE hF d2 dA
      have t1 := tr_denE hF e1 (den_lit 100)
      have t2 := tr_denE hF e2 (den_lit 2)
      have t3 := tr_denE hF e3 dA
      have t4 := tr_denE hF e2 (den_lit 14)
      have t5 := tr_denE hF e2 dP
      have k3 := tr_denE hF e3 dK
      have v3 := tr_denE hF e3 (den_lit 4)
      have v4 := tr_denE hF e4 (den_lit 4)
      have v5 := tr_denE hF e5 (den_lit 4)
      have b14 := thS_bnd (nxS (nxS σ)) (n := 14) (by decide)
      have bP := thS_bnd (nxS (nxS σ)) (n := P) (by omega)
      have bK := thS_bnd (nxS (nxS (nxS σ))) (n := K) (by omega)
      have b3 := thS_bnd (nxS (nxS (nxS σ))) (n := 4) (by decide)
      have b4 := thS_bnd (nxS (nxS (nxS (nxS σ)))) (n := 4) (by decide)
      have dc : cr.den ρ' = some (1 + thS (nxS (nxS σ)) 14) := by
        simp only [cr, IT.den, t4, intBin, Option.some.injEq]; exact wrap_ok (by omega) (by omega)
      have dn : (IT.bin .add .i64 (.lit 1) (tr n2 (.var 13))).den ρ' = some (1 + thS (nxS (nxS σ)) P) := by
        simp only [IT.den, t5, intBin, Option.some.injEq]; exact wrap_ok (by omega) (by omega)
      rw [hev]
      simp only [AVal.den, AVal.denL, e4, tA, k3, dc, den_lit, Option.map_some]; rfl
  ·
    have hev := ev1 (A := A) (P := P) (K := K) (S := S) (s := σ) (by omega) (by omega) (by omega) (by omega) rfl (bk := true) (ba := false) (bb := false) (by rw [hj]; rfl) (by rw [hj]; rfl) (by rw [hj]; rfl)
    simp only [if_true, Bool.false_eq_true, if_false] at hev
    refine ev_leaf w h rev17 (fun ρ' hle => ?_) (fun ρ' hle => ?_)
    · obtain ⟨hF, d2, dA, dP, dK, dS⟩ := dens ρ' hle
      have e1 : n1.den ρ' = some (nxS σ) := nx_denE hF d2
      have e2 : n2.den ρ' = some (nxS (nxS σ)) := nx_denE hF e1
      have e3 : n3.den ρ' = some (nxS (nxS (nxS σ))) := nx_denE hF e2
      have e4 : n4.den ρ' = some (nxS (nxS (nxS (nxS σ)))) := nx_denE hF e3
      have e5 : n5.den ρ' = some (nxS (nxS (nxS (nxS (nxS σ))))) := nx_denE hF e4
      have e6 : n6.den ρ' = some (nxS (nxS (nxS (nxS (nxS (nxS σ)))))) := nx_denE hF e5
      have tA := tr_denE hF d2 dA
      have t1 := tr_denE hF e1 (den_lit 100)
      have t2 := tr_denE hF e2 (den_lit 2)
      have t3 := tr_denE hF e3 dA
      have t4 := tr_denE hF e2 (den_lit 14)
      have t5 := tr_denE hF e2 dP
      have k3 := tr_denE hF e3 dK
      have v3 := tr_denE hF e3 (den_lit 4)
      have v4 := tr_denE hF e4 (den_lit 4)
      have v5 := tr_denE hF e5 (den_lit 4)
      have b14 := thS_bnd (nxS (nxS σ)) (n := 14) (by decide)
      have bP := thS_bnd (nxS (nxS σ)) (n := P) (by omega)
      have bK := thS_bnd (nxS (nxS (nxS σ))) (n := K) (by omega)
      have b3 := thS_bnd (nxS (nxS (nxS σ))) (n := 4) (by decide)
      have b4 := thS_bnd (nxS (nxS (nxS (nxS σ)))) (n := 4) (by decide)
      have dc : cr.den ρ' = some (1 + thS (nxS (nxS σ)) 14) := by
        simp only [cr, IT.den, t4, intBin, Option.some.injEq]; exact wrap_ok (by omega) (by omega)
      have dn : (IT.bin .add .i64 (.lit 1) (tr n2 (.var 13))).den ρ' = some (1 + thS (nxS (nxS σ)) P) := by
        simp only [IT.den, t5, intBin, Option.some.injEq]; exact wrap_ok (by omega) (by omega)
      simp only [CRel_cons, CRel_nil, and_true, BT.den, dS, t1, dc, den_lit, intCmp, Option.some.injEq, decide_eq_true_eq, decide_eq_false_iff_not, beq_iff_eq]
      omega
    · obtain ⟨hF, d2, dA, dP, dK, dS⟩ := dens ρ' hle
      have e1 : n1.den ρ' = some (nxS σ) := nx_denE hF d2
      have e2 : n2.den ρ' = some (nxS (nxS σ)) := nx_denE hF e1
      have e3 : n3.den ρ' = some (nxS (nxS (nxS σ))) := nx_denE hF e2
      have e4 : n4.den ρ' = some (nxS (nxS (nxS (nxS σ)))) := nx_denE hF e3
      have e5 : n5.den ρ' = some (nxS (nxS (nxS (nxS (nxS σ))))) := nx_denE hF e4
      have e6 : n6.den ρ' = some (nxS (nxS (nxS (nxS (nxS (nxS σ)))))) := nx_denE hF e5
      have tA := tr_denE hF d2 dA
      have t1 := tr_denE hF e1 (den_lit 100)
      have t2 := tr_denE hF e2 (den_lit 2)
      have t3 := tr_denE hF e3 dA
      have t4 := tr_denE hF e2 (den_lit 14)
      have t5 := tr_denE hF e2 dP
      have k3 := tr_denE hF e3 dK
      have v3 := tr_denE hF e3 (den_lit 4)
      have v4 := tr_denE hF e4 (den_lit 4)
      have v5 := tr_denE hF e5 (den_lit 4)
      have b14 := thS_bnd (nxS (nxS σ)) (n := 14) (by decide)
      have bP := thS_bnd (nxS (nxS σ)) (n := P) (by omega)
      have bK := thS_bnd (nxS (nxS (nxS σ))) (n := K) (by omega)
      have b3 := thS_bnd (nxS (nxS (nxS σ))) (n := 4) (by decide)
      have b4 := thS_bnd (nxS (nxS (nxS (nxS σ)))) (n := 4) (by decide)
      have dc : cr.den ρ' = some (1 + thS (nxS (nxS σ)) 14) := by
        simp only [cr, IT.den, t4, intBin, Option.some.injEq]; exact wrap_ok (by omega) (by omega)
      have dn : (IT.bin .add .i64 (.lit 1) (tr n2 (.var 13))).den ρ' = some (1 + thS (nxS (nxS σ)) P) := by
        simp only [IT.den, t5, intBin, Option.some.injEq]; exact wrap_ok (by omega) (by omega)
      rw [hev]
      simp only [AVal.den, AVal.denL, e4, tA, k3, dc, den_lit, Option.map_some]; rfl
def spEv : SpG := fun args H nl cs => match args with
  | [.agg l, .int .i64 s] => cond (isP6 l) (some [.ret (.tuple [ef s 0, .agg [ef s 1, ef s 2, ef s 3, ef s 4, ef s 5, ef s 6, ef s 7, ef s 8]]) H nl cs]) none
  | _ => none
theorem pcells_den {A E P K S s : Int} {ρ : Env} (hG : (NumP A E P K S s).at ρ) : AVal.denL ρ pcells = some [.int .i64 s, .int .i64 A, .int .i64 E, .int .i64 P, .int .i64 K, .int .i64 S] := by
  obtain ⟨g0, g1, g2, g3, g4, g5, _⟩ := hG
  simp only [pcells, iv, AVal.denL, AVal.den, IT.den, g0, g1, g2, g3, g4, g5, Option.map_some]
theorem ev_den {A P K S : Int} {ρ : Env} (hF : ρ.F = FE A P K S) {s : IT} {x : Int} (hs : s.den ρ = some x) : (AVal.agg [ef s 1, ef s 2, ef s 3, ef s 4, ef s 5, ef s 6, ef s 7, ef s 8]).den ρ = some (Ev.val (evS A P K S x)) := by
  simp only [AVal.den, AVal.denL, ef, ef_den hF hs 1, ef_den hF hs 2, ef_den hF hs 3, ef_den hF hs 4, ef_den hF hs 5, ef_den hF hs 6, ef_den hF hs 7, ef_den hF hs 8, Option.map_some]; rfl
theorem den_tuple2 {ρ : Env} {a b : AVal} {x y : Value} (ha : a.den ρ = some x) (hb : b.den ρ = some y) : (AVal.tuple [a, b]).den ρ = some (.tuple #[x, y]) := by
  simp only [AVal.den, AVal.denL, ha, hb, Option.map_some]
def sprE : CallF := spL [(39, spEv)]
theorem sprE_ok {A E P K S s : Int} (w : World) (h : Rt A E P K S) : CallOk Tryz.prog ⟨w, [], NumP A E P K S s⟩ sprE := by
  refine spL_ok fun p hp => ?_
  simp only [List.mem_cons, List.not_mem_nil, or_false] at hp
  obtain rfl := hp
  intro args H nl cs ls ρ w xs hr hx hh hc
  change spEv args H nl cs = some ls at hr
  unfold spEv at hr
  split at hr
  rotate_left
  · cases hr
  rename_i l t
  cases hp : isP6 l with
  | false => rw [hp] at hr; cases hr
  | true =>
    rw [hp] at hr
    simp only [cond_true, Option.some.injEq] at hr
    subst hr
    obtain rfl := AVal.beqL_eq _ _ hp
    have hG : (NumP A E P K S s).at ρ := hh.g
    have hF : ρ.F = FE A P K S := hG.2.2.2.2.2.2
    simp only [AVal.denL, AVal.den, pcells_den hG, Option.map_some] at hx
    cases ht : t.den ρ with
    | none => rw [ht] at hx; cases hx
    | some x =>
      rw [ht] at hx
      simp only [Option.map_some, Option.some.injEq] at hx
      subst hx
      refine (event39 w A E P K S s x h).mono fun e w2 ⟨he, hf⟩ => ⟨_, he, _, _, _, _, ρ, List.mem_cons_self, Env.Le.refl ρ, ?_, hh.framed hf, hc⟩
      have h0 : (ef t 0).den ρ = some (.int .i64 (evS A P K S x).s) := by simp only [ef, AVal.den, ef_den hF ht 0, Option.map_some]; rfl
      have h1 := ev_den hF ht
      exact den_tuple2 h0 h1
theorem run_re : (run Tryz.prog [] sprE 4000 true 23 (entry Tryz.f23 (Tryz.f23.body.getD .ret) [p6] .leaf 0 planC)).map (·.filterMap (sumM g4 [RTr] [R2, R1, R0])) = some sums_re := by kernel_rfl
theorem run_r0 : (run Tryz.prog [] sprE 4000 true 23 (R0.st (.code rb0 :: .inLoop rb0 :: rk0))).map (·.filterMap (sumM g4 [RTr] [R2, R1, R0])) = some sums_r0 := by kernel_rfl
theorem run_r1 : (run Tryz.prog [] sprE 4000 true 23 (R1.st (.code rb0 :: .inLoop rb0 :: rk0))).map (·.filterMap (sumM g4 [RTr] [R2, R1, R0])) = some sums_r1 := by kernel_rfl
theorem run_r2 : (run Tryz.prog [] sprE 4000 true 23 (R2.st (.code rb1 :: .inLoop rb1 :: rk1))).map (·.filterMap (sumM g4 [RTr] [R2, R1, R0])) = some sums_r2 := by kernel_rfl
section
variable {A E P K S s : Int}
theorem loop_r2 (w0 : World) (h : Rt A E P K S) : ∀ ρ, (JE A E P K S s).at ρ → ∀ todo a w, todo = .inLoop rb1 :: rk1 ∨ todo = .code (.loop rb1) :: rk1 → SRel ⟨w0, [], NumP A E P K S s⟩ ρ (R2.st todo) a w →
    Goes Tryz.prog 23 (EvRow A E P K S s w0) todo a w := by
  refine loop_goesM (β := ⟨w0, [], NumP A E P K S s⟩) noCount noExt (sprE_ok w0 h) follows rfl run_r2 (JE A E P K S s) (fun ρ => (E - ρ.I 0).toNat) (fun ρ hJ hcs hG ih q hq => ?_)
  have ha1 := h.a1; have ha2 := h.a2; have he1 := h.e1; have he2 := h.e2
  obtain ⟨i, j0, j1, j2, j3, j4⟩ := hJ
  obtain ⟨g0, g1, g2, g3, g4', g5, gF⟩ := id hG
  generalize hσ : seedS A P K S s i = σ at j3
  have dens : ∀ ρ' : Env, ρ.Le ρ' → ρ'.F = FE A P K S ∧ (IT.var 0).den ρ' = some (i : Int) ∧ (IT.var 1).den ρ' = some (2 * A + i) ∧ (IT.var 2).den ρ' = some σ ∧ (IT.var 12).den ρ' = some E := fun ρ' hle => by
    simp only [IT.den, hle.i, hle.f, gF, j1, j2, j3, g2, and_self]
  simp only [sums_r2, List.mem_cons, List.not_mem_nil, or_false] at hq
  rcases hq with rfl | rfl
  · intro ρ' hle hc T hT hG'
    obtain ⟨hF, d0, d1, d2, dE⟩ := dens ρ' hle
    simp only [CRel_app, CRel_cons, CRel_nil, and_true, BT.den, d0, d1, dE, den_lit, intCmp, Option.some.injEq, decide_eq_true_eq] at hc
    obtain rfl : R2 = T := by simpa using hT
    have hlt : (i : Int) < E := by omega
    have e0 : IntKind.i64.wrap (ρ'.I 0 + 1) = ((i + 1 : Nat) : Int) := by rw [hle.i, j1, wrap_ok (by omega) (by omega)]; omega
    have e01 : IntKind.i64.wrap (ρ'.I 1 + 1) = 2 * A + ((i + 1 : Nat) : Int) := by rw [hle.i, j2, wrap_ok (by omega) (by omega)]; omega
    refine ⟨hG', CRel_app.2 ⟨rngC_of ?_ ?_, planC_of h hG'⟩, fun a w r => ih _ ?_ ?_ _ a w (.inl rfl) r⟩
    · show 0 ≤ IntKind.i64.wrap (ρ'.I 0 + 1) ∧ IntKind.i64.wrap (ρ'.I 0 + 1) ≤ 5000; rw [e0]; omega
    · show 0 ≤ IntKind.i64.wrap (ρ'.I 1 + 1) ∧ IntKind.i64.wrap (ρ'.I 1 + 1) ≤ 10000; rw [e01]; omega
    · show (E - IntKind.i64.wrap (ρ'.I 0 + 1)).toNat < (E - ρ.I 0).toNat; rw [e0, j1]; omega
    · refine ⟨i + 1, by omega, e0, e01, ?_, ?_⟩
      · show ((IT.fn 60 (.var 2) (.lit 0)).den ρ').getD 0 = (evS A P K S (seedS A P K S s i)).s; rw [hσ, ef_den hF d2 0]; rfl
      · refine (v_snoc (cs := [(.int .i64 (.fn 61 (.var 2) (.lit 0))), (.int .i64 (.fn 62 (.var 2) (.lit 0))), (.int .i64 (.fn 63 (.var 2) (.lit 0))), (.int .i64 (.fn 64 (.var 2) (.lit 0))), (.int .i64 (.fn 65 (.var 2) (.lit 0))), (.int .i64 (.fn 66 (.var 2) (.lit 0))), (.int .i64 (.fn 67 (.var 2) (.lit 0))), (.int .i64 (.fn 68 (.var 2) (.lit 0)))]) (xs := (evS A P K S σ).cells) ((by rw [hle.v]; exact j4)) ?_).trans (by rw [← hσ]; rfl)
        simp only [AVal.denL, AVal.den, ef_den hF d2 1, ef_den hF d2 2, ef_den hF d2 3, ef_den hF d2 4, ef_den hF d2 5, ef_den hF d2 6, ef_den hF d2 7, ef_den hF d2 8, Option.map_some]; rfl
  · intro ρ' hle hc T hT hG'
    obtain ⟨hF, d0, d1, d2, dE⟩ := dens ρ' hle
    simp only [CRel_app, CRel_cons, CRel_nil, and_true, BT.den, d0, dE, intCmp, Option.some.injEq, decide_eq_false_iff_not] at hc
    obtain rfl : RTr = T := by simpa using hT
    have hiE : i = E.toNat := by omega
    refine ⟨hG', CRel_nil.2 trivial, fun x w' r => ?_⟩
    obtain ⟨y, hy, hg⟩ := r.t 0 _ rfl
    obtain rfl : x = y := by simpa using hg
    exact row_ret r.h hy (n := (2 * A + E).toNat) (by show ((IT.var 1).den ρ').getD 0 = _; rw [d1]; simp only [Option.getD_some]; omega) (by show Value.agg (((AT.var 0).den ρ').getD []).toArray = _; simp only [AT.den, hle.v, j4, aggCells, Option.getD_some]; rw [hiE])
theorem loop_r1 (w0 : World) (h : Rt A E P K S) : ∀ ρ, GP.at (JA A) ρ → ∀ todo a w, todo = .inLoop rb0 :: rk0 ∨ todo = .code (.loop rb0) :: rk0 → SRel ⟨w0, [], NumP A E P K S s⟩ ρ (R1.st todo) a w →
    Goes Tryz.prog 23 (EvRow A E P K S s w0) todo a w := by
  refine loop_goesM (β := ⟨w0, [], NumP A E P K S s⟩) noCount noExt (sprE_ok w0 h) follows rfl run_r1 (JA A) (fun ρ => (A - ρ.I 0).toNat) (fun ρ hJ hcs hG ih q hq => ?_)
  have ha1 := h.a1; have ha2 := h.a2; have he1 := h.e1; have he2 := h.e2
  obtain ⟨g0, g1, g2, g3, g4', g5, gF⟩ := id hG
  obtain ⟨i, j0, j1, j2, j4⟩ := hJ
  simp only [sums_r1, List.mem_cons, List.not_mem_nil, or_false] at hq
  rcases hq with rfl | rfl
  · intro ρ' hle hc T hT hG'
    have e2 : ρ'.I = ρ.I := hle.i
    simp only [CRel_app, CRel_cons, CRel_nil, and_true, BT.den, IT.den, e2, j1, j2, g1, intCmp, Option.some.injEq, decide_eq_true_eq] at hc
    obtain rfl : R1 = T := by simpa using hT
    have e0 : IntKind.i64.wrap (ρ'.I 0 + 1) = ((i + 1 : Nat) : Int) := by rw [hle.i, j1, wrap_ok (by omega) (by omega)]; omega
    have e01 : IntKind.i64.wrap (ρ'.I 1 + 2) = 2 * ((i + 1 : Nat) : Int) := by rw [hle.i, j2, wrap_ok (by omega) (by omega)]; omega
    refine ⟨hG', CRel_app.2 ⟨rngC_of ?_ ?_, planC_of h hG'⟩, fun a w r => ih _ ?_ ?_ _ a w (.inl rfl) r⟩
    · show 0 ≤ IntKind.i64.wrap (ρ'.I 0 + 1) ∧ IntKind.i64.wrap (ρ'.I 0 + 1) ≤ 5000; rw [e0]; omega
    · show 0 ≤ IntKind.i64.wrap (ρ'.I 1 + 2) ∧ IntKind.i64.wrap (ρ'.I 1 + 2) ≤ 10000; rw [e01]; omega
    · show (A - IntKind.i64.wrap (ρ'.I 0 + 1)).toNat < (A - ρ.I 0).toNat; rw [e0, j1]; omega
    · refine ⟨i + 1, by omega, e0, e01, (v_snoc (cs := [(.int .i64 (.lit 0)), (.int .i64 (.var 0)), (.int .i64 (.lit 0)), (.int .i64 (.lit 0)), (.int .i64 (.lit 0)), (.int .i64 (.lit 0)), (.int .i64 (.lit 0)), (.int .i64 (.lit 0)), (.int .i64 (.lit 5)), (.int .i64 (.var 0)), (.int .i64 (.lit 0)), (.int .i64 (.lit 40)), (.int .i64 (.lit 0)), (.int .i64 (.lit 0)), (.int .i64 (.lit 0)), (.int .i64 (.lit 0))]) (xs := cells8 0 i 0 0 0 0 0 0 ++ cells8 5 i 0 40 0 0 0 0) ((by rw [hle.v]; exact j4)) ?_).trans rfl⟩
      simp only [AVal.denL, AVal.den, IT.den, e2, j1, Option.map_some]; rfl
  · intro ρ' hle hc T hT hG'
    have e2 : ρ'.I = ρ.I := hle.i
    simp only [CRel_app, CRel_cons, CRel_nil, and_true, BT.den, IT.den, e2, j1, g1, intCmp, Option.some.injEq, decide_eq_false_iff_not] at hc
    obtain rfl : R2 = T := by simpa using hT
    have hiA : i = A.toNat := by omega
    refine ⟨hG', CRel_app.2 ⟨rngC_of ?_ ?_, planC_of h hG'⟩, fun a w r => loop_r2 w0 h _ ?_ _ a w (.inr rfl) r⟩
    · show (0 : Int) ≤ 0 ∧ (0 : Int) ≤ 5000; omega
    · show 0 ≤ ρ'.I 1 ∧ ρ'.I 1 ≤ 10000; rw [e2, j2]; omega
    · exact ⟨0, by omega, rfl, (by show ρ'.I 1 = 2 * A + ((0 : Nat) : Int); rw [e2, j2]; omega), (by show ρ'.I 10 = s; rw [e2, g0]), (by show Value.agg (((AT.var 0).den ρ').getD []).toArray = _; simp only [AT.den, hle.v, j4, aggCells, Option.getD_some]; rw [hiA]; rfl)⟩
theorem loop_r0 (w0 : World) (h : Rt A E P K S) : ∀ ρ, GP.at (fun _ _ _ _ _ => True) ρ → ∀ todo a w, todo = .inLoop rb0 :: rk0 ∨ todo = .code (.loop rb0) :: rk0 → SRel ⟨w0, [], NumP A E P K S s⟩ ρ (R0.st todo) a w →
    Goes Tryz.prog 23 (EvRow A E P K S s w0) todo a w := by
  refine loop_goesM (β := ⟨w0, [], NumP A E P K S s⟩) noCount noExt (sprE_ok w0 h) follows rfl run_r0 (fun _ _ _ _ _ => True) (fun ρ => 0) (fun ρ hJ hcs hG ih q hq => ?_)
  have ha1 := h.a1; have ha2 := h.a2; have he1 := h.e1; have he2 := h.e2
  obtain ⟨g0, g1, g2, g3, g4', g5, gF⟩ := id hG
  simp only [sums_r0, List.mem_cons, List.not_mem_nil, or_false] at hq
  rcases hq with rfl
  · intro ρ' hle hc T hT hG'
    obtain rfl : R1 = T := by simpa using hT
    refine ⟨hG', CRel_app.2 ⟨rngC_of ?_ ?_, planC_of h hG'⟩, fun a w r => loop_r1 w0 h _ ?_ _ a w (.inl rfl) r⟩
    · show (0 : Int) ≤ 1 ∧ (1 : Int) ≤ 5000; omega
    · show (0 : Int) ≤ 2 ∧ (2 : Int) ≤ 10000; omega
    · exact ⟨1, by omega, rfl, rfl, rfl⟩
end
theorem events23 (w : World) (A E P K S s : Int) (h : Rt A E P K S) : Calls Tryz.prog 23 #[.agg #[.int .i64 s, .int .i64 A, .int .i64 E, .int .i64 P, .int .i64 K, .int .i64 S]] w (fun e w' => ∃ v, e = .returned v ∧ EvRow A E P K S s w v w') := by
  have hG : (NumP A E P K S s).at (envP A E P K S s 0) := ⟨rfl, rfl, rfl, rfl, rfl, rfl, rfl⟩
  refine calls_sumsM (β := ⟨w, [], NumP A E P K S s⟩) (ρ := envP A E P K S s 0) noCount noExt (sprE_ok w h) follows rfl Tryz.func23 rfl run_re (xs := [.agg #[.int .i64 s, .int .i64 A, .int .i64 E, .int .i64 P, .int .i64 K, .int .i64 S]]) rfl (HRel.startG w _ (fun _ => rfl) hG) (planC_of h hG) (fun q hq => ?_)
  simp only [sums_re, List.mem_cons, List.not_mem_nil, or_false] at hq
  obtain rfl := hq
  intro ρ' hle hc T hT hG'
  obtain rfl : R0 = T := by simpa using hT
  exact ⟨hG', planC_of h hG', fun a w' r => loop_r0 w h _ trivial _ a w' (.inr rfl) r⟩
end Pln
end Go.Proofs.YthifhdckfcgbkaaGreat
