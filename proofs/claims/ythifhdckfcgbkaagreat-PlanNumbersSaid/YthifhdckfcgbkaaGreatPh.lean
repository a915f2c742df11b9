/-
  Plans (9): a plan's events.
-/
import Derived.Test.YthifhdckfcgbkaaGreatPg
namespace Go.Proofs.YthifhdckfcgbkaaGreat
open Go.Vm
namespace Pln
noncomputable def pb0 : Code := ((loopsOf (Tryz.f17.body.getD .ret) []).getD 0 (.ret, [])).1
noncomputable def pk0 : List Item := ((loopsOf (Tryz.f17.body.getD .ret) []).getD 0 (.ret, [])).2
noncomputable def pb1 : Code := ((loopsOf (Tryz.f17.body.getD .ret) []).getD 1 (.ret, [])).1
noncomputable def pk1 : List Item := ((loopsOf (Tryz.f17.body.getD .ret) []).getD 1 (.ret, [])).2
noncomputable def sums_pe : List LM := [.next 2 (.code (.loop pb0) :: pk0) planC ⟨[], [], [], [], [(0, 0)]⟩]
noncomputable def sums_p0 : List LM := [.next 1 (.inLoop pb0 :: pk0) ([((.cmp .lss (.lit 0) (.var 11)), true)] ++ planC) ⟨[(1, (.lit 2)), (0, (.lit 1))], [], [], [(0, (.lits [(.int .i64 (.lit 0)), (.int .i64 (.lit 0)), (.int .i64 (.lit 0)), (.int .i64 (.lit 0)), (.int .i64 (.lit 0)), (.int .i64 (.lit 0)), (.int .i64 (.lit 0)), (.int .i64 (.lit 0)), (.int .i64 (.lit 5)), (.int .i64 (.lit 0)), (.int .i64 (.lit 0)), (.int .i64 (.lit 40)), (.int .i64 (.lit 0)), (.int .i64 (.lit 0)), (.int .i64 (.lit 0)), (.int .i64 (.lit 0))]))], [(0, 0), (2, 3), (1, 2)]⟩]
noncomputable def sums_p1 : List LM := [.next 1 (.inLoop pb0 :: pk0) ([((.cmp .leq (.var 1) (.lit 1000000)), true), ((.cmp .lss (.var 0) (.var 11)), true)] ++ (rngC ++ planC)) ⟨[(1, (.bin .add .i64 (.var 1) (.lit 2))), (0, (.bin .add .i64 (.var 0) (.lit 1)))], [], [], [(0, (.snoc (.var 0) [(.int .i64 (.lit 0)), (.int .i64 (.var 0)), (.int .i64 (.lit 0)), (.int .i64 (.lit 0)), (.int .i64 (.lit 0)), (.int .i64 (.lit 0)), (.int .i64 (.lit 0)), (.int .i64 (.lit 0)), (.int .i64 (.lit 5)), (.int .i64 (.var 0)), (.int .i64 (.lit 0)), (.int .i64 (.lit 40)), (.int .i64 (.lit 0)), (.int .i64 (.lit 0)), (.int .i64 (.lit 0)), (.int .i64 (.lit 0))]))], [(0, 0), (2, 5), (1, 4)]⟩,
  .next 0 (.code (.loop pb1) :: pk1) ([((.cmp .lss (.var 0) (.var 11)), false)] ++ (rngC ++ planC)) ⟨[(1, (.var 1)), (0, (.lit 0)), (2, (.bin .rem .i64 (.bin .add .i64 (.bin .rem .i64 (.var 10) (.lit 2147483648)) (.lit 2147483648)) (.lit 2147483648)))], [], [], [(0, (.var 0))], [(0, 0), (2, 2), (1, 1), (3, 3)]⟩]
noncomputable def sums_p2 : List LM := [.next 0 (.inLoop pb1 :: pk1) ([((.cmp .leq (.var 1) (.lit 1000000)), true), ((.cmp .lss (.var 0) (.var 12)), true)] ++ (rngC ++ planC)) ⟨[(1, (.bin .add .i64 (.var 1) (.lit 1))), (0, (.bin .add .i64 (.var 0) (.lit 1))), (2, (.fn 60 (.var 2) (.lit 0)))], [], [], [(0, (.snoc (.var 0) [(.int .i64 (.fn 61 (.var 2) (.lit 0))), (.int .i64 (.fn 62 (.var 2) (.lit 0))), (.int .i64 (.fn 63 (.var 2) (.lit 0))), (.int .i64 (.fn 64 (.var 2) (.lit 0))), (.int .i64 (.fn 65 (.var 2) (.lit 0))), (.int .i64 (.fn 66 (.var 2) (.lit 0))), (.int .i64 (.fn 67 (.var 2) (.lit 0))), (.int .i64 (.fn 68 (.var 2) (.lit 0)))]))], [(0, 0), (2, 6), (1, 5), (3, 3)]⟩,
  .done 0 ([((.cmp .lss (.var 0) (.var 12)), false)] ++ (rngC ++ planC)) ⟨[(1, (.var 1))], [], [], [(0, (.var 0))], [(0, 2), (1, 1)]⟩]
def spp : CallF := spL [(21, spI1 50), (80, spA spRight)]
theorem spp_ok {β : Base} (hG : ∀ I B S V F, β.G I B S V F → ∀ x, F 50 x 0 = nxS x) : CallOk Tryz.prog β spp := by
  refine spL_ok fun p hp => ?_
  simp only [List.mem_cons, List.not_mem_nil, or_false] at hp
  rcases hp with rfl | rfl
  · exact spI1_ok next21 hG
  · exact spA_ok right80
def diceB (t : IT) : HB := ⟨.cells (.int .i64 t :: pcells) 63 none, true⟩
def retMem (u : AVal) (sd : IT) : Leaf → Bool
  | .ret v H _ _ => AVal.beq v u && (match H.get 0 with
    | some k => HB.beq k (diceB sd)
    | none => false)
  | .stop cs => dead cs
  | .pause _ => false
def DRun (cs : Cs) (u : AVal) (sd : IT) : Prop := (run Tryz.prog [] spp 4000 false 37 (entry Tryz.f37 (Tryz.f37.body.getD .ret) [.ptr 0 (.lit 0)] (ofP [(0, diceB (.var 2))]) 1 (cs ++ planC))).map (·.all (retMem u sd)) = some true
/-- A dice's block: the seed, the plan. -/
def DiceObj (A E P K S s σ : Int) (o : Obj) : Prop := ∃ c fr, o = .cells c 63 fr ∧ [Value.int .i64 σ, .int .i64 s, .int .i64 A, .int .i64 E, .int .i64 P, .int .i64 K, .int .i64 S] <+: c.toList ∧ c.size = 7 ∧ FrOk fr c.size
section
variable {A E P K S s : Int}
theorem dice_den {ρ : Env} (hG : (NumP A E P K S s).at ρ) {t : IT} {σ : Int} (ht : t.den ρ = some σ) : AVal.denL ρ (.int .i64 t :: pcells) = some [.int .i64 σ, .int .i64 s, .int .i64 A, .int .i64 E, .int .i64 P, .int .i64 K, .int .i64 S] := by
  have h := pcells_den hG
  unfold AVal.denL
  simp only [AVal.den, ht, h, Option.map_some]
theorem dice_rel {ρ : Env} (hG : (NumP A E P K S s).at ρ) {t : IT} {σ : Int} (ht : t.den ρ = some σ) {o : Obj} (h : DiceObj A E P K S s σ o) : (diceB t).k.rel ρ (diceB t).rw o := by
  obtain ⟨c, fr, rfl, hp, hs, hf⟩ := h
  exact ⟨_, c, fr, rfl, dice_den hG ht, hp, hs, fun _ => hf⟩
theorem dice_of {ρ : Env} (hG : (NumP A E P K S s).at ρ) {t : IT} {σ : Int} (ht : t.den ρ = some σ) {o : Obj} (h : (diceB t).k.rel ρ (diceB t).rw o) : DiceObj A E P K S s σ o := by
  obtain ⟨xs, c, fr, rfl, hd, hp, hs, hf⟩ := h
  rw [dice_den hG ht] at hd
  cases hd
  exact ⟨c, fr, rfl, hp, hs, hf rfl⟩
end
noncomputable def envD (A E P K S s x : Int) (b : Nat) : Env := { envP A E P K S s x with N := fun i => if i = 0 then some b else none }
/-- What a dice's step leaves behind. -/
structure DStep (A E P K S s σ : Int) (b : Nat) (w w' : World) : Prop where
  obj : ∃ o, w'.heap[b]? = some o ∧ DiceObj A E P K S s σ o
  size : w.heap.size ≤ w'.heap.size
  frame : ∀ c, c < w.heap.size → c ≠ b → w'.heap[c]? = w.heap[c]?
  tape : w'.tape = w.tape
  os : w'.os = w.os
  out : w'.output = w.output
theorem d_leaf {A E P K S s σ τ : Int} (h : Rt A E P K S) {w : World} {b : Nat} {ob : Obj} (hb : w.heap[b]? = some ob) (ho : DiceObj A E P K S s σ ob) {cs : Cs} {u : AVal} {sd : IT} {v : Value} (hrun : DRun cs u sd)
    (hc : ∀ ρ', (envD A E P K S s σ b).Le ρ' → CRel ρ' cs) (hu : ∀ ρ', (envD A E P K S s σ b).Le ρ' → u.den ρ' = some v ∧ sd.den ρ' = some τ) :
    Calls Tryz.prog 37 #[.pointer (some ⟨b, 0, none⟩)] w (fun e w' => e = .returned v ∧ DStep A E P K S s τ b w w') := by
  have hG : (NumP A E P K S s).at (envD A E P K S s σ b) := ⟨rfl, rfl, rfl, rfl, rfl, rfl, rfl⟩
  obtain ⟨ls, hls, hall⟩ := Option.map_eq_some_iff.1 hrun
  have one : ∀ l k, (ofP [(0, diceB (.var 2))]).get l = some k → l = 0 ∧ k = diceB (.var 2) := fun l k hl => by
    have := ofP_mem hl
    rcases List.mem_cons.1 this with e | h
    · cases e; exact ⟨rfl, rfl⟩
    · cases h
  have hblt : b < w.heap.size := (Array.getElem?_eq_some_iff.1 hb).1
  have hr : HRel ⟨w, [0], NumP A E P K S s⟩ (envD A E P K S s σ b) (ofP [(0, diceB (.var 2))]) 1 w := by
    refine ⟨fun l k hl => ?_, fun l l' k k' hl hl' _ _ => ?_, fun l k b' hl hr hb' => ?_, fun i hi => ?_, fun l hl => ?_, Nat.le_refl _, fun _ _ _ => rfl, rfl, rfl, rfl, hG⟩
    · obtain ⟨rfl, rfl⟩ := one l k hl
      exact ⟨b, ob, rfl, hb, dice_rel hG rfl ho⟩
    · rw [(one l k hl).1, (one l' k' hl').1]
    · obtain ⟨rfl, rfl⟩ := one l k hl
      exact .inr ⟨0, List.mem_cons_self, hb'⟩
    · show (if i = 0 then some b else none) = none
      rw [if_neg (by omega)]
    · obtain rfl := List.mem_singleton.1 hl; exact Nat.zero_lt_one
  have hx : AVal.denL (envD A E P K S s σ b) [.ptr 0 (.lit 0)] = some [.pointer (some ⟨b, 0, none⟩)] := rfl
  refine (run_calls (β := ⟨w, [0], NumP A E P K S s⟩) noCount noExt (spp_ok fun _ _ _ _ F hF x => by rw [show F = FE A P K S from hF.2.2.2.2.2.2]; rfl) follows Tryz.func37 rfl hls hx hr (CRel_app.2 ⟨hc _ (Env.Le.refl _), planC_of h hG⟩) (R := fun x w' => x = v ∧ DStep A E P K S s τ b w w') (fun l hl => ?_)).mono fun e w' ⟨x, he, hv, hf⟩ => ⟨by rw [he, hv], hf⟩
  have h1 := List.all_eq_true.1 hall l hl
  cases l with
  | stop cs' => exact dead_ok h1
  | pause S => cases h1
  | ret v' H nl cs' =>
    intro ρ' w' x hle hxd hr' hc'
    simp only [retMem, Bool.and_eq_true] at h1
    obtain ⟨h2, h3⟩ := h1
    have := AVal.beq_eq _ _ h2
    subst this
    obtain ⟨hu1, hu2⟩ := hu ρ' hle
    rw [hu1] at hxd
    have hN : ρ'.N 0 = some b := hle.n 0 b rfl
    refine ⟨(Option.some.inj hxd).symm, ?_, hr'.size, fun c hc hne => hr'.frame c hc (fun l hl e => ?_), hr'.tape, hr'.os, hr'.out⟩
    · cases hH : H.get 0 with
      | none => rw [hH] at h3; cases h3
      | some k =>
        rw [hH] at h3
        obtain rfl := HB.beq_eq h3
        obtain ⟨b', o, hb', ho', hk⟩ := hr'.blk 0 _ hH
        rw [hN] at hb'; cases hb'
        exact ⟨o, ho', dice_of hr'.g hu2 hk⟩
    · obtain rfl := List.mem_singleton.1 hl
      rw [hN] at e; cases e; exact hne rfl
theorem dev0 : DRun [((.cmp .eql (tp n3 (.lit 2)) (.lit 1)), true), ((.cmp .lss (tp n2 (.lit 100)) (.var 15)), true)] (.agg [(.int .i64 (.lit 4)), (.int .i64 (tp n1 (.var 11))), (.int .i64 (tp n4 (.var 11))), (.int .i64 (.lit 0)), (.int .i64 (.lit 0)), (.int .i64 (.lit 0)), (.int .i64 (.lit 0)), (.int .i64 (.lit 0))]) n4 := by unfold DRun; kernel_rfl
theorem dev1 : DRun [((.cmp .eql (tp n3 (.lit 2)) (.lit 1)), false), ((.cmp .lss (tp n2 (.lit 100)) (.var 15)), true)] (.agg [(.int .i64 (.lit 3)), (.int .i64 (tp n1 (.var 11))), (.int .i64 (.lit 0)), (.int .i64 (.lit 0)), (.int .i64 (.lit 0)), (.int .i64 (.lit 0)), (.int .i64 (.lit 0)), (.int .i64 (.lit 0))]) n3 := by unfold DRun; kernel_rfl
theorem dev2 : DRun [((.cmp .geq (tp n2 (.lit 100)) (.lit 98)), true), ((.cmp .lss (tp n2 (.lit 100)) (.var 15)), false)] (.agg [(.int .i64 (.lit 2)), (.int .i64 (tp n1 (.var 11))), (.int .i64 (.lit 0)), (.int .i64 (.lit 0)), (.int .i64 (.lit 0)), (.int .i64 (.lit 0)), (.int .i64 (.lit 0)), (.int .i64 (.lit 0))]) n2 := by unfold DRun; kernel_rfl
theorem dev3 : DRun [((.cmp .geq (tp n2 (.lit 100)) (.lit 95)), true), ((.cmp .geq (tp n2 (.lit 100)) (.lit 98)), false), ((.cmp .lss (tp n2 (.lit 100)) (.var 15)), false)] (.agg [(.int .i64 (.lit 0)), (.int .i64 (tp n1 (.var 11))), (.int .i64 (.lit 0)), (.int .i64 (.lit 0)), (.int .i64 (.lit 0)), (.int .i64 (.lit 0)), (.int .i64 (.lit 0)), (.int .i64 (.lit 0))]) n2 := by unfold DRun; kernel_rfl
theorem dev4 : DRun [((tRight cp (tp n4 (.var 14)) (tp n5 (.lit 4)) (.lit 1)), true), ((tRight cp (tp n4 (.var 14)) (.lit 1) (.lit 0)), true), ((tRight cp (.lit 1) (.lit 0) (.lit 0)), true), ((.cmp .geq (tp n2 (.lit 100)) (.lit 80)), true), ((.cmp .geq (tp n2 (.lit 100)) (.lit 95)), false), ((.cmp .geq (tp n2 (.lit 100)) (.lit 98)), false), ((.cmp .lss (tp n2 (.lit 100)) (.var 15)), false)] (.agg [(.int .i64 (.lit 1)), (.int .i64 (tp n1 (.var 11))), (.int .i64 (.lit 0)), (.int .i64 (.lit 0)), (.int .i64 cp), (.int .i64 (tp n4 (.var 14))), (.int .i64 (tp n5 (.lit 4))), (.int .i64 (tp n6 (.lit 4)))]) n6 := by unfold DRun; kernel_rfl
theorem dev5 : DRun [((tRight cp (tp n4 (.var 14)) (tp n5 (.lit 4)) (.lit 1)), false), ((tRight cp (tp n4 (.var 14)) (.lit 1) (.lit 0)), true), ((tRight cp (.lit 1) (.lit 0) (.lit 0)), true), ((.cmp .geq (tp n2 (.lit 100)) (.lit 80)), true), ((.cmp .geq (tp n2 (.lit 100)) (.lit 95)), false), ((.cmp .geq (tp n2 (.lit 100)) (.lit 98)), false), ((.cmp .lss (tp n2 (.lit 100)) (.var 15)), false)] (.agg [(.int .i64 (.lit 1)), (.int .i64 (tp n1 (.var 11))), (.int .i64 (.lit 0)), (.int .i64 (.lit 0)), (.int .i64 cp), (.int .i64 (tp n4 (.var 14))), (.int .i64 (tp n5 (.lit 4))), (.int .i64 (.lit 0))]) n5 := by unfold DRun; kernel_rfl
theorem dev6 : DRun [((tRight cp (tp n4 (.var 14)) (.lit 0) (.lit 1)), false), ((tRight cp (tp n4 (.var 14)) (.lit 1) (.lit 0)), false), ((tRight cp (.lit 1) (.lit 0) (.lit 0)), true), ((.cmp .geq (tp n2 (.lit 100)) (.lit 80)), true), ((.cmp .geq (tp n2 (.lit 100)) (.lit 95)), false), ((.cmp .geq (tp n2 (.lit 100)) (.lit 98)), false), ((.cmp .lss (tp n2 (.lit 100)) (.var 15)), false)] (.agg [(.int .i64 (.lit 1)), (.int .i64 (tp n1 (.var 11))), (.int .i64 (.lit 0)), (.int .i64 (.lit 0)), (.int .i64 cp), (.int .i64 (tp n4 (.var 14))), (.int .i64 (.lit 0)), (.int .i64 (.lit 0))]) n4 := by unfold DRun; kernel_rfl
theorem dev7 : DRun [((tRight cp (.lit 0) (tp n4 (.lit 4)) (.lit 1)), false), ((tRight cp (.lit 0) (.lit 1) (.lit 0)), true), ((tRight cp (.lit 1) (.lit 0) (.lit 0)), false), ((.cmp .geq (tp n2 (.lit 100)) (.lit 80)), true), ((.cmp .geq (tp n2 (.lit 100)) (.lit 95)), false), ((.cmp .geq (tp n2 (.lit 100)) (.lit 98)), false), ((.cmp .lss (tp n2 (.lit 100)) (.var 15)), false)] (.agg [(.int .i64 (.lit 1)), (.int .i64 (tp n1 (.var 11))), (.int .i64 (.lit 0)), (.int .i64 (.lit 0)), (.int .i64 cp), (.int .i64 (.lit 0)), (.int .i64 (tp n4 (.lit 4))), (.int .i64 (.lit 0))]) n4 := by unfold DRun; kernel_rfl
theorem dev8 : DRun [((tRight cp (.lit 0) (.lit 0) (.lit 1)), false), ((tRight cp (.lit 0) (.lit 1) (.lit 0)), false), ((tRight cp (.lit 1) (.lit 0) (.lit 0)), false), ((.cmp .geq (tp n2 (.lit 100)) (.lit 80)), true), ((.cmp .geq (tp n2 (.lit 100)) (.lit 95)), false), ((.cmp .geq (tp n2 (.lit 100)) (.lit 98)), false), ((.cmp .lss (tp n2 (.lit 100)) (.var 15)), false)] (.agg [(.int .i64 (.lit 1)), (.int .i64 (tp n1 (.var 11))), (.int .i64 (.lit 0)), (.int .i64 (.lit 0)), (.int .i64 cp), (.int .i64 (.lit 0)), (.int .i64 (.lit 0)), (.int .i64 (.lit 0))]) n3 := by unfold DRun; kernel_rfl
theorem dev9 : DRun [((.cmp .geq (tp n2 (.lit 100)) (.lit 80)), false), ((.cmp .geq (tp n2 (.lit 100)) (.lit 95)), false), ((.cmp .geq (tp n2 (.lit 100)) (.lit 98)), false), ((.cmp .lss (tp n2 (.lit 100)) (.var 15)), false)] (.agg [(.int .i64 (.lit 5)), (.int .i64 (tp n1 (.var 11))), (.int .i64 (.lit 0)), (.int .i64 (.bin .add .i64 (.lit 1) (tp n3 (.var 13)))), (.int .i64 (.lit 0)), (.int .i64 (.lit 0)), (.int .i64 (.lit 0)), (.int .i64 (.lit 0))]) n3 := by unfold DRun; kernel_rfl
set_option maxHeartbeats 1000000 in
theorem dice37 {A E P K S s σ : Int} (h : Rt A E P K S) {w : World} {b : Nat} {ob : Obj} (hb : w.heap[b]? = some ob) (ho : DiceObj A E P K S s σ ob) : Calls Tryz.prog 37 #[.pointer (some ⟨b, 0, none⟩)] w (fun e w' => e = .returned (Ev.val (evS A P K S σ)) ∧ DStep A E P K S s (evS A P K S σ).s b w w') := by
  have ha1 := h.a1; have ha2 := h.a2; have hp1 := h.p1; have hp2 := h.p2; have hk1 := h.k1; have hk2 := h.k2; have hs1 := h.s1; have hs2 := h.s2
  have dens : ∀ ρ' : Env, (envD A E P K S s σ b).Le ρ' → ρ'.F = FE A P K S ∧ (IT.var 2).den ρ' = some σ ∧ (IT.var 11).den ρ' = some A ∧ (IT.var 13).den ρ' = some P ∧ (IT.var 14).den ρ' = some K ∧ (IT.var 15).den ρ' = some S := fun ρ' hle => by
    simp only [IT.den, hle.i, hle.f]; exact ⟨rfl, rfl, rfl, rfl, rfl, rfl⟩
  by_cases c1 : thS (nxS σ) 100 < S
  · by_cases c2 : thS (nxS (nxS σ)) 2 = 1
    ·
      have hev := ev4 (A := A) (P := P) (K := K) (S := S) (s := σ) (by omega) (by omega) 
      refine (d_leaf (τ := (evS A P K S σ).s) (v := Ev.val (evS A P K S σ)) h hb ho dev0 (fun ρ' hle => ?_) (fun ρ' hle => ?_))
      · obtain ⟨hF, d2, dA, dP, dK, dS⟩ := dens ρ' hle
        have e1 : n1.den ρ' = some (nxS σ) := nx_denE hF d2
        have e2 : n2.den ρ' = some (nxS (nxS σ)) := nx_denE hF e1
        have e3 : n3.den ρ' = some (nxS (nxS (nxS σ))) := nx_denE hF e2
        have e4 : n4.den ρ' = some (nxS (nxS (nxS (nxS σ)))) := nx_denE hF e3
        have e5 : n5.den ρ' = some (nxS (nxS (nxS (nxS (nxS σ))))) := nx_denE hF e4
        have e6 : n6.den ρ' = some (nxS (nxS (nxS (nxS (nxS (nxS σ)))))) := nx_denE hF e5
        have tA := tp_den e1 dA (by omega)
        have t1 := tp_den e2 (den_lit 100) (by decide)
        have t2 := tp_den e3 (den_lit 2) (by decide)
        have t3 := tp_den e4 dA (by omega)
        have t4 := tp_den e3 (den_lit 14) (by decide)
        have t5 := tp_den e3 dP (by omega)
        have k3 := tp_den e4 dK (by omega)
        have v3 := tp_den e4 (den_lit 4) (by decide)
        have v4 := tp_den e5 (den_lit 4) (by decide)
        have v5 := tp_den e6 (den_lit 4) (by decide)
        have b14 := thS_bnd (nxS (nxS σ)) (n := 14) (by decide)
        have bP := thS_bnd (nxS (nxS σ)) (n := P) (by omega)
        have bK := thS_bnd (nxS (nxS (nxS σ))) (n := K) (by omega)
        have b3 := thS_bnd (nxS (nxS (nxS σ))) (n := 4) (by decide)
        have b4 := thS_bnd (nxS (nxS (nxS (nxS σ)))) (n := 4) (by decide)
        have dc : cp.den ρ' = some (1 + thS (nxS (nxS σ)) 14) := by
          simp only [cp, IT.den, t4, intBin, Option.some.injEq]; exact wrap_ok (by omega) (by omega)
        have dn : (IT.bin .add .i64 (.lit 1) (tp n3 (.var 13))).den ρ' = some (1 + thS (nxS (nxS σ)) P) := by
          simp only [IT.den, t5, intBin, Option.some.injEq]; exact wrap_ok (by omega) (by omega)
        simp only [CRel_cons, CRel_nil, and_true, BT.den, dS, t1, t2, den_lit, intCmp, Option.some.injEq, decide_eq_true_eq, beq_iff_eq]
        omega
      · obtain ⟨hF, d2, dA, dP, dK, dS⟩ := dens ρ' hle
        have e1 : n1.den ρ' = some (nxS σ) := nx_denE hF d2
        have e2 : n2.den ρ' = some (nxS (nxS σ)) := nx_denE hF e1
        have e3 : n3.den ρ' = some (nxS (nxS (nxS σ))) := nx_denE hF e2
        have e4 : n4.den ρ' = some (nxS (nxS (nxS (nxS σ)))) := nx_denE hF e3
        have e5 : n5.den ρ' = some (nxS (nxS (nxS (nxS (nxS σ))))) := nx_denE hF e4
        have e6 : n6.den ρ' = some (nxS (nxS (nxS (nxS (nxS (nxS σ)))))) := nx_denE hF e5
        have tA := tp_den e1 dA (by omega)
        have t1 := tp_den e2 (den_lit 100) (by decide)
        have t2 := tp_den e3 (den_lit 2) (by decide)
        have t3 := tp_den e4 dA (by omega)
        have t4 := tp_den e3 (den_lit 14) (by decide)
        have t5 := tp_den e3 dP (by omega)
        have k3 := tp_den e4 dK (by omega)
        have v3 := tp_den e4 (den_lit 4) (by decide)
        have v4 := tp_den e5 (den_lit 4) (by decide)
        have v5 := tp_den e6 (den_lit 4) (by decide)
        have b14 := thS_bnd (nxS (nxS σ)) (n := 14) (by decide)
        have bP := thS_bnd (nxS (nxS σ)) (n := P) (by omega)
        have bK := thS_bnd (nxS (nxS (nxS σ))) (n := K) (by omega)
        have b3 := thS_bnd (nxS (nxS (nxS σ))) (n := 4) (by decide)
        have b4 := thS_bnd (nxS (nxS (nxS (nxS σ)))) (n := 4) (by decide)
        have dc : cp.den ρ' = some (1 + thS (nxS (nxS σ)) 14) := by
          simp only [cp, IT.den, t4, intBin, Option.some.injEq]; exact wrap_ok (by omega) (by omega)
        have dn : (IT.bin .add .i64 (.lit 1) (tp n3 (.var 13))).den ρ' = some (1 + thS (nxS (nxS σ)) P) := by
          simp only [IT.den, t5, intBin, Option.some.injEq]; exact wrap_ok (by omega) (by omega)
        rw [hev]
        refine ⟨?_, by first | exact e2 | exact e3 | exact e4 | exact e5 | exact e6⟩
        simp only [AVal.den, AVal.denL, tA, t3, den_lit, Option.map_some]; rfl
    ·
      have hev := ev3 (A := A) (P := P) (K := K) (S := S) (s := σ) (by omega) (by omega) 
      refine (d_leaf (τ := (evS A P K S σ).s) (v := Ev.val (evS A P K S σ)) h hb ho dev1 (fun ρ' hle => ?_) (fun ρ' hle => ?_))
      · obtain ⟨hF, d2, dA, dP, dK, dS⟩ := dens ρ' hle
        have e1 : n1.den ρ' = some (nxS σ) := nx_denE hF d2
        have e2 : n2.den ρ' = some (nxS (nxS σ)) := nx_denE hF e1
        have e3 : n3.den ρ' = some (nxS (nxS (nxS σ))) := nx_denE hF e2
        have e4 : n4.den ρ' = some (nxS (nxS (nxS (nxS σ)))) := nx_denE hF e3
        have e5 : n5.den ρ' = some (nxS (nxS (nxS (nxS (nxS σ))))) := nx_denE hF e4
        have e6 : n6.den ρ' = some (nxS (nxS (nxS (nxS (nxS (nxS σ)))))) := nx_denE hF e5
        have tA := tp_den e1 dA (by omega)
        have t1 := tp_den e2 (den_lit 100) (by decide)
        have t2 := tp_den e3 (den_lit 2) (by decide)
        have t3 := tp_den e4 dA (by omega)
        have t4 := tp_den e3 (den_lit 14) (by decide)
        have t5 := tp_den e3 dP (by omega)
        have k3 := tp_den e4 dK (by omega)
        have v3 := tp_den e4 (den_lit 4) (by decide)
        have v4 := tp_den e5 (den_lit 4) (by decide)
        have v5 := tp_den e6 (den_lit 4) (by decide)
        have b14 := thS_bnd (nxS (nxS σ)) (n := 14) (by decide)
        have bP := thS_bnd (nxS (nxS σ)) (n := P) (by omega)
        have bK := thS_bnd (nxS (nxS (nxS σ))) (n := K) (by omega)
        have b3 := thS_bnd (nxS (nxS (nxS σ))) (n := 4) (by decide)
        have b4 := thS_bnd (nxS (nxS (nxS (nxS σ)))) (n := 4) (by decide)
        have dc : cp.den ρ' = some (1 + thS (nxS (nxS σ)) 14) := by
          simp only [cp, IT.den, t4, intBin, Option.some.injEq]; exact wrap_ok (by omega) (by omega)
        have dn : (IT.bin .add .i64 (.lit 1) (tp n3 (.var 13))).den ρ' = some (1 + thS (nxS (nxS σ)) P) := by
          simp only [IT.den, t5, intBin, Option.some.injEq]; exact wrap_ok (by omega) (by omega)
        simp only [CRel_cons, CRel_nil, and_true, BT.den, dS, t1, t2, den_lit, intCmp, Option.some.injEq, decide_eq_true_eq, beq_eq_false_iff_ne, ne_eq]
        omega
      · obtain ⟨hF, d2, dA, dP, dK, dS⟩ := dens ρ' hle
        have e1 : n1.den ρ' = some (nxS σ) := nx_denE hF d2
        have e2 : n2.den ρ' = some (nxS (nxS σ)) := nx_denE hF e1
        have e3 : n3.den ρ' = some (nxS (nxS (nxS σ))) := nx_denE hF e2
        have e4 : n4.den ρ' = some (nxS (nxS (nxS (nxS σ)))) := nx_denE hF e3
        have e5 : n5.den ρ' = some (nxS (nxS (nxS (nxS (nxS σ))))) := nx_denE hF e4
        have e6 : n6.den ρ' = some (nxS (nxS (nxS (nxS (nxS (nxS σ)))))) := nx_denE hF e5
        have tA := tp_den e1 dA (by omega)
        have t1 := tp_den e2 (den_lit 100) (by decide)
        have t2 := tp_den e3 (den_lit 2) (by decide)
        have t3 := tp_den e4 dA (by omega)
        have t4 := tp_den e3 (den_lit 14) (by decide)
        have t5 := tp_den e3 dP (by omega)
        have k3 := tp_den e4 dK (by omega)
        have v3 := tp_den e4 (den_lit 4) (by decide)
        have v4 := tp_den e5 (den_lit 4) (by decide)
        have v5 := tp_den e6 (den_lit 4) (by decide)
        have b14 := thS_bnd (nxS (nxS σ)) (n := 14) (by decide)
        have bP := thS_bnd (nxS (nxS σ)) (n := P) (by omega)
        have bK := thS_bnd (nxS (nxS (nxS σ))) (n := K) (by omega)
        have b3 := thS_bnd (nxS (nxS (nxS σ))) (n := 4) (by decide)
        have b4 := thS_bnd (nxS (nxS (nxS (nxS σ)))) (n := 4) (by decide)
        have dc : cp.den ρ' = some (1 + thS (nxS (nxS σ)) 14) := by
          simp only [cp, IT.den, t4, intBin, Option.some.injEq]; exact wrap_ok (by omega) (by omega)
        have dn : (IT.bin .add .i64 (.lit 1) (tp n3 (.var 13))).den ρ' = some (1 + thS (nxS (nxS σ)) P) := by
          simp only [IT.den, t5, intBin, Option.some.injEq]; exact wrap_ok (by omega) (by omega)
        rw [hev]
        refine ⟨?_, by first | exact e2 | exact e3 | exact e4 | exact e5 | exact e6⟩
        simp only [AVal.den, AVal.denL, tA, den_lit, Option.map_some]; rfl
  by_cases c3 : 98 ≤ thS (nxS σ) 100
  ·
    have hev := ev2 (A := A) (P := P) (K := K) (S := S) (s := σ) (by omega) (by omega) 
    refine (d_leaf (τ := (evS A P K S σ).s) (v := Ev.val (evS A P K S σ)) h hb ho dev2 (fun ρ' hle => ?_) (fun ρ' hle => ?_))
    · obtain ⟨hF, d2, dA, dP, dK, dS⟩ := dens ρ' hle
      have e1 : n1.den ρ' = some (nxS σ) := nx_denE hF d2
      have e2 : n2.den ρ' = some (nxS (nxS σ)) := nx_denE hF e1
      have e3 : n3.den ρ' = some (nxS (nxS (nxS σ))) := nx_denE hF e2
      have e4 : n4.den ρ' = some (nxS (nxS (nxS (nxS σ)))) := nx_denE hF e3
      have e5 : n5.den ρ' = some (nxS (nxS (nxS (nxS (nxS σ))))) := nx_denE hF e4
      have e6 : n6.den ρ' = some (nxS (nxS (nxS (nxS (nxS (nxS σ)))))) := nx_denE hF e5
      have tA := tp_den e1 dA (by omega)
      have t1 := tp_den e2 (den_lit 100) (by decide)
      have t2 := tp_den e3 (den_lit 2) (by decide)
      have t3 := tp_den e4 dA (by omega)
      have t4 := tp_den e3 (den_lit 14) (by decide)
      have t5 := tp_den e3 dP (by omega)
      have k3 := tp_den e4 dK (by omega)
      have v3 := tp_den e4 (den_lit 4) (by decide)
      have v4 := tp_den e5 (den_lit 4) (by decide)
      have v5 := tp_den e6 (den_lit 4) (by decide)
      have b14 := thS_bnd (nxS (nxS σ)) (n := 14) (by decide)
      have bP := thS_bnd (nxS (nxS σ)) (n := P) (by omega)
      have bK := thS_bnd (nxS (nxS (nxS σ))) (n := K) (by omega)
      have b3 := thS_bnd (nxS (nxS (nxS σ))) (n := 4) (by decide)
      have b4 := thS_bnd (nxS (nxS (nxS (nxS σ)))) (n := 4) (by decide)
      have dc : cp.den ρ' = some (1 + thS (nxS (nxS σ)) 14) := by
        simp only [cp, IT.den, t4, intBin, Option.some.injEq]; exact wrap_ok (by omega) (by omega)
      have dn : (IT.bin .add .i64 (.lit 1) (tp n3 (.var 13))).den ρ' = some (1 + thS (nxS (nxS σ)) P) := by
        simp only [IT.den, t5, intBin, Option.some.injEq]; exact wrap_ok (by omega) (by omega)
      simp only [CRel_cons, CRel_nil, and_true, BT.den, dS, t1, den_lit, intCmp, Option.some.injEq, decide_eq_true_eq, decide_eq_false_iff_not]
      omega
    · obtain ⟨hF, d2, dA, dP, dK, dS⟩ := dens ρ' hle
      have e1 : n1.den ρ' = some (nxS σ) := nx_denE hF d2
      have e2 : n2.den ρ' = some (nxS (nxS σ)) := nx_denE hF e1
      have e3 : n3.den ρ' = some (nxS (nxS (nxS σ))) := nx_denE hF e2
      have e4 : n4.den ρ' = some (nxS (nxS (nxS (nxS σ)))) := nx_denE hF e3
      have e5 : n5.den ρ' = some (nxS (nxS (nxS (nxS (nxS σ))))) := nx_denE hF e4
      have e6 : n6.den ρ' = some (nxS (nxS (nxS (nxS (nxS (nxS σ)))))) := nx_denE hF e5
      have tA := tp_den e1 dA (by omega)
      have t1 := tp_den e2 (den_lit 100) (by decide)
      have t2 := tp_den e3 (den_lit 2) (by decide)
      have t3 := tp_den e4 dA (by omega)
      have t4 := tp_den e3 (den_lit 14) (by decide)
      have t5 := tp_den e3 dP (by omega)
      have k3 := tp_den e4 dK (by omega)
      have v3 := tp_den e4 (den_lit 4) (by decide)
      have v4 := tp_den e5 (den_lit 4) (by decide)
      have v5 := tp_den e6 (den_lit 4) (by decide)
      have b14 := thS_bnd (nxS (nxS σ)) (n := 14) (by decide)
      have bP := thS_bnd (nxS (nxS σ)) (n := P) (by omega)
      have bK := thS_bnd (nxS (nxS (nxS σ))) (n := K) (by omega)
      have b3 := thS_bnd (nxS (nxS (nxS σ))) (n := 4) (by decide)
      have b4 := thS_bnd (nxS (nxS (nxS (nxS σ)))) (n := 4) (by decide)
      have dc : cp.den ρ' = some (1 + thS (nxS (nxS σ)) 14) := by
        simp only [cp, IT.den, t4, intBin, Option.some.injEq]; exact wrap_ok (by omega) (by omega)
      have dn : (IT.bin .add .i64 (.lit 1) (tp n3 (.var 13))).den ρ' = some (1 + thS (nxS (nxS σ)) P) := by
        simp only [IT.den, t5, intBin, Option.some.injEq]; exact wrap_ok (by omega) (by omega)
      rw [hev]
      refine ⟨?_, by first | exact e2 | exact e3 | exact e4 | exact e5 | exact e6⟩
      simp only [AVal.den, AVal.denL, tA, den_lit, Option.map_some]; rfl
  by_cases c4 : 95 ≤ thS (nxS σ) 100
  ·
    have hev := ev0 (A := A) (P := P) (K := K) (S := S) (s := σ) (by omega) (by omega) (by omega) 
    refine (d_leaf (τ := (evS A P K S σ).s) (v := Ev.val (evS A P K S σ)) h hb ho dev3 (fun ρ' hle => ?_) (fun ρ' hle => ?_))
    · obtain ⟨hF, d2, dA, dP, dK, dS⟩ := dens ρ' hle
      have e1 : n1.den ρ' = some (nxS σ) := nx_denE hF d2
      have e2 : n2.den ρ' = some (nxS (nxS σ)) := nx_denE hF e1
      have e3 : n3.den ρ' = some (nxS (nxS (nxS σ))) := nx_denE hF e2
      have e4 : n4.den ρ' = some (nxS (nxS (nxS (nxS σ)))) := nx_denE hF e3
      have e5 : n5.den ρ' = some (nxS (nxS (nxS (nxS (nxS σ))))) := nx_denE hF e4
      have e6 : n6.den ρ' = some (nxS (nxS (nxS (nxS (nxS (nxS σ)))))) := nx_denE hF e5
      have tA := tp_den e1 dA (by omega)
      have t1 := tp_den e2 (den_lit 100) (by decide)
      have t2 := tp_den e3 (den_lit 2) (by decide)
      have t3 := tp_den e4 dA (by omega)
      have t4 := tp_den e3 (den_lit 14) (by decide)
      have t5 := tp_den e3 dP (by omega)
      have k3 := tp_den e4 dK (by omega)
      have v3 := tp_den e4 (den_lit 4) (by decide)
      have v4 := tp_den e5 (den_lit 4) (by decide)
      have v5 := tp_den e6 (den_lit 4) (by decide)
      have b14 := thS_bnd (nxS (nxS σ)) (n := 14) (by decide)
      have bP := thS_bnd (nxS (nxS σ)) (n := P) (by omega)
      have bK := thS_bnd (nxS (nxS (nxS σ))) (n := K) (by omega)
      have b3 := thS_bnd (nxS (nxS (nxS σ))) (n := 4) (by decide)
      have b4 := thS_bnd (nxS (nxS (nxS (nxS σ)))) (n := 4) (by decide)
      have dc : cp.den ρ' = some (1 + thS (nxS (nxS σ)) 14) := by
        simp only [cp, IT.den, t4, intBin, Option.some.injEq]; exact wrap_ok (by omega) (by omega)
      have dn : (IT.bin .add .i64 (.lit 1) (tp n3 (.var 13))).den ρ' = some (1 + thS (nxS (nxS σ)) P) := by
        simp only [IT.den, t5, intBin, Option.some.injEq]; exact wrap_ok (by omega) (by omega)
      simp only [CRel_cons, CRel_nil, and_true, BT.den, dS, t1, den_lit, intCmp, Option.some.injEq, decide_eq_true_eq, decide_eq_false_iff_not]
      omega
    · obtain ⟨hF, d2, dA, dP, dK, dS⟩ := dens ρ' hle
      have e1 : n1.den ρ' = some (nxS σ) := nx_denE hF d2
      have e2 : n2.den ρ' = some (nxS (nxS σ)) := nx_denE hF e1
      have e3 : n3.den ρ' = some (nxS (nxS (nxS σ))) := nx_denE hF e2
      have e4 : n4.den ρ' = some (nxS (nxS (nxS (nxS σ)))) := nx_denE hF e3
      have e5 : n5.den ρ' = some (nxS (nxS (nxS (nxS (nxS σ))))) := nx_denE hF e4
      have e6 : n6.den ρ' = some (nxS (nxS (nxS (nxS (nxS (nxS σ)))))) := nx_denE hF e5
      have tA := tp_den e1 dA (by omega)
      have t1 := tp_den e2 (den_lit 100) (by decide)
      have t2 := tp_den e3 (den_lit 2) (by decide)
      have t3 := tp_den e4 dA (by omega)
      have t4 := tp_den e3 (den_lit 14) (by decide)
      have t5 := tp_den e3 dP (by omega)
      have k3 := tp_den e4 dK (by omega)
      have v3 := tp_den e4 (den_lit 4) (by decide)
      have v4 := tp_den e5 (den_lit 4) (by decide)
      have v5 := tp_den e6 (den_lit 4) (by decide)
      have b14 := thS_bnd (nxS (nxS σ)) (n := 14) (by decide)
      have bP := thS_bnd (nxS (nxS σ)) (n := P) (by omega)
      have bK := thS_bnd (nxS (nxS (nxS σ))) (n := K) (by omega)
      have b3 := thS_bnd (nxS (nxS (nxS σ))) (n := 4) (by decide)
      have b4 := thS_bnd (nxS (nxS (nxS (nxS σ)))) (n := 4) (by decide)
      have dc : cp.den ρ' = some (1 + thS (nxS (nxS σ)) 14) := by
        simp only [cp, IT.den, t4, intBin, Option.some.injEq]; exact wrap_ok (by omega) (by omega)
      have dn : (IT.bin .add .i64 (.lit 1) (tp n3 (.var 13))).den ρ' = some (1 + thS (nxS (nxS σ)) P) := by
        simp only [IT.den, t5, intBin, Option.some.injEq]; exact wrap_ok (by omega) (by omega)
      rw [hev]
      refine ⟨?_, by first | exact e2 | exact e3 | exact e4 | exact e5 | exact e6⟩
      simp only [AVal.den, AVal.denL, tA, den_lit, Option.map_some]; rfl
  by_cases c5 : 80 ≤ thS (nxS σ) 100
  rotate_left
  ·
    have hev := ev5 (A := A) (P := P) (K := K) (S := S) (s := σ) (by omega) (by omega) 
    refine (d_leaf (τ := (evS A P K S σ).s) (v := Ev.val (evS A P K S σ)) h hb ho dev9 (fun ρ' hle => ?_) (fun ρ' hle => ?_))
    · obtain ⟨hF, d2, dA, dP, dK, dS⟩ := dens ρ' hle
      have e1 : n1.den ρ' = some (nxS σ) := nx_denE hF d2
      have e2 : n2.den ρ' = some (nxS (nxS σ)) := nx_denE hF e1
      have e3 : n3.den ρ' = some (nxS (nxS (nxS σ))) := nx_denE hF e2
      have e4 : n4.den ρ' = some (nxS (nxS (nxS (nxS σ)))) := nx_denE hF e3
      have e5 : n5.den ρ' = some (nxS (nxS (nxS (nxS (nxS σ))))) := nx_denE hF e4
      have e6 : n6.den ρ' = some (nxS (nxS (nxS (nxS (nxS (nxS σ)))))) := nx_denE hF e5
      have tA := tp_den e1 dA (by omega)
      have t1 := tp_den e2 (den_lit 100) (by decide)
      have t2 := tp_den e3 (den_lit 2) (by decide)
      have t3 := tp_den e4 dA (by omega)
      have t4 := tp_den e3 (den_lit 14) (by decide)
      have t5 := tp_den e3 dP (by omega)
      have k3 := tp_den e4 dK (by omega)
      have v3 := tp_den e4 (den_lit 4) (by decide)
      have v4 := tp_den e5 (den_lit 4) (by decide)
      have v5 := tp_den e6 (den_lit 4) (by decide)
      have b14 := thS_bnd (nxS (nxS σ)) (n := 14) (by decide)
      have bP := thS_bnd (nxS (nxS σ)) (n := P) (by omega)
      have bK := thS_bnd (nxS (nxS (nxS σ))) (n := K) (by omega)
      have b3 := thS_bnd (nxS (nxS (nxS σ))) (n := 4) (by decide)
      have b4 := thS_bnd (nxS (nxS (nxS (nxS σ)))) (n := 4) (by decide)
      have dc : cp.den ρ' = some (1 + thS (nxS (nxS σ)) 14) := by
        simp only [cp, IT.den, t4, intBin, Option.some.injEq]; exact wrap_ok (by omega) (by omega)
      have dn : (IT.bin .add .i64 (.lit 1) (tp n3 (.var 13))).den ρ' = some (1 + thS (nxS (nxS σ)) P) := by
        simp only [IT.den, t5, intBin, Option.some.injEq]; exact wrap_ok (by omega) (by omega)
      simp only [CRel_cons, CRel_nil, and_true, BT.den, dS, t1, den_lit, intCmp, Option.some.injEq, decide_eq_false_iff_not]
      omega
    · obtain ⟨hF, d2, dA, dP, dK, dS⟩ := dens ρ' hle
      have e1 : n1.den ρ' = some (nxS σ) := nx_denE hF d2
      have e2 : n2.den ρ' = some (nxS (nxS σ)) := nx_denE hF e1
      have e3 : n3.den ρ' = some (nxS (nxS (nxS σ))) := nx_denE hF e2
      have e4 : n4.den ρ' = some (nxS (nxS (nxS (nxS σ)))) := nx_denE hF e3
      have e5 : n5.den ρ' = some (nxS (nxS (nxS (nxS (nxS σ))))) := nx_denE hF e4
      have e6 : n6.den ρ' = some (nxS (nxS (nxS (nxS (nxS (nxS σ)))))) := nx_denE hF e5
      have tA := tp_den e1 dA (by omega)
      have t1 := tp_den e2 (den_lit 100) (by decide)
      have t2 := tp_den e3 (den_lit 2) (by decide)
      have t3 := tp_den e4 dA (by omega)
      have t4 := tp_den e3 (den_lit 14) (by decide)
      have t5 := tp_den e3 dP (by omega)
      have k3 := tp_den e4 dK (by omega)
      have v3 := tp_den e4 (den_lit 4) (by decide)
      have v4 := tp_den e5 (den_lit 4) (by decide)
      have v5 := tp_den e6 (den_lit 4) (by decide)
      have b14 := thS_bnd (nxS (nxS σ)) (n := 14) (by decide)
      have bP := thS_bnd (nxS (nxS σ)) (n := P) (by omega)
      have bK := thS_bnd (nxS (nxS (nxS σ))) (n := K) (by omega)
      have b3 := thS_bnd (nxS (nxS (nxS σ))) (n := 4) (by decide)
      have b4 := thS_bnd (nxS (nxS (nxS (nxS σ)))) (n := 4) (by decide)
      have dc : cp.den ρ' = some (1 + thS (nxS (nxS σ)) 14) := by
        simp only [cp, IT.den, t4, intBin, Option.some.injEq]; exact wrap_ok (by omega) (by omega)
      have dn : (IT.bin .add .i64 (.lit 1) (tp n3 (.var 13))).den ρ' = some (1 + thS (nxS (nxS σ)) P) := by
        simp only [IT.den, t5, intBin, Option.some.injEq]; exact wrap_ok (by omega) (by omega)
      rw [hev]
      refine ⟨?_, by first | exact e2 | exact e3 | exact e4 | exact e5 | exact e6⟩
      simp only [AVal.den, AVal.denL, tA, dn, den_lit, Option.map_some]; rfl
  have b14' := thS_bnd (nxS (nxS σ)) (n := 14) (by decide)
  cases hk : useK (1 + thS (nxS (nxS σ)) 14) <;> cases ha : useA (1 + thS (nxS (nxS σ)) 14) <;> cases hb' : useB (1 + thS (nxS (nxS σ)) 14)
  ·
    have hev := ev1 (A := A) (P := P) (K := K) (S := S) (s := σ) (by omega) (by omega) (by omega) (by omega) rfl (bk := false) (ba := false) (bb := false) hk ha hb'
    simp only [Bool.false_eq_true, if_false] at hev
    have hcb : 1 ≤ 1 + thS (nxS (nxS σ)) 14 ∧ 1 + thS (nxS (nxS σ)) 14 ≤ 14 := by omega
    have bK' := thS_bnd (nxS (nxS (nxS σ))) (n := K) (by omega)
    have b3' := thS_bnd (nxS (nxS (nxS σ))) (n := 4) (by decide)
    have b4' := thS_bnd (nxS (nxS (nxS (nxS σ)))) (n := 4) (by decide)
    have q1 : rightB (1 + thS (nxS (nxS σ)) 14) 1 0 0 = false := (right_k hcb).trans hk
    have q2 := (right_a (y := 0) hcb (by omega) (.inl rfl)).trans ha
    have q3 := (right_b (y := 0) (a := 0) hcb (by omega) (.inl rfl) (by omega) (.inl rfl)).trans hb'
    refine (d_leaf (τ := (evS A P K S σ).s) (v := Ev.val (evS A P K S σ)) h hb ho dev8 (fun ρ' hle => ?_) (fun ρ' hle => ?_))
    · obtain ⟨hF, d2, dA, dP, dK, dS⟩ := dens ρ' hle
      have e1 : n1.den ρ' = some (nxS σ) := nx_denE hF d2
      have e2 : n2.den ρ' = some (nxS (nxS σ)) := nx_denE hF e1
      have e3 : n3.den ρ' = some (nxS (nxS (nxS σ))) := nx_denE hF e2
      have e4 : n4.den ρ' = some (nxS (nxS (nxS (nxS σ)))) := nx_denE hF e3
      have e5 : n5.den ρ' = some (nxS (nxS (nxS (nxS (nxS σ))))) := nx_denE hF e4
      have e6 : n6.den ρ' = some (nxS (nxS (nxS (nxS (nxS (nxS σ)))))) := nx_denE hF e5
      have tA := tp_den e1 dA (by omega)
      have t1 := tp_den e2 (den_lit 100) (by decide)
      have t2 := tp_den e3 (den_lit 2) (by decide)
      have t3 := tp_den e4 dA (by omega)
      have t4 := tp_den e3 (den_lit 14) (by decide)
      have t5 := tp_den e3 dP (by omega)
      have k3 := tp_den e4 dK (by omega)
      have v3 := tp_den e4 (den_lit 4) (by decide)
      have v4 := tp_den e5 (den_lit 4) (by decide)
      have v5 := tp_den e6 (den_lit 4) (by decide)
      have b14 := thS_bnd (nxS (nxS σ)) (n := 14) (by decide)
      have bP := thS_bnd (nxS (nxS σ)) (n := P) (by omega)
      have bK := thS_bnd (nxS (nxS (nxS σ))) (n := K) (by omega)
      have b3 := thS_bnd (nxS (nxS (nxS σ))) (n := 4) (by decide)
      have b4 := thS_bnd (nxS (nxS (nxS (nxS σ)))) (n := 4) (by decide)
      have dc : cp.den ρ' = some (1 + thS (nxS (nxS σ)) 14) := by
        simp only [cp, IT.den, t4, intBin, Option.some.injEq]; exact wrap_ok (by omega) (by omega)
      have dn : (IT.bin .add .i64 (.lit 1) (tp n3 (.var 13))).den ρ' = some (1 + thS (nxS (nxS σ)) P) := by
        simp only [IT.den, t5, intBin, Option.some.injEq]; exact wrap_ok (by omega) (by omega)
      have r1 := tRight_den dc (den_lit 1) (den_lit 0) (den_lit 0)
      have r2 := tRight_den dc (den_lit 0) (den_lit 1) (den_lit 0)
      have r3 := tRight_den dc (den_lit 0) (den_lit 0) (den_lit 1)
      rw [q1] at r1
      rw [q2] at r2
      rw [q3] at r3
      simp only [CRel_cons, CRel_nil, and_true, true_and, BT.den, dS, t1, r1, r2, r3, den_lit, intCmp, Option.some.injEq, decide_eq_true_eq, decide_eq_false_iff_not]
      omega
    · obtain ⟨hF, d2, dA, dP, dK, dS⟩ := dens ρ' hle
      have e1 : n1.den ρ' = some (nxS σ) := nx_denE hF d2
      have e2 : n2.den ρ' = some (nxS (nxS σ)) := nx_denE hF e1
      have e3 : n3.den ρ' = some (nxS (nxS (nxS σ))) := nx_denE hF e2
      have e4 : n4.den ρ' = some (nxS (nxS (nxS (nxS σ)))) := nx_denE hF e3
      have e5 : n5.den ρ' = some (nxS (nxS (nxS (nxS (nxS σ))))) := nx_denE hF e4
      have e6 : n6.den ρ' = some (nxS (nxS (nxS (nxS (nxS (nxS σ)))))) := nx_denE hF e5
      have tA := tp_den e1 dA (by omega)
      have t1 := tp_den e2 (den_lit 100) (by decide)
      have t2 := tp_den e3 (den_lit 2) (by decide)
      have t3 := tp_den e4 dA (by omega)
      have t4 := tp_den e3 (den_lit 14) (by decide)
      have t5 := tp_den e3 dP (by omega)
      have k3 := tp_den e4 dK (by omega)
      have v3 := tp_den e4 (den_lit 4) (by decide)
      have v4 := tp_den e5 (den_lit 4) (by decide)
      have v5 := tp_den e6 (den_lit 4) (by decide)
      have b14 := thS_bnd (nxS (nxS σ)) (n := 14) (by decide)
      have bP := thS_bnd (nxS (nxS σ)) (n := P) (by omega)
      have bK := thS_bnd (nxS (nxS (nxS σ))) (n := K) (by omega)
      have b3 := thS_bnd (nxS (nxS (nxS σ))) (n := 4) (by decide)
      have b4 := thS_bnd (nxS (nxS (nxS (nxS σ)))) (n := 4) (by decide)
      have dc : cp.den ρ' = some (1 + thS (nxS (nxS σ)) 14) := by
        simp only [cp, IT.den, t4, intBin, Option.some.injEq]; exact wrap_ok (by omega) (by omega)
      have dn : (IT.bin .add .i64 (.lit 1) (tp n3 (.var 13))).den ρ' = some (1 + thS (nxS (nxS σ)) P) := by
        simp only [IT.den, t5, intBin, Option.some.injEq]; exact wrap_ok (by omega) (by omega)
      rw [hev]
      refine ⟨?_, by first | exact e2 | exact e3 | exact e4 | exact e5 | exact e6⟩
      simp only [AVal.den, AVal.denL, tA, dc, den_lit, Option.map_some]; rfl
  · simp only [useK, useA, useB, decide_eq_true_eq, decide_eq_false_iff_not] at hk ha hb'; omega
  ·
    have hev := ev1 (A := A) (P := P) (K := K) (S := S) (s := σ) (by omega) (by omega) (by omega) (by omega) rfl (bk := false) (ba := true) (bb := false) hk ha hb'
    simp only [if_true, Bool.false_eq_true, if_false] at hev
    have hcb : 1 ≤ 1 + thS (nxS (nxS σ)) 14 ∧ 1 + thS (nxS (nxS σ)) 14 ≤ 14 := by omega
    have bK' := thS_bnd (nxS (nxS (nxS σ))) (n := K) (by omega)
    have b3' := thS_bnd (nxS (nxS (nxS σ))) (n := 4) (by decide)
    have b4' := thS_bnd (nxS (nxS (nxS (nxS σ)))) (n := 4) (by decide)
    have q1 : rightB (1 + thS (nxS (nxS σ)) 14) 1 0 0 = false := (right_k hcb).trans hk
    have q2 := (right_a (y := 0) hcb (by omega) (.inl rfl)).trans ha
    have q3 := (right_b (y := 0) (a := thS (nxS (nxS (nxS σ))) 4) hcb (by omega) (.inl rfl) (by omega) (.inr ha)).trans hb'
    refine (d_leaf (τ := (evS A P K S σ).s) (v := Ev.val (evS A P K S σ)) h hb ho dev7 (fun ρ' hle => ?_) (fun ρ' hle => ?_))
    · obtain ⟨hF, d2, dA, dP, dK, dS⟩ := dens ρ' hle
      have e1 : n1.den ρ' = some (nxS σ) := nx_denE hF d2
      have e2 : n2.den ρ' = some (nxS (nxS σ)) := nx_denE hF e1
      have e3 : n3.den ρ' = some (nxS (nxS (nxS σ))) := nx_denE hF e2
      have e4 : n4.den ρ' = some (nxS (nxS (nxS (nxS σ)))) := nx_denE hF e3
      have e5 : n5.den ρ' = some (nxS (nxS (nxS (nxS (nxS σ))))) := nx_denE hF e4
      have e6 : n6.den ρ' = some (nxS (nxS (nxS (nxS (nxS (nxS σ)))))) := nx_denE hF e5
      have tA := tp_den e1 dA (by omega)
      have t1 := tp_den e2 (den_lit 100) (by decide)
      have t2 := tp_den e3 (den_lit 2) (by decide)
      have t3 := tp_den e4 dA (by omega)
      have t4 := tp_den e3 (den_lit 14) (by decide)
      have t5 := tp_den e3 dP (by omega)
      have k3 := tp_den e4 dK (by omega)
      have v3 := tp_den e4 (den_lit 4) (by decide)
      have v4 := tp_den e5 (den_lit 4) (by decide)
      have v5 := tp_den e6 (den_lit 4) (by decide)
      have b14 := thS_bnd (nxS (nxS σ)) (n := 14) (by decide)
      have bP := thS_bnd (nxS (nxS σ)) (n := P) (by omega)
      have bK := thS_bnd (nxS (nxS (nxS σ))) (n := K) (by omega)
      have b3 := thS_bnd (nxS (nxS (nxS σ))) (n := 4) (by decide)
      have b4 := thS_bnd (nxS (nxS (nxS (nxS σ)))) (n := 4) (by decide)
      have dc : cp.den ρ' = some (1 + thS (nxS (nxS σ)) 14) := by
        simp only [cp, IT.den, t4, intBin, Option.some.injEq]; exact wrap_ok (by omega) (by omega)
      have dn : (IT.bin .add .i64 (.lit 1) (tp n3 (.var 13))).den ρ' = some (1 + thS (nxS (nxS σ)) P) := by
        simp only [IT.den, t5, intBin, Option.some.injEq]; exact wrap_ok (by omega) (by omega)
      have r1 := tRight_den dc (den_lit 1) (den_lit 0) (den_lit 0)
      have r2 := tRight_den dc (den_lit 0) (den_lit 1) (den_lit 0)
      have r3 := tRight_den dc (den_lit 0) v3 (den_lit 1)
      rw [q1] at r1
      rw [q2] at r2
      rw [q3] at r3
      simp only [CRel_cons, CRel_nil, and_true, true_and, BT.den, dS, t1, r1, r2, r3, den_lit, intCmp, Option.some.injEq, decide_eq_true_eq, decide_eq_false_iff_not]
      omega
    · obtain ⟨hF, d2, dA, dP, dK, dS⟩ := dens ρ' hle
      have e1 : n1.den ρ' = some (nxS σ) := nx_denE hF d2
      have e2 : n2.den ρ' = some (nxS (nxS σ)) := nx_denE hF e1
      have e3 : n3.den ρ' = some (nxS (nxS (nxS σ))) := nx_denE hF e2
      have e4 : n4.den ρ' = some (nxS (nxS (nxS (nxS σ)))) := nx_denE hF e3
      have e5 : n5.den ρ' = some (nxS (nxS (nxS (nxS (nxS σ))))) := nx_denE hF e4
      have e6 : n6.den ρ' = some (nxS (nxS (nxS (nxS (nxS (nxS σ)))))) := nx_denE hF e5
      have tA := tp_den e1 dA (by omega)
      have t1 := tp_den e2 (den_lit 100) (by decide)
      have t2 := tp_den e3 (den_lit 2) (by decide)
      have t3 := tp_den e4 dA (by omega)
      have t4 := tp_den e3 (den_lit 14) (by decide)
      have t5 := tp_den e3 dP (by omega)
      have k3 := tp_den e4 dK (by omega)
      have v3 := tp_den e4 (den_lit 4) (by decide)
      have v4 := tp_den e5 (den_lit 4) (by decide)
      have v5 := tp_den e6 (den_lit 4) (by decide)
      have b14 := thS_bnd (nxS (nxS σ)) (n := 14) (by decide)
      have bP := thS_bnd (nxS (nxS σ)) (n := P) (by omega)
      have bK := thS_bnd (nxS (nxS (nxS σ))) (n := K) (by omega)
      have b3 := thS_bnd (nxS (nxS (nxS σ))) (n := 4) (by decide)
      have b4 := thS_bnd (nxS (nxS (nxS (nxS σ)))) (n := 4) (by decide)
      have dc : cp.den ρ' = some (1 + thS (nxS (nxS σ)) 14) := by
        simp only [cp, IT.den, t4, intBin, Option.some.injEq]; exact wrap_ok (by omega) (by omega)
      have dn : (IT.bin .add .i64 (.lit 1) (tp n3 (.var 13))).den ρ' = some (1 + thS (nxS (nxS σ)) P) := by
        simp only [IT.den, t5, intBin, Option.some.injEq]; exact wrap_ok (by omega) (by omega)
      rw [hev]
      refine ⟨?_, by first | exact e2 | exact e3 | exact e4 | exact e5 | exact e6⟩
      simp only [AVal.den, AVal.denL, tA, v3, dc, den_lit, Option.map_some]; rfl
  · simp only [useK, useA, useB, decide_eq_true_eq, decide_eq_false_iff_not] at hk ha hb'; omega
  ·
    have hev := ev1 (A := A) (P := P) (K := K) (S := S) (s := σ) (by omega) (by omega) (by omega) (by omega) rfl (bk := true) (ba := false) (bb := false) hk ha hb'
    simp only [if_true, Bool.false_eq_true, if_false] at hev
    have hcb : 1 ≤ 1 + thS (nxS (nxS σ)) 14 ∧ 1 + thS (nxS (nxS σ)) 14 ≤ 14 := by omega
    have bK' := thS_bnd (nxS (nxS (nxS σ))) (n := K) (by omega)
    have b3' := thS_bnd (nxS (nxS (nxS σ))) (n := 4) (by decide)
    have b4' := thS_bnd (nxS (nxS (nxS (nxS σ)))) (n := 4) (by decide)
    have q1 : rightB (1 + thS (nxS (nxS σ)) 14) 1 0 0 = true := (right_k hcb).trans hk
    have q2 := (right_a (y := thS (nxS (nxS (nxS σ))) K) hcb (by omega) (.inr hk)).trans ha
    have q3 := (right_b (y := thS (nxS (nxS (nxS σ))) K) (a := 0) hcb (by omega) (.inr hk) (by omega) (.inl rfl)).trans hb'
    refine (d_leaf (τ := (evS A P K S σ).s) (v := Ev.val (evS A P K S σ)) h hb ho dev6 (fun ρ' hle => ?_) (fun ρ' hle => ?_))
    · obtain ⟨hF, d2, dA, dP, dK, dS⟩ := dens ρ' hle
      have e1 : n1.den ρ' = some (nxS σ) := nx_denE hF d2
      have e2 : n2.den ρ' = some (nxS (nxS σ)) := nx_denE hF e1
      have e3 : n3.den ρ' = some (nxS (nxS (nxS σ))) := nx_denE hF e2
      have e4 : n4.den ρ' = some (nxS (nxS (nxS (nxS σ)))) := nx_denE hF e3
      have e5 : n5.den ρ' = some (nxS (nxS (nxS (nxS (nxS σ))))) := nx_denE hF e4
      have e6 : n6.den ρ' = some (nxS (nxS (nxS (nxS (nxS (nxS σ)))))) := nx_denE hF e5
      have tA := tp_den e1 dA (by omega)
      have t1 := tp_den e2 (den_lit 100) (by decide)
      have t2 := tp_den e3 (den_lit 2) (by decide)
      have t3 := tp_den e4 dA (by omega)
      have t4 := tp_den e3 (den_lit 14) (by decide)
      have t5 := tp_den e3 dP (by omega)
      have k3 := tp_den e4 dK (by omega)
      have v3 := tp_den e4 (den_lit 4) (by decide)
      have v4 := tp_den e5 (den_lit 4) (by decide)
      have v5 := tp_den e6 (den_lit 4) (by decide)
      have b14 := thS_bnd (nxS (nxS σ)) (n := 14) (by decide)
      have bP := thS_bnd (nxS (nxS σ)) (n := P) (by omega)
      have bK := thS_bnd (nxS (nxS (nxS σ))) (n := K) (by omega)
      have b3 := thS_bnd (nxS (nxS (nxS σ))) (n := 4) (by decide)
      have b4 := thS_bnd (nxS (nxS (nxS (nxS σ)))) (n := 4) (by decide)
      have dc : cp.den ρ' = some (1 + thS (nxS (nxS σ)) 14) := by
        simp only [cp, IT.den, t4, intBin, Option.some.injEq]; exact wrap_ok (by omega) (by omega)
      have dn : (IT.bin .add .i64 (.lit 1) (tp n3 (.var 13))).den ρ' = some (1 + thS (nxS (nxS σ)) P) := by
        simp only [IT.den, t5, intBin, Option.some.injEq]; exact wrap_ok (by omega) (by omega)
      have r1 := tRight_den dc (den_lit 1) (den_lit 0) (den_lit 0)
      have r2 := tRight_den dc k3 (den_lit 1) (den_lit 0)
      have r3 := tRight_den dc k3 (den_lit 0) (den_lit 1)
      rw [q1] at r1
      rw [q2] at r2
      rw [q3] at r3
      simp only [CRel_cons, CRel_nil, and_true, true_and, BT.den, dS, t1, r1, r2, r3, den_lit, intCmp, Option.some.injEq, decide_eq_true_eq, decide_eq_false_iff_not]
      omega
    · obtain ⟨hF, d2, dA, dP, dK, dS⟩ := dens ρ' hle
      have e1 : n1.den ρ' = some (nxS σ) := nx_denE hF d2
      have e2 : n2.den ρ' = some (nxS (nxS σ)) := nx_denE hF e1
      have e3 : n3.den ρ' = some (nxS (nxS (nxS σ))) := nx_denE hF e2
      have e4 : n4.den ρ' = some (nxS (nxS (nxS (nxS σ)))) := nx_denE hF e3
      have e5 : n5.den ρ' = some (nxS (nxS (nxS (nxS (nxS σ))))) := nx_denE hF e4
      have e6 : n6.den ρ' = some (nxS (nxS (nxS (nxS (nxS (nxS σ)))))) := nx_denE hF e5
      have tA := tp_den e1 dA (by omega)
      have t1 := tp_den e2 (den_lit 100) (by decide)
      have t2 := tp_den e3 (den_lit 2) (by decide)
      have t3 := tp_den e4 dA (by omega)
      have t4 := tp_den e3 (den_lit 14) (by decide)
      have t5 := tp_den e3 dP (by omega)
      have k3 := tp_den e4 dK (by omega)
      have v3 := tp_den e4 (den_lit 4) (by decide)
      have v4 := tp_den e5 (den_lit 4) (by decide)
      have v5 := tp_den e6 (den_lit 4) (by decide)
      have b14 := thS_bnd (nxS (nxS σ)) (n := 14) (by decide)
      have bP := thS_bnd (nxS (nxS σ)) (n := P) (by omega)
      have bK := thS_bnd (nxS (nxS (nxS σ))) (n := K) (by omega)
      have b3 := thS_bnd (nxS (nxS (nxS σ))) (n := 4) (by decide)
      have b4 := thS_bnd (nxS (nxS (nxS (nxS σ)))) (n := 4) (by decide)
      have dc : cp.den ρ' = some (1 + thS (nxS (nxS σ)) 14) := by
        simp only [cp, IT.den, t4, intBin, Option.some.injEq]; exact wrap_ok (by omega) (by omega)
      have dn : (IT.bin .add .i64 (.lit 1) (tp n3 (.var 13))).den ρ' = some (1 + thS (nxS (nxS σ)) P) := by
        simp only [IT.den, t5, intBin, Option.some.injEq]; exact wrap_ok (by omega) (by omega)
      rw [hev]
      refine ⟨?_, by first | exact e2 | exact e3 | exact e4 | exact e5 | exact e6⟩
      simp only [AVal.den, AVal.denL, tA, k3, dc, den_lit, Option.map_some]; rfl
  · simp only [useK, useA, useB, decide_eq_true_eq, decide_eq_false_iff_not] at hk ha hb'; omega
  ·
    have hev := ev1 (A := A) (P := P) (K := K) (S := S) (s := σ) (by omega) (by omega) (by omega) (by omega) rfl (bk := true) (ba := true) (bb := false) hk ha hb'
    simp only [if_true, Bool.false_eq_true, if_false] at hev
    have hcb : 1 ≤ 1 + thS (nxS (nxS σ)) 14 ∧ 1 + thS (nxS (nxS σ)) 14 ≤ 14 := by omega
    have bK' := thS_bnd (nxS (nxS (nxS σ))) (n := K) (by omega)
    have b3' := thS_bnd (nxS (nxS (nxS σ))) (n := 4) (by decide)
    have b4' := thS_bnd (nxS (nxS (nxS (nxS σ)))) (n := 4) (by decide)
    have q1 : rightB (1 + thS (nxS (nxS σ)) 14) 1 0 0 = true := (right_k hcb).trans hk
    have q2 := (right_a (y := thS (nxS (nxS (nxS σ))) K) hcb (by omega) (.inr hk)).trans ha
    have q3 := (right_b (y := thS (nxS (nxS (nxS σ))) K) (a := thS (nxS (nxS (nxS (nxS σ)))) 4) hcb (by omega) (.inr hk) (by omega) (.inr ha)).trans hb'
    refine (d_leaf (τ := (evS A P K S σ).s) (v := Ev.val (evS A P K S σ)) h hb ho dev5 (fun ρ' hle => ?_) (fun ρ' hle => ?_))
    · obtain ⟨hF, d2, dA, dP, dK, dS⟩ := dens ρ' hle
      have e1 : n1.den ρ' = some (nxS σ) := nx_denE hF d2
      have e2 : n2.den ρ' = some (nxS (nxS σ)) := nx_denE hF e1
      have e3 : n3.den ρ' = some (nxS (nxS (nxS σ))) := nx_denE hF e2
      have e4 : n4.den ρ' = some (nxS (nxS (nxS (nxS σ)))) := nx_denE hF e3
      have e5 : n5.den ρ' = some (nxS (nxS (nxS (nxS (nxS σ))))) := nx_denE hF e4
      have e6 : n6.den ρ' = some (nxS (nxS (nxS (nxS (nxS (nxS σ)))))) := nx_denE hF e5
      have tA := tp_den e1 dA (by omega)
      have t1 := tp_den e2 (den_lit 100) (by decide)
      have t2 := tp_den e3 (den_lit 2) (by decide)
      have t3 := tp_den e4 dA (by omega)
      have t4 := tp_den e3 (den_lit 14) (by decide)
      have t5 := tp_den e3 dP (by omega)
      have k3 := tp_den e4 dK (by omega)
      have v3 := tp_den e4 (den_lit 4) (by decide)
      have v4 := tp_den e5 (den_lit 4) (by decide)
      have v5 := tp_den e6 (den_lit 4) (by decide)
      have b14 := thS_bnd (nxS (nxS σ)) (n := 14) (by decide)
      have bP := thS_bnd (nxS (nxS σ)) (n := P) (by omega)
      have bK := thS_bnd (nxS (nxS (nxS σ))) (n := K) (by omega)
      have b3 := thS_bnd (nxS (nxS (nxS σ))) (n := 4) (by decide)
      have b4 := thS_bnd (nxS (nxS (nxS (nxS σ)))) (n := 4) (by decide)
      have dc : cp.den ρ' = some (1 + thS (nxS (nxS σ)) 14) := by
        simp only [cp, IT.den, t4, intBin, Option.some.injEq]; exact wrap_ok (by omega) (by omega)
      have dn : (IT.bin .add .i64 (.lit 1) (tp n3 (.var 13))).den ρ' = some (1 + thS (nxS (nxS σ)) P) := by
        simp only [IT.den, t5, intBin, Option.some.injEq]; exact wrap_ok (by omega) (by omega)
      have r1 := tRight_den dc (den_lit 1) (den_lit 0) (den_lit 0)
      have r2 := tRight_den dc k3 (den_lit 1) (den_lit 0)
      have r3 := tRight_den dc k3 v4 (den_lit 1)
      rw [q1] at r1
      rw [q2] at r2
      rw [q3] at r3
      simp only [CRel_cons, CRel_nil, and_true, true_and, BT.den, dS, t1, r1, r2, r3, den_lit, intCmp, Option.some.injEq, decide_eq_true_eq, decide_eq_false_iff_not]
      omega
    · obtain ⟨hF, d2, dA, dP, dK, dS⟩ := dens ρ' hle
      have e1 : n1.den ρ' = some (nxS σ) := nx_denE hF d2
      have e2 : n2.den ρ' = some (nxS (nxS σ)) := nx_denE hF e1
      have e3 : n3.den ρ' = some (nxS (nxS (nxS σ))) := nx_denE hF e2
      have e4 : n4.den ρ' = some (nxS (nxS (nxS (nxS σ)))) := nx_denE hF e3
      have e5 : n5.den ρ' = some (nxS (nxS (nxS (nxS (nxS σ))))) := nx_denE hF e4
      have e6 : n6.den ρ' = some (nxS (nxS (nxS (nxS (nxS (nxS σ)))))) := nx_denE hF e5
      have tA := tp_den e1 dA (by omega)
      have t1 := tp_den e2 (den_lit 100) (by decide)
      have t2 := tp_den e3 (den_lit 2) (by decide)
      have t3 := tp_den e4 dA (by omega)
      have t4 := tp_den e3 (den_lit 14) (by decide)
      have t5 := tp_den e3 dP (by omega)
      have k3 := tp_den e4 dK (by omega)
      have v3 := tp_den e4 (den_lit 4) (by decide)
      have v4 := tp_den e5 (den_lit 4) (by decide)
      have v5 := tp_den e6 (den_lit 4) (by decide)
      have b14 := thS_bnd (nxS (nxS σ)) (n := 14) (by decide)
      have bP := thS_bnd (nxS (nxS σ)) (n := P) (by omega)
      have bK := thS_bnd (nxS (nxS (nxS σ))) (n := K) (by omega)
      have b3 := thS_bnd (nxS (nxS (nxS σ))) (n := 4) (by decide)
      have b4 := thS_bnd (nxS (nxS (nxS (nxS σ)))) (n := 4) (by decide)
      have dc : cp.den ρ' = some (1 + thS (nxS (nxS σ)) 14) := by
        simp only [cp, IT.den, t4, intBin, Option.some.injEq]; exact wrap_ok (by omega) (by omega)
      have dn : (IT.bin .add .i64 (.lit 1) (tp n3 (.var 13))).den ρ' = some (1 + thS (nxS (nxS σ)) P) := by
        simp only [IT.den, t5, intBin, Option.some.injEq]; exact wrap_ok (by omega) (by omega)
      rw [hev]
      refine ⟨?_, by first | exact e2 | exact e3 | exact e4 | exact e5 | exact e6⟩
      simp only [AVal.den, AVal.denL, tA, k3, v4, dc, den_lit, Option.map_some]; rfl
  ·
    have hev := ev1 (A := A) (P := P) (K := K) (S := S) (s := σ) (by omega) (by omega) (by omega) (by omega) rfl (bk := true) (ba := true) (bb := true) hk ha hb'
    simp only [if_true] at hev
    have hcb : 1 ≤ 1 + thS (nxS (nxS σ)) 14 ∧ 1 + thS (nxS (nxS σ)) 14 ≤ 14 := by omega
    have bK' := thS_bnd (nxS (nxS (nxS σ))) (n := K) (by omega)
    have b3' := thS_bnd (nxS (nxS (nxS σ))) (n := 4) (by decide)
    have b4' := thS_bnd (nxS (nxS (nxS (nxS σ)))) (n := 4) (by decide)
    have q1 : rightB (1 + thS (nxS (nxS σ)) 14) 1 0 0 = true := (right_k hcb).trans hk
    have q2 := (right_a (y := thS (nxS (nxS (nxS σ))) K) hcb (by omega) (.inr hk)).trans ha
    have q3 := (right_b (y := thS (nxS (nxS (nxS σ))) K) (a := thS (nxS (nxS (nxS (nxS σ)))) 4) hcb (by omega) (.inr hk) (by omega) (.inr ha)).trans hb'
    refine (d_leaf (τ := (evS A P K S σ).s) (v := Ev.val (evS A P K S σ)) h hb ho dev4 (fun ρ' hle => ?_) (fun ρ' hle => ?_))
    · obtain ⟨hF, d2, dA, dP, dK, dS⟩ := dens ρ' hle
      have e1 : n1.den ρ' = some (nxS σ) := nx_denE hF d2
      have e2 : n2.den ρ' = some (nxS (nxS σ)) := nx_denE hF e1
      have e3 : n3.den ρ' = some (nxS (nxS (nxS σ))) := nx_denE hF e2
      have e4 : n4.den ρ' = some (nxS (nxS (nxS (nxS σ)))) := nx_denE hF e3
      have e5 : n5.den ρ' = some (nxS (nxS (nxS (nxS (nxS σ))))) := nx_denE hF e4
      have e6 : n6.den ρ' = some (nxS (nxS (nxS (nxS (nxS (nxS σ)))))) := nx_denE hF e5
      have tA := tp_den e1 dA (by omega)
      have t1 := tp_den e2 (den_lit 100) (by decide)
      have t2 := tp_den e3 (den_lit 2) (by decide)
      have t3 := tp_den e4 dA (by omega)
      have t4 := tp_den e3 (den_lit 14) (by decide)
      have t5 := tp_den e3 dP (by omega)
      have k3 := tp_den e4 dK (by omega)
      have v3 := tp_den e4 (den_lit 4) (by decide)
      have v4 := tp_den e5 (den_lit 4) (by decide)
      have v5 := tp_den e6 (den_lit 4) (by decide)
      have b14 := thS_bnd (nxS (nxS σ)) (n := 14) (by decide)
      have bP := thS_bnd (nxS (nxS σ)) (n := P) (by omega)
      have bK := thS_bnd (nxS (nxS (nxS σ))) (n := K) (by omega)
      have b3 := thS_bnd (nxS (nxS (nxS σ))) (n := 4) (by decide)
      have b4 := thS_bnd (nxS (nxS (nxS (nxS σ)))) (n := 4) (by decide)
      have dc : cp.den ρ' = some (1 + thS (nxS (nxS σ)) 14) := by
        simp only [cp, IT.den, t4, intBin, Option.some.injEq]; exact wrap_ok (by omega) (by omega)
      have dn : (IT.bin .add .i64 (.lit 1) (tp n3 (.var 13))).den ρ' = some (1 + thS (nxS (nxS σ)) P) := by
        simp only [IT.den, t5, intBin, Option.some.injEq]; exact wrap_ok (by omega) (by omega)
      have r1 := tRight_den dc (den_lit 1) (den_lit 0) (den_lit 0)
      have r2 := tRight_den dc k3 (den_lit 1) (den_lit 0)
      have r3 := tRight_den dc k3 v4 (den_lit 1)
      rw [q1] at r1
      rw [q2] at r2
      rw [q3] at r3
      simp only [CRel_cons, CRel_nil, and_true, true_and, BT.den, dS, t1, r1, r2, r3, den_lit, intCmp, Option.some.injEq, decide_eq_true_eq, decide_eq_false_iff_not]
      omega
    · obtain ⟨hF, d2, dA, dP, dK, dS⟩ := dens ρ' hle
      have e1 : n1.den ρ' = some (nxS σ) := nx_denE hF d2
      have e2 : n2.den ρ' = some (nxS (nxS σ)) := nx_denE hF e1
      have e3 : n3.den ρ' = some (nxS (nxS (nxS σ))) := nx_denE hF e2
      have e4 : n4.den ρ' = some (nxS (nxS (nxS (nxS σ)))) := nx_denE hF e3
      have e5 : n5.den ρ' = some (nxS (nxS (nxS (nxS (nxS σ))))) := nx_denE hF e4
      have e6 : n6.den ρ' = some (nxS (nxS (nxS (nxS (nxS (nxS σ)))))) := nx_denE hF e5
      have tA := tp_den e1 dA (by omega)
      have t1 := tp_den e2 (den_lit 100) (by decide)
      have t2 := tp_den e3 (den_lit 2) (by decide)
      have t3 := tp_den e4 dA (by omega)
      have t4 := tp_den e3 (den_lit 14) (by decide)
      have t5 := tp_den e3 dP (by omega)
      have k3 := tp_den e4 dK (by omega)
      have v3 := tp_den e4 (den_lit 4) (by decide)
      have v4 := tp_den e5 (den_lit 4) (by decide)
      have v5 := tp_den e6 (den_lit 4) (by decide)
      have b14 := thS_bnd (nxS (nxS σ)) (n := 14) (by decide)
      have bP := thS_bnd (nxS (nxS σ)) (n := P) (by omega)
      have bK := thS_bnd (nxS (nxS (nxS σ))) (n := K) (by omega)
      have b3 := thS_bnd (nxS (nxS (nxS σ))) (n := 4) (by decide)
      have b4 := thS_bnd (nxS (nxS (nxS (nxS σ)))) (n := 4) (by decide)
      have dc : cp.den ρ' = some (1 + thS (nxS (nxS σ)) 14) := by
        simp only [cp, IT.den, t4, intBin, Option.some.injEq]; exact wrap_ok (by omega) (by omega)
      have dn : (IT.bin .add .i64 (.lit 1) (tp n3 (.var 13))).den ρ' = some (1 + thS (nxS (nxS σ)) P) := by
        simp only [IT.den, t5, intBin, Option.some.injEq]; exact wrap_ok (by omega) (by omega)
      rw [hev]
      refine ⟨?_, by first | exact e2 | exact e3 | exact e4 | exact e5 | exact e6⟩
      simp only [AVal.den, AVal.denL, tA, k3, v4, v5, dc, den_lit, Option.map_some]; rfl
def spDice : SpG := fun args H nl cs => match args with
  | [.ptr l o] => cond (IT.beq o (.lit 0)) (match H.get l with
    | some ⟨.cells (.int .i64 t :: r) 63 none, true⟩ => cond (isP6 r) (some [.ret (.agg [ef t 1, ef t 2, ef t 3, ef t 4, ef t 5, ef t 6, ef t 7, ef t 8]) (H.set l ⟨.cells (ef t 0 :: pcells) 63 none, true⟩) nl cs]) none
    | _ => none) none
  | _ => none
theorem spDice_ok {A E P K S s : Int} (w0 : World) (h : Rt A E P K S) : SpGOk Tryz.prog ⟨w0, [], NumP A E P K S s⟩ 37 spDice := by
  intro args H nl cs ls ρ w xs hr hx hh hc
  unfold spDice at hr
  split at hr
  rotate_left
  · cases hr
  rename_i l o
  cases hbo : IT.beq o (.lit 0) with
  | false => rw [hbo] at hr; cases hr
  | true =>
  rw [hbo] at hr
  simp only [cond_true] at hr
  obtain rfl := IT.beq_eq hbo
  split at hr
  rotate_left
  · cases hr
  rename_i t r hl
  cases hp : isP6 r with
  | false => rw [hp] at hr; cases hr
  | true =>
    rw [hp] at hr
    simp only [cond_true, Option.some.injEq] at hr
    subst hr
    obtain rfl := AVal.beqL_eq _ _ hp
    have hG : (NumP A E P K S s).at ρ := hh.g
    have hF : ρ.F = FE A P K S := hG.2.2.2.2.2.2
    obtain ⟨b, ob, hN, hob, hk⟩ := hh.blk l _ hl
    have hk0 : (diceB t).k.rel ρ (diceB t).rw ob := hk
    obtain ⟨x, ht⟩ : ∃ x, t.den ρ = some x := by
      obtain ⟨ys, _, _, _, hd, _⟩ := hk
      unfold AVal.denL at hd
      simp only [AVal.den] at hd
      cases ht : t.den ρ with
      | none => rw [ht] at hd; cases hd
      | some x => exact ⟨x, rfl⟩
    have hx1 : xs = [.pointer (some ⟨b, 0, none⟩)] := by
      have h0 : natOf ((IT.lit 0).den ρ) = some 0 := rfl
      simp only [AVal.denL, AVal.den, hN, h0, Option.some.injEq] at hx
      exact hx.symm
    subst hx1
    refine (dice37 h hob (dice_of hG ht hk0)).mono fun e w2 ⟨he, hs⟩ => ⟨_, he, _, _, _, _, ρ, List.mem_cons_self, Env.Le.refl ρ, ev_den hF ht, ?_, hc⟩
    obtain ⟨o', ho', hd'⟩ := hs.obj
    have hw := hh.write (k' := diceB (.fn (60 + 0) t (.lit 0))) (w' := { w with heap := w.heap.setIfInBounds b o' }) hl rfl hN (dice_rel hG (ef_den hF ht 0) hd') rfl rfl rfl rfl
    have hblt : b < w.heap.size := (Array.getElem?_eq_some_iff.1 hob).1
    refine hw.framed ⟨by show (w.heap.setIfInBounds b o').size ≤ _; rw [Array.size_setIfInBounds]; exact hs.size, fun c hcl => ?_, hs.tape, hs.os, hs.out⟩
    show w2.heap[c]? = (w.heap.setIfInBounds b o')[c]?
    by_cases hcb : c = b
    · subst hcb; rw [ho']; simp [hblt]
    · have hcl' : c < w.heap.size := by
        have h3 : c < (w.heap.setIfInBounds b o').size := hcl
        rwa [Array.size_setIfInBounds] at h3
      rw [hs.frame c hcl' hcb, Array.getElem?_setIfInBounds]
      rw [if_neg (fun e => hcb e.symm)]
def sppE : CallF := spL [(37, spDice)]
theorem sppE_ok {A E P K S s : Int} (w : World) (h : Rt A E P K S) : CallOk Tryz.prog ⟨w, [], NumP A E P K S s⟩ sppE := by
  refine spL_ok fun p hp => ?_
  simp only [List.mem_cons, List.not_mem_nil, or_false] at hp
  obtain rfl := hp
  exact spDice_ok w h
def EvRowP (A E P K S s : Int) (W : World) (x : Value) (w' : World) : Prop := ∃ z, x = .tuple #[z, .int .i64 0] ∧ EvRow A E P K S s W z w'
theorem den_pair {ρ : Env} {u : AVal} {x : Value} (h : (AVal.tuple [u, .int .i64 (.lit 0)]).den ρ = some x) : ∃ z, u.den ρ = some z ∧ x = .tuple #[z, .int .i64 0] := by
  simp only [AVal.den, AVal.denL, IT.den, Option.map_some] at h
  cases hu : u.den ρ with
  | none => rw [hu] at h; cases h
  | some z => rw [hu] at h; simp only [Option.map_some, Option.some.injEq] at h; exact ⟨z, rfl, h.symm⟩
theorem run_pe : (run Tryz.prog [] sppE 4000 true 17 (entry Tryz.f17 (Tryz.f17.body.getD .ret) [p6] .leaf 0 planC)).map (·.filterMap (sumM g4 [RTp] [Q2, Q1, Q0])) = some sums_pe := by kernel_rfl
theorem run_p0 : (run Tryz.prog [] sppE 4000 true 17 (Q0.st (.code pb0 :: .inLoop pb0 :: pk0))).map (·.filterMap (sumM g4 [RTp] [Q2, Q1, Q0])) = some sums_p0 := by kernel_rfl
theorem run_p1 : (run Tryz.prog [] sppE 4000 true 17 (Q1.st (.code pb0 :: .inLoop pb0 :: pk0))).map (·.filterMap (sumM g4 [RTp] [Q2, Q1, Q0])) = some sums_p1 := by kernel_rfl
theorem run_p2 : (run Tryz.prog [] sppE 4000 true 17 (Q2.st (.code pb1 :: .inLoop pb1 :: pk1))).map (·.filterMap (sumM g4 [RTp] [Q2, Q1, Q0])) = some sums_p2 := by kernel_rfl
section
variable {A E P K S s : Int}
theorem loop_p2 (w0 : World) (h : Rt A E P K S) : ∀ ρ, (JE A E P K S (s % 2147483648)).at ρ → ∀ todo a w, todo = .inLoop pb1 :: pk1 ∨ todo = .code (.loop pb1) :: pk1 → SRel ⟨w0, [], NumP A E P K S s⟩ ρ (Q2.st todo) a w →
    Goes Tryz.prog 17 (EvRowP A E P K S (s % 2147483648) w0) todo a w := by
  refine loop_goesM (β := ⟨w0, [], NumP A E P K S s⟩) noCount noExt (sppE_ok w0 h) follows rfl run_p2 (JE A E P K S (s % 2147483648)) (fun ρ => (E - ρ.I 0).toNat) (fun ρ hJ hcs hG ih q hq => ?_)
  have ha1 := h.a1; have ha2 := h.a2; have he1 := h.e1; have he2 := h.e2
  obtain ⟨i, j0, j1, j2, j3, j4⟩ := hJ
  obtain ⟨g0, g1, g2, g3, g4', g5, gF⟩ := id hG
  generalize hσ : seedS A P K S (s % 2147483648) i = σ at j3
  have dens : ∀ ρ' : Env, ρ.Le ρ' → ρ'.F = FE A P K S ∧ (IT.var 0).den ρ' = some (i : Int) ∧ (IT.var 1).den ρ' = some (2 * A + i) ∧ (IT.var 2).den ρ' = some σ ∧ (IT.var 12).den ρ' = some E := fun ρ' hle => by
    simp only [IT.den, hle.i, hle.f, gF, j1, j2, j3, g2, and_self]
  simp only [sums_p2, List.mem_cons, List.not_mem_nil, or_false] at hq
  rcases hq with rfl | rfl
  · intro ρ' hle hc T hT hG'
    obtain ⟨hF, d0, d1, d2, dE⟩ := dens ρ' hle
    simp only [CRel_app, CRel_cons, CRel_nil, and_true, BT.den, d0, d1, dE, den_lit, intCmp, Option.some.injEq, decide_eq_true_eq] at hc
    obtain rfl : Q2 = T := by simpa using hT
    have hlt : (i : Int) < E := by omega
    have e0 : IntKind.i64.wrap (ρ'.I 0 + 1) = ((i + 1 : Nat) : Int) := by rw [hle.i, j1, wrap_ok (by omega) (by omega)]; omega
    have e01 : IntKind.i64.wrap (ρ'.I 1 + 1) = 2 * A + ((i + 1 : Nat) : Int) := by rw [hle.i, j2, wrap_ok (by omega) (by omega)]; omega
    refine ⟨hG', CRel_app.2 ⟨rngC_of ?_ ?_, planC_of h hG'⟩, fun a w r => ih _ ?_ ?_ _ a w (.inl rfl) r⟩
    · show 0 ≤ IntKind.i64.wrap (ρ'.I 0 + 1) ∧ IntKind.i64.wrap (ρ'.I 0 + 1) ≤ 5000; rw [e0]; omega
    · show 0 ≤ IntKind.i64.wrap (ρ'.I 1 + 1) ∧ IntKind.i64.wrap (ρ'.I 1 + 1) ≤ 10000; rw [e01]; omega
    · show (E - IntKind.i64.wrap (ρ'.I 0 + 1)).toNat < (E - ρ.I 0).toNat; rw [e0, j1]; omega
    · refine ⟨i + 1, by omega, e0, e01, ?_, ?_⟩
      · show ((IT.fn 60 (.var 2) (.lit 0)).den ρ').getD 0 = (evS A P K S (seedS A P K S (s % 2147483648) i)).s; rw [hσ, ef_den hF d2 0]; rfl
      · refine (v_snoc (cs := [(.int .i64 (.fn 61 (.var 2) (.lit 0))), (.int .i64 (.fn 62 (.var 2) (.lit 0))), (.int .i64 (.fn 63 (.var 2) (.lit 0))), (.int .i64 (.fn 64 (.var 2) (.lit 0))), (.int .i64 (.fn 65 (.var 2) (.lit 0))), (.int .i64 (.fn 66 (.var 2) (.lit 0))), (.int .i64 (.fn 67 (.var 2) (.lit 0))), (.int .i64 (.fn 68 (.var 2) (.lit 0)))]) (xs := (evS A P K S σ).cells) ((by rw [hle.v]; exact j4)) ?_).trans (by rw [← hσ]; rfl)
        simp only [AVal.denL, AVal.den, ef_den hF d2 1, ef_den hF d2 2, ef_den hF d2 3, ef_den hF d2 4, ef_den hF d2 5, ef_den hF d2 6, ef_den hF d2 7, ef_den hF d2 8, Option.map_some]; rfl
  · intro ρ' hle hc T hT hG'
    obtain ⟨hF, d0, d1, d2, dE⟩ := dens ρ' hle
    simp only [CRel_app, CRel_cons, CRel_nil, and_true, BT.den, d0, dE, intCmp, Option.some.injEq, decide_eq_false_iff_not] at hc
    obtain rfl : RTp = T := by simpa using hT
    have hiE : i = E.toNat := by omega
    refine ⟨hG', CRel_nil.2 trivial, fun x w' r => ?_⟩
    obtain ⟨y, hy, hg⟩ := r.t 0 _ rfl
    obtain rfl : x = y := by simpa using hg
    obtain ⟨z, hz, rfl⟩ := den_pair hy
    obtain ⟨b, cap, hb⟩ := row_ret r.h hz (n := (2 * A + E).toNat) (by show ((IT.var 1).den ρ').getD 0 = _; rw [d1]; simp only [Option.getD_some]; omega) (by show Value.agg (((AT.var 0).den ρ').getD []).toArray = _; simp only [AT.den, hle.v, j4, aggCells, Option.getD_some]; rw [hiE])
    exact ⟨z, rfl, b, cap, hb⟩
theorem loop_p1 (w0 : World) (h : Rt A E P K S) : ∀ ρ, GP.at (JA A) ρ → ∀ todo a w, todo = .inLoop pb0 :: pk0 ∨ todo = .code (.loop pb0) :: pk0 → SRel ⟨w0, [], NumP A E P K S s⟩ ρ (Q1.st todo) a w →
    Goes Tryz.prog 17 (EvRowP A E P K S (s % 2147483648) w0) todo a w := by
  refine loop_goesM (β := ⟨w0, [], NumP A E P K S s⟩) noCount noExt (sppE_ok w0 h) follows rfl run_p1 (JA A) (fun ρ => (A - ρ.I 0).toNat) (fun ρ hJ hcs hG ih q hq => ?_)
  have ha1 := h.a1; have ha2 := h.a2; have he1 := h.e1; have he2 := h.e2
  obtain ⟨g0, g1, g2, g3, g4', g5, gF⟩ := id hG
  obtain ⟨i, j0, j1, j2, j4⟩ := hJ
  simp only [sums_p1, List.mem_cons, List.not_mem_nil, or_false] at hq
  rcases hq with rfl | rfl
  · intro ρ' hle hc T hT hG'
    have e2 : ρ'.I = ρ.I := hle.i
    simp only [CRel_app, CRel_cons, CRel_nil, and_true, BT.den, IT.den, e2, j1, j2, g1, intCmp, Option.some.injEq, decide_eq_true_eq] at hc
    obtain rfl : Q1 = T := by simpa using hT
    have e0 : IntKind.i64.wrap (ρ'.I 0 + 1) = ((i + 1 : Nat) : Int) := by rw [hle.i, j1, wrap_ok (by omega) (by omega)]; omega
    have e01 : IntKind.i64.wrap (ρ'.I 1 + 2) = 2 * ((i + 1 : Nat) : Int) := by rw [hle.i, j2, wrap_ok (by omega) (by omega)]; omega
    refine ⟨hG', CRel_app.2 ⟨rngC_of ?_ ?_, planC_of h hG'⟩, fun a w r => ih _ ?_ ?_ _ a w (.inl rfl) r⟩
    · show 0 ≤ IntKind.i64.wrap (ρ'.I 0 + 1) ∧ IntKind.i64.wrap (ρ'.I 0 + 1) ≤ 5000; rw [e0]; omega
    · show 0 ≤ IntKind.i64.wrap (ρ'.I 1 + 2) ∧ IntKind.i64.wrap (ρ'.I 1 + 2) ≤ 10000; rw [e01]; omega
    · show (A - IntKind.i64.wrap (ρ'.I 0 + 1)).toNat < (A - ρ.I 0).toNat; rw [e0, j1]; omega
    · refine ⟨i + 1, by omega, e0, e01, (v_snoc (cs := [(.int .i64 (.lit 0)), (.int .i64 (.var 0)), (.int .i64 (.lit 0)), (.int .i64 (.lit 0)), (.int .i64 (.lit 0)), (.int .i64 (.lit 0)), (.int .i64 (.lit 0)), (.int .i64 (.lit 0)), (.int .i64 (.lit 5)), (.int .i64 (.var 0)), (.int .i64 (.lit 0)), (.int .i64 (.lit 40)), (.int .i64 (.lit 0)), (.int .i64 (.lit 0)), (.int .i64 (.lit 0)), (.int .i64 (.lit 0))]) (xs := cells8 0 i 0 0 0 0 0 0 ++ cells8 5 i 0 40 0 0 0 0) ((by rw [hle.v]; exact j4)) ?_).trans rfl⟩
      simp only [AVal.denL, AVal.den, IT.den, e2, j1, Option.map_some]; rfl
  · intro ρ' hle hc T hT hG'
    have e2 : ρ'.I = ρ.I := hle.i
    simp only [CRel_app, CRel_cons, CRel_nil, and_true, BT.den, IT.den, e2, j1, g1, intCmp, Option.some.injEq, decide_eq_false_iff_not] at hc
    obtain rfl : Q2 = T := by simpa using hT
    have hiA : i = A.toNat := by omega
    refine ⟨hG', CRel_app.2 ⟨rngC_of ?_ ?_, planC_of h hG'⟩, fun a w r => loop_p2 w0 h _ ?_ _ a w (.inr rfl) r⟩
    · show (0 : Int) ≤ 0 ∧ (0 : Int) ≤ 5000; omega
    · show 0 ≤ ρ'.I 1 ∧ ρ'.I 1 ≤ 10000; rw [e2, j2]; omega
    · exact ⟨0, by omega, rfl, (by show ρ'.I 1 = 2 * A + ((0 : Nat) : Int); rw [e2, j2]; omega), (by
      show ((IT.bin .rem .i64 (.bin .add .i64 (.bin .rem .i64 (.var 10) (.lit 2147483648)) (.lit 2147483648)) (.lit 2147483648)).den ρ').getD 0 = s % 2147483648
      simp only [IT.den, e2, g0, intBin, if_neg (show ¬ ((2147483648 : Int) = 0) by decide), held_of, Option.getD_some]), (by show Value.agg (((AT.var 0).den ρ').getD []).toArray = _; simp only [AT.den, hle.v, j4, aggCells, Option.getD_some]; rw [hiA]; rfl)⟩
theorem loop_p0 (w0 : World) (h : Rt A E P K S) : ∀ ρ, GP.at (fun _ _ _ _ _ => True) ρ → ∀ todo a w, todo = .inLoop pb0 :: pk0 ∨ todo = .code (.loop pb0) :: pk0 → SRel ⟨w0, [], NumP A E P K S s⟩ ρ (Q0.st todo) a w →
    Goes Tryz.prog 17 (EvRowP A E P K S (s % 2147483648) w0) todo a w := by
  refine loop_goesM (β := ⟨w0, [], NumP A E P K S s⟩) noCount noExt (sppE_ok w0 h) follows rfl run_p0 (fun _ _ _ _ _ => True) (fun ρ => 0) (fun ρ hJ hcs hG ih q hq => ?_)
  have ha1 := h.a1; have ha2 := h.a2; have he1 := h.e1; have he2 := h.e2
  obtain ⟨g0, g1, g2, g3, g4', g5, gF⟩ := id hG
  simp only [sums_p0, List.mem_cons, List.not_mem_nil, or_false] at hq
  rcases hq with rfl
  · intro ρ' hle hc T hT hG'
    obtain rfl : Q1 = T := by simpa using hT
    refine ⟨hG', CRel_app.2 ⟨rngC_of ?_ ?_, planC_of h hG'⟩, fun a w r => loop_p1 w0 h _ ?_ _ a w (.inl rfl) r⟩
    · show (0 : Int) ≤ 1 ∧ (1 : Int) ≤ 5000; omega
    · show (0 : Int) ≤ 2 ∧ (2 : Int) ≤ 10000; omega
    · exact ⟨1, by omega, rfl, rfl, rfl⟩
end
theorem events17 (w : World) (A E P K S s : Int) (h : Rt A E P K S) : Calls Tryz.prog 17 #[.agg #[.int .i64 s, .int .i64 A, .int .i64 E, .int .i64 P, .int .i64 K, .int .i64 S]] w (fun e w' => ∃ v, e = .returned v ∧ EvRowP A E P K S (s % 2147483648) w v w') := by
  have hG : (NumP A E P K S s).at (envP A E P K S s 0) := ⟨rfl, rfl, rfl, rfl, rfl, rfl, rfl⟩
  refine calls_sumsM (β := ⟨w, [], NumP A E P K S s⟩) (ρ := envP A E P K S s 0) noCount noExt (sppE_ok w h) follows rfl Tryz.func17 rfl run_pe (xs := [.agg #[.int .i64 s, .int .i64 A, .int .i64 E, .int .i64 P, .int .i64 K, .int .i64 S]]) rfl (HRel.startG w _ (fun _ => rfl) hG) (planC_of h hG) (fun q hq => ?_)
  simp only [sums_pe, List.mem_cons, List.not_mem_nil, or_false] at hq
  obtain rfl := hq
  intro ρ' hle hc T hT hG'
  obtain rfl : Q0 = T := by simpa using hT
  exact ⟨hG', planC_of h hG', fun a w' r => loop_p0 w h _ trivial _ a w' (.inr rfl) r⟩
end Pln
end Go.Proofs.YthifhdckfcgbkaaGreat
