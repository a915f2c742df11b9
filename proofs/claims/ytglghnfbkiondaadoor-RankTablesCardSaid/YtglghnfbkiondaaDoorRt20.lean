/-
  RankTables (18): the law's specs, heads and facts.
-/
import Derived.Test.YtglghnfbkiondaaDoorRt14
import Derived.Test.YtglghnfbkiondaaDoorRt17
section
namespace Go.Proofs.YtglghnfbkiondaaDoor
open Go.Vm Go.Vm.Rk Go.Vm.Mr
namespace Rt
open Rk

def cdT : BT := .cmp .eql (.var 33) (.lit 1)
def tabB (x : AVal) (H : Heap) (nl : Nat) (cs : Cs) : Bool := AVal.beq x (SL .row) && (hasE (EL .row) H && (Nat.ble nl 480 && isB (lookB cs cdT) true))
def spTab : SpG := fun args H nl cs => match args with
  | [x] => cond (tabB x H nl cs) (some [.ret (.str (.fn 7 (.lit 0) (.lit 0))) H nl cs]) none
  | _ => none
section
variable {d : Dt} {β : Base}
theorem reEnv480 {ρ : Env} {H : Heap} {nl : Nat} {w : World} (hh : HRel β ρ H nl w) (hn : nl ≤ 480) (hG : β.G = Gd d) (hE : hasE (EL .row) H = true) : HRel ⟨w, [], Gd d⟩ ρ (ofP (roH (EL .row))) 480 w :=
  HRel.ro (EL .row) (fun p hp => by
    have h1 := List.all_eq_true.1 hE p hp
    split at h1
    · rename_i k hk
      obtain ⟨b, o, hb, ho, hr⟩ := hh.blk _ _ hk
      rw [ABlk.beq_eq h1] at hr
      exact ⟨b, o, hb, ho, rel_ro hr⟩
    · cases h1) (fun i hi => hh.fresh i (by omega)) (by
      have := hh.g
      rw [hG] at this; exact this) (nb_EL .row)
theorem cd_of (h : cdB d = true) : Cd d := fun i hi => by
  have := List.all_eq_true.1 h i (List.mem_range.2 hi)
  simpa using this
theorem spTab_ok (hβ : β.G = Gd d) (ok : DOk d) {g : FuncId}
    (hg : Cd d → ∀ {ρ : Env} {H : Heap} {nl : Nat} {w : World} {xs : List Value}, HRel β ρ H nl w → HRel ⟨w, [], Gd d⟩ ρ (ofP (roH (EL .row))) 480 w → AVal.denL ρ [SL .row] = some xs → Calls Tryd.prog g xs.toArray w fun e w' => e = .returned (.string (bt (d.tabC 15))) ∧ Framed w w') : SpGOk Tryd.prog β g spTab := by
  intro args H nl cs ls ρ w xs hr hx hh hc
  unfold spTab at hr
  split at hr
  rotate_left
  · cases hr
  rename_i x
  cases hb : tabB x H nl cs with
  | false => rw [hb] at hr; cases hr
  | true =>
    rw [hb] at hr; simp only [cond_true, Option.some.injEq] at hr
    subst hr
    simp only [tabB, Bool.and_eq_true] at hb
    obtain ⟨h1, h2, h3, h4⟩ := hb
    obtain rfl := AVal.beq_eq _ _ h1
    have hG : (Gd d).at ρ := by have := hh.g; rw [hβ] at this; exact this
    have hC : Cd d := by
      unfold isB at h4
      split at h4
      · rename_i e0 he0
        have h5 := lookB_ok he0 hc
        rw [← eq_of_beq h4] at h5
        have e33 : (IT.var 33).den ρ = some (if cdB d then 1 else 0) := pin hG (by simp [pins])
        unfold cdT at h5
        rw [cmpD e33 (litD 1)] at h5
        cases hcd : cdB d with
        | true => exact cd_of hcd
        | false => rw [hcd] at h5; cases h5
      · cases h4
    refine spV_ok (hg hC hh (reEnv480 hh (Nat.le_of_ble_eq_true h3) hβ h2) hx) ?_ hh hc
    have hl : (textD d 7 0 0).length ≤ 1000000 := by
      show (d.tabC 15).length ≤ _
      have := tabC_len ok 15; omega
    have := fn_den hG (k := 7) (p := .lit 0) (q := .lit 0) rfl rfl hl
    simp only [AVal.den, this]; rfl
end
def spRt : CallF := spLH [(6, spTrue), (10, spOf), (12, spA spRight), (13, spSt13), (14, spSt14), (15, spTab), (16, spTab), (17, spOps)] (orH hkLk hkLn)
theorem spRt_ok {d : Dt} (ok : DOk d) (hl : d.kl = .row) {w : World} (hT : TabW w) : CallOk Tryd.prog ⟨w, [], Gd d⟩ spRt := by
  refine spLH_ok (fun p hp => ?_) (orH_ok (hkLk_ok rfl) (hkLn_ok rfl))
  simp only [List.mem_cons, List.not_mem_nil, or_false] at hp
  rcases hp with rfl | rfl | rfl | rfl | rfl | rfl | rfl | rfl
  · exact spTrue_ok Rk.first6
  · exact spRef_ok fun _ _ _ _ _ h => h.2.1
  · exact spA_ok (spRight_ok Tryd.func12 rfl run12_all run12_none)
  · exact spSt13_ok ok hl rfl
  · exact spSt14_ok ok hl rfl
  · exact spTab_ok rfl ok fun hC {ρ H nl w' xs} hh hr hx => by
      have := table15 ok hl hC (TabW.of hT rfl hh) hr hx
      rwa [tab_one hC] at this
  · exact spTab_ok rfl ok fun hC {ρ H nl w' xs} hh hr hx => table16 ok hl hr hx
  · exact spOps_ok ok hl rfl
-- THE HEADS
def sS (l c : Nat) : AVal := .slice l (.lit 0) (nT (.var 34) (.lit (-1))) (.nv c)
def sB (c : Nat) : HB := ⟨.arr (.code [.i64] (.fn 78 (.var 34) (.lit (-1)))) [.i64] 3 (nT (.var 34) (.lit (-1))) (.lit 0) (some (.nv c)), true⟩
def nS : AVal := .int .i64 (nT (.var 34) (.lit (-1)))
def csS : Cs := [q9 .geq (nT (.var 34) (.lit (-1))) (.lit 1) true, q9 .leq (nT (.var 34) (.lit (-1))) (.lit 300) true]
def TR : Tpl := ⟨[(0, SL .row), (1, iV 34), (21, SL .row), (22, .int .i64 (.var 36)), (23, iV 9)], 99, roH (EL .row), 450, cs9 (.var 36) ++ csL .row, 3⟩
def TS : Tpl := ⟨[(0, SL .row), (7, sS 13 12), (8, sS 15 14), (50, sS 13 12), (51, nS), (52, iV 9)], 99, roH (EL .row) ++ [(13, sB 12), (15, sB 14)], 450, cs9 (nT (.var 34) (.lit (-1))) ++ csL .row ++ csS, 3⟩
def TZ : Tpl := ⟨[(0, SL .row), (51, .int .i64 (.lit 0)), (52, .int .i64 (.lit 0))], 99, roH (EL .row), 450, csL .row, 3⟩
def TD : Tpl := ⟨[(0, SL .row), (10, .map 20), (11, iV 8), (67, iV 9)], 99, roH (EL .row) ++ [(20, mB)], 450, cs9 (.lit 15) ++ csL .row ++ [q9 .geq (.var 8) (.lit 0) true, q9 .leq (.var 8) (.lit 15) true], 3⟩
def t4 : List Tpl := [TD, TS, TZ, TR]
def fRi (b : Bool) : Cs := [(tRight (rT at9 2) (rT at9 3) (rT at9 4) (rT at9 5), b)]
def fCd : Cs := [(cdT, true)]
end Rt
end Go.Proofs.YtglghnfbkiondaaDoor
end

/-
  RankTables (19): the law over no records.
-/
section
namespace Go.Proofs.YtglghnfbkiondaaDoor
open Go.Vm Go.Vm.Rk Go.Vm.Mr Go.Maps
namespace Rt
open Rk

def spKey0 : SpG := fun args H nl cs => match args with
  | [.func (.func 40) [] [.ptr lb (.lit (.ofNat 0))]] => match H.get lb with
    | some ⟨.cells [.map l] _ none, _⟩ => match H.get l with
      | some ⟨.map [] _, _⟩ => some [.ret .sliceNil H nl cs]
      | _ => none
    | _ => none
  | _ => none
theorem spKey0_ok {β : Base} : SpGOk Tryd.prog β 19 spKey0 := by
  intro args H nl cs ls ρ w xs hr hx hh hc
  unfold spKey0 at hr
  split at hr
  rotate_left
  · cases hr
  rename_i lb
  split at hr
  rotate_left
  · cases hr
  rename_i l el rwb hgb
  split at hr
  rotate_left
  · cases hr
  rename_i cl rw2 hgl
  simp only [Option.some.injEq] at hr
  subst hr
  obtain ⟨bb, sv, hNb, hsv, hbl, hcell⟩ := box1 hh hgb
  obtain ⟨b, rfl, hN⟩ := den_map hsv
  obtain rfl := func_args hNb hx
  obtain ⟨es, hg, hes⟩ := hh.map hgl hN
  simp only [esDen, Option.some.injEq] at hes
  subst hes
  have hown : w.ownsMap Tryd.prog 3 RN b 1 (.map []) := ⟨_, cl, hg, ⟨by simp [maxLen], ⟨by simp, by simp, by simp⟩, by simp⟩, by simp, rfl⟩
  refine (Sv.sortedK bb b 1 (.map []) RN w hbl hcell hown (by show ([] : List (Lit × DataW Unit)).length ≤ _; simp)).mono fun e w' ⟨vv, ss, he, hperm, hrow, hnil, hbw⟩ => ?_
  have hss : ss = [] := List.perm_nil.1 hperm
  have hv := hnil.2 hss
  subst hv
  exact ⟨_, he, _, _, _, _, ρ, List.mem_cons_self, Env.Le.refl ρ, rfl, hh.framed (framed_of_below hbw), hc⟩
def sp0 : CallF := spL [(6, spTrue), (19, spKey0), (21, spNil), (24, spSort)]
def sZr : AVal := .slice 0 (.var 62) (.lit 0) (.var 63)
end Rt
end Go.Proofs.YtglghnfbkiondaaDoor
end

/-
  RankTables (20): the law answers true, for every row of records.
-/
section
namespace Go.Proofs.YtglghnfbkiondaaDoor
open Go.Vm Go.Vm.Rk Go.Vm.Mr
namespace Rt
open Rk

-- RIGHT
def ρ00 : Env := ⟨fun _ => 0, fun _ => false, fun _ => default, fun _ => undef, fun _ => none, fun _ _ _ => 0⟩
def rtB (d : Dt) (i : Nat) : Bool := ((tRight (.lit (d.c i 2)) (.lit (d.c i 3)) (.lit (d.c i 4)) (.lit (d.c i 5))).den ρ00).getD false
theorem rt_den {d : Dt} {ρ : Env} (hG : (Gd d).at ρ) {i : Nat} (h9 : ρ.I 9 = (i : Int)) : (tRight (rT at9 2) (rT at9 3) (rT at9 4) (rT at9 5)).den ρ = some (rtB d i) := by
  have e9 : at9.den ρ = some (i : Int) := varD h9
  rw [tRight_lit (ρ0 := ρ00) (rT_den hG e9 2) (rT_den hG e9 3) (rT_den hG e9 4) (rT_den hG e9 5)]
  obtain ⟨b, hb⟩ := tRight_some (d.c i 2) (d.c i 3) (d.c i 4) (d.c i 5)
  unfold rtB
  rw [hb ρ00]; rfl
theorem and_both {ρ : Env} {a b : BT} (h : (BT.and a b).den ρ = some true) : a.den ρ = some true ∧ b.den ρ = some true := by
  cases ha : a.den ρ with
  | none => simp only [BT.den, ha] at h; cases h
  | some x => cases hb : b.den ρ with
    | none => simp only [BT.den, ha, hb] at h; cases h
    | some y =>
      have := (andD ha hb).symm.trans h
      simp only [Option.some.injEq, Bool.and_eq_true] at this
      exact ⟨by rw [this.1], by rw [this.2]⟩
theorem rt_code {d : Dt} {i : Nat} (h : rtB d i = true) : 0 ≤ d.c i 2 ∧ d.c i 2 < 15 := by
  obtain ⟨b, hb⟩ := tRight_some (d.c i 2) (d.c i 3) (d.c i 4) (d.c i 5)
  have h1 : (tRight (.lit (d.c i 2)) (.lit (d.c i 3)) (.lit (d.c i 4)) (.lit (d.c i 5))).den ρ00 = some true := by
    unfold rtB at h
    rw [hb ρ00] at h ⊢
    exact congrArg some h
  obtain ⟨g1, g2⟩ := and_both (and_both h1).1
  rw [cmpD (litD _) (litD _)] at g1 g2
  simp only [intCmp, Option.some.injEq, decide_eq_true_eq] at g1 g2
  omega
theorem cd_true {d : Dt} (h : ∀ j, j < d.n → rtB d j = true) : cdB d = true := List.all_eq_true.2 fun i hi => by
  have := rt_code (h i (List.mem_range.1 hi))
  simp [this.1, this.2]
-- THE RUNS
noncomputable def L4 (j : Nat) (T : Tpl) (c : Cs) (l : List LS) : Prop := RHt spRt 4 Tryd.f4 j t4 T c l
def csB : Cs := [q9 .gtr (.var 36) (.lit 100) false] ++ csL .row
def r0 : Sub := ⟨[(9, .lit 0)], [], [], [], [(0, 0)]⟩
def r1 : Sub := ⟨[(9, up9)], [], [], [], [(0, 0)]⟩
def r2 : Sub := ⟨[], [], [], [], [(0, 0)]⟩
def r3 : Sub := ⟨[(9, .lit 0)], [], [], [], [(0, 0), (13, 451), (12, 450), (15, 453), (14, 452)]⟩
def r4 : Sub := ⟨[(9, up9)], [], [], [], [(0, 0), (13, 13), (12, 12), (15, 15), (14, 14)]⟩
def r5 : Sub := ⟨[(8, .lit 0), (9, .lit 0)], [], [], [], [(0, 0), (20, 450)]⟩
def r6' : Sub := ⟨[(8, .var 8), (9, up9)], [], [], [], [(0, 0), (20, 20)]⟩
def r7 : Sub := ⟨[(8, .bin .add .i64 (.var 8) (.lit 1)), (9, up9)], [], [], [], [(0, 0), (20, 20)]⟩
theorem l4_in : RCn 450 spRt 4 Tryd.f4 t4 [SL .row, iV 34] (ofP (roH (EL .row))) csB [.next 3 (.code (.loop (lb Tryd.f4 0)) :: lq Tryd.f4 0) [] r0] := by unfold RCn; kernel_rfl
noncomputable def All4 (sp : CallF) (args : List AVal) (H : Heap) (cs : Cs) : Prop := (run Tryd.prog [] sp 20000 false 4 (entry Tryd.f4 (Tryd.f4.body.getD .ret) args H 10 cs)).map (·.all (retIs (.bool (.lit true)))) = some true
theorem l4_long : All4 (spL [(6, spTrue)]) [SL .row, iV 34] (ofP (roH (EL .row))) [q9 .gtr (.var 36) (.lit 100) true] := by unfold All4; kernel_rfl
theorem l4_nil : All4 sp0 [.sliceNil, iV 34] .leaf [] := by unfold All4; kernel_rfl
theorem l4_zero : All4 sp0 [sZr, iV 34] .leaf [] := by unfold All4; kernel_rfl
theorem l4_r : L4 0 TR (lt9 (.var 36) true ++ fRi true) [.next 3 (.inLoop (lb Tryd.f4 0) :: lq Tryd.f4 0) [] r1] := by unfold L4 RHt; kernel_rfl
theorem l4_w : L4 0 TR (lt9 (.var 36) true ++ fRi false) [.ret (.bool (.lit true)) []] := by unfold L4 RHt; kernel_rfl
theorem l4_en : L4 0 TR (lt9 (.var 36) false ++ (fCd ++ fE' (.var 34) (.lit (-1)) true)) [.next 2 (.code (.loop (lb Tryd.f4 1)) :: lq Tryd.f4 1) [] r2] := by unfold L4 RHt; kernel_rfl
theorem l4_es : L4 0 TR (lt9 (.var 36) false ++ (fCd ++ fE' (.var 34) (.lit (-1)) false)) [.next 1 (.code (.loop (lb Tryd.f4 1)) :: lq Tryd.f4 1) [] r3] := by unfold L4 RHt; kernel_rfl
theorem l4_z : L4 1 TZ [] [.next 0 (.code (.loop (lb Tryd.f4 2)) :: lq Tryd.f4 2) [] r5] := by unfold L4 RHt; kernel_rfl
theorem l4_s : L4 1 TS (lt9 (nT (.var 34) (.lit (-1))) true) [.next 1 (.inLoop (lb Tryd.f4 1) :: lq Tryd.f4 1) [] r4] := by unfold L4 RHt; kernel_rfl
theorem l4_se : L4 1 TS (lt9 (nT (.var 34) (.lit (-1))) false) [.next 0 (.code (.loop (lb Tryd.f4 2)) :: lq Tryd.f4 2) [] r5] := by unfold L4 RHt; kernel_rfl
theorem l4_cn : L4 2 TD (lt9 (.lit 15) true ++ fE' (.lit 2) at9 true) [.next 0 (.inLoop (lb Tryd.f4 2) :: lq Tryd.f4 2) [] r6'] := by unfold L4 RHt; kernel_rfl
theorem l4_cy : L4 2 TD (lt9 (.lit 15) true ++ fE' (.lit 2) at9 false) [.next 0 (.inLoop (lb Tryd.f4 2) :: lq Tryd.f4 2) [] r7] := by unfold L4 RHt; kernel_rfl
theorem l4_ce : L4 2 TD (lt9 (.lit 15) false) [.ret (.bool (.cmp .eql (.var 37) (.var 8))) []] := by unfold L4 RHt; kernel_rfl
-- WHAT HOLDS
def cnt (d : Dt) (c : Nat) : Nat := ((List.range c).filterMap fun c => if d.steps 2 ((c : Nat) : Int) = [] then none else some ((c : Nat) : Int)).length
theorem cnt_no {d : Dt} {c : Nat} (h : d.steps 2 (c : Int) = []) : cnt d (c + 1) = cnt d c := by
  unfold cnt
  rw [List.range_succ, List.filterMap_append, List.length_append]
  simp only [List.filterMap_cons, if_pos h, List.filterMap_nil, List.length_nil, Nat.add_zero]
theorem cnt_yes {d : Dt} {c : Nat} (h : d.steps 2 (c : Int) ≠ []) : cnt d (c + 1) = cnt d c + 1 := by
  unfold cnt
  rw [List.range_succ, List.filterMap_append, List.length_append]
  simp only [List.filterMap_cons, if_neg h, List.filterMap_nil, List.length_cons, List.length_nil]
theorem cnt_le (d : Dt) (c : Nat) : cnt d c ≤ c := by
  unfold cnt
  have := List.length_filterMap_le (fun c => if d.steps 2 ((c : Nat) : Int) = [] then none else some ((c : Nat) : Int)) (List.range c)
  rwa [List.length_range] at this
structure JR (d : Dt) (i : Nat) (ρ : Env) : Prop where
  i9 : ρ.I 9 = (i : Int)
  le : i ≤ d.n
  all : ∀ j, j < i → rtB d j = true
theorem JR.of_le {d : Dt} {i : Nat} {ρ ρ' : Env} (h : JR d i ρ) (g : ρ.Le ρ') : JR d i ρ' := ⟨by rw [g.i]; exact h.i9, h.le, h.all⟩
structure JSm (d : Dt) (i : Nat) (ρ : Env) : Prop where
  i9 : ρ.I 9 = (i : Int)
  le : i ≤ (d.steps d.kd (-1)).length
  ne : d.steps d.kd (-1) ≠ []
theorem JSm.of_le {d : Dt} {i : Nat} {ρ ρ' : Env} (h : JSm d i ρ) (g : ρ.Le ρ') : JSm d i ρ' := ⟨by rw [g.i]; exact h.i9, h.le, h.ne⟩
structure JD' (d : Dt) (i : Nat) (ρ : Env) : Prop where
  i9 : ρ.I 9 = (i : Int)
  le : i ≤ 15
  i8 : ρ.I 8 = (cnt d i : Int)
theorem JD'.of_le {d : Dt} {i : Nat} {ρ ρ' : Env} (h : JD' d i ρ) (g : ρ.Le ρ') : JD' d i ρ' := ⟨by rw [g.i]; exact h.i9, h.le, by rw [g.i]; exact h.i8⟩
def QT4 (v : Value) : Prop := v = .bool true
section
variable {d : Dt} {ρ : Env}
theorem JR.cs (ok : DOk d) (hl : d.kl = .row) {i : Nat} (h : JR d i ρ) (hG : (Gd d).at ρ) : CRel ρ TR.cs := CRel_app.2 ⟨cs9_ok h.i9 (pN hG) h.le, csL_row ok hl hG⟩
theorem JSm.cs (ok : DOk d) (hl : d.kl = .row) {i : Nat} (h : JSm d i ρ) (hG : (Gd d).at ρ) : CRel ρ TS.cs := by
  have en := n_den hG (pK hG) (litD (-1))
  have h1 := List.length_pos_iff.2 h.ne
  have h100 := steps_le d d.kd (-1) ok.n100
  exact CRel_app.2 ⟨CRel_app.2 ⟨cs9_ok h.i9 en h.le, csL_row ok hl hG⟩, qD en (litD 1) (by simp [intCmp]; omega) (qD en (litD 300) (by simp [intCmp]; omega) c0)⟩
theorem JD'.cs (ok : DOk d) (hl : d.kl = .row) {i : Nat} (h : JD' d i ρ) (hG : (Gd d).at ρ) : CRel ρ TD.cs := by
  have h1 := cnt_le d i
  have h2 := h.le
  exact CRel_app.2 ⟨CRel_app.2 ⟨cs9_ok h.i9 (litD ((15 : Nat) : Int)) h.le, csL_row ok hl hG⟩, qD (varD h.i8) (litD 0) (by simp [intCmp]) (qD (varD h.i8) (litD 15) (by simp [intCmp]; omega) c0)⟩
theorem loopD4 (ok : DOk d) (hl : d.kl = .row) (hC : Cd d) {w : World} (hT : TabW w) : ∀ (_ : Unit) ρ, (∃ i, JD' d i ρ) → ∀ todo a w1, todo = .inLoop (lb Tryd.f4 2) :: lq Tryd.f4 2 ∨ todo = .code (.loop (lb Tryd.f4 2)) :: lq Tryd.f4 2 → SRel ⟨w, [], Gd d⟩ ρ (TD.st todo) a w1 → Goes Tryd.prog 4 (fun v w' => QT4 v ∧ Framed w w') todo a w1 :=
  scanT (β := ⟨w, [], Gd d⟩) (sp := spRt) (f := 4) (fn := Tryd.f4) (j := 2) (Ts := t4) (T := fun (_ : Unit) => TD) (spRt_ok ok hl hT) rfl (Q := QT4) (fun _ ρ => ∃ i, JD' d i ρ) (fun _ ρ => ((15 : Int) - ρ.I 9).toNat) fun _ ρ ⟨i, j⟩ hG hcs ih => by
    have hi := j.le
    have hcl := cnt_le d i
    have e9 : at9.den ρ = some (i : Int) := varD j.i9
    have e15 : (IT.lit 15).den ρ = some ((15 : Nat) : Int) := rfl
    by_cases hlt : i < 15
    · by_cases hst : d.steps 2 (i : Int) = []
      · refine ⟨_, _, CRel_app.2 ⟨lt9_ok j.i9 e15 (decide_eq_true hlt), fE_ok hG (k := .lit 2) (kz := 2) rfl e9 (decide_eq_true hst)⟩, l4_cn, Go.Vm.one (nextS rfl fun ρ' hle hG' => ?_)⟩
        have j' := j.of_le hle
        have jn : JD' d (i + 1) (r6'.app ρ') := ⟨sbI (t := up9) rfl (upD (varD j'.i9) (by omega)), hlt, by
          show ρ'.I 8 = _
          rw [j'.i8, cnt_no hst]⟩
        have hGn : (Gd d).at (r6'.app ρ') := gKeep rfl hG'
        exact ⟨hGn, jn.cs ok hl hGn, fun a w' r => ih () _ (by rw [jn.i9, j.i9]; omega) ⟨_, jn⟩ _ a w' (.inl rfl) r⟩
      · refine ⟨_, _, CRel_app.2 ⟨lt9_ok j.i9 e15 (decide_eq_true hlt), fE_ok hG (k := .lit 2) (kz := 2) rfl e9 (decide_eq_false hst)⟩, l4_cy, Go.Vm.one (nextS rfl fun ρ' hle hG' => ?_)⟩
        have j' := j.of_le hle
        have jn : JD' d (i + 1) (r7.app ρ') := ⟨sbI (t := up9) rfl (upD (varD j'.i9) (by omega)), hlt, by
          rw [cnt_yes hst]
          exact sbI rfl (upD (varD j'.i8) (by omega))⟩
        have hGn : (Gd d).at (r7.app ρ') := gKeep rfl hG'
        exact ⟨hGn, jn.cs ok hl hGn, fun a w' r => ih () _ (by rw [jn.i9, j.i9]; omega) ⟨_, jn⟩ _ a w' (.inl rfl) r⟩
    · obtain rfl : i = 15 := by omega
      refine ⟨_, _, lt9_ok j.i9 e15 (decide_eq_false hlt), l4_ce, Go.Vm.one (retS (z := .bool true) (fun ρ' hle => ?_) rfl)⟩
      have j' := j.of_le hle
      have hG' : (Gd d).at ρ' := GP.mono hle hG
      have e37 : (IT.var 37).den ρ' = some ((d.keys.length : Nat) : Int) := pin hG' (by simp [pins])
      have : (BT.cmp .eql (.var 37) (.var 8)).den ρ' = some true := eqlT e37 (varD j'.i8) (by rw [keys_filter hC]; rfl)
      simp only [AVal.den, this, Option.map_some]
theorem to_D (ok : DOk d) (hl : d.kl = .row) (hC : Cd d) {w : World} (hT : TabW w) {ρ' : Env} (hG' : (Gd d).at ρ') : (Gd d).at (r5.app ρ') ∧ CRel (r5.app ρ') TD.cs ∧ ∀ a w1, SRel ⟨w, [], Gd d⟩ (r5.app ρ') (TD.st (.code (.loop (lb Tryd.f4 2)) :: lq Tryd.f4 2)) a w1 → Goes Tryd.prog 4 (fun v w' => QT4 v ∧ Framed w w') (.code (.loop (lb Tryd.f4 2)) :: lq Tryd.f4 2) a w1 := by
  have hGn : (Gd d).at (r5.app ρ') := gKeep rfl hG'
  have jn : JD' d 0 (r5.app ρ') := ⟨rfl, Nat.zero_le _, rfl⟩
  exact ⟨hGn, jn.cs ok hl hGn, fun a w1 r => loopD4 ok hl hC hT () _ ⟨_, jn⟩ _ a w1 (.inr rfl) r⟩
theorem loopS4 (ok : DOk d) (hl : d.kl = .row) (hC : Cd d) {w : World} (hT : TabW w) : ∀ (_ : Unit) ρ, (∃ i, JSm d i ρ) → ∀ todo a w1, todo = .inLoop (lb Tryd.f4 1) :: lq Tryd.f4 1 ∨ todo = .code (.loop (lb Tryd.f4 1)) :: lq Tryd.f4 1 → SRel ⟨w, [], Gd d⟩ ρ (TS.st todo) a w1 → Goes Tryd.prog 4 (fun v w' => QT4 v ∧ Framed w w') todo a w1 :=
  scanT (β := ⟨w, [], Gd d⟩) (sp := spRt) (f := 4) (fn := Tryd.f4) (j := 1) (Ts := t4) (T := fun (_ : Unit) => TS) (spRt_ok ok hl hT) rfl (Q := QT4) (fun _ ρ => ∃ i, JSm d i ρ) (fun _ ρ => (((d.steps d.kd (-1)).length : Int) - ρ.I 9).toNat) fun _ ρ ⟨i, j⟩ hG hcs ih => by
    have hi := j.le
    have h100 := steps_le d d.kd (-1) ok.n100
    have en := n_den hG (pK hG) (litD (-1))
    by_cases hlt : i < (d.steps d.kd (-1)).length
    · refine ⟨_, _, lt9_ok j.i9 en (decide_eq_true hlt), l4_s, Go.Vm.one (nextS rfl fun ρ' hle hG' => ?_)⟩
      have j' := j.of_le hle
      have jn : JSm d (i + 1) (r4.app ρ') := ⟨sbI (t := up9) rfl (upD (varD j'.i9) (by omega)), hlt, j.ne⟩
      have hGn : (Gd d).at (r4.app ρ') := gKeep rfl hG'
      exact ⟨hGn, jn.cs ok hl hGn, fun a w' r => ih () _ (by rw [jn.i9, j.i9]; omega) ⟨_, jn⟩ _ a w' (.inl rfl) r⟩
    · exact ⟨_, _, lt9_ok j.i9 en (decide_eq_false hlt), l4_se, Go.Vm.one (nextS rfl fun ρ' _ hG' => to_D ok hl hC hT hG')⟩
theorem loopR4 (ok : DOk d) (hl : d.kl = .row) {w : World} (hT : TabW w) : ∀ (_ : Unit) ρ, (∃ i, JR d i ρ) → ∀ todo a w1, todo = .inLoop (lb Tryd.f4 0) :: lq Tryd.f4 0 ∨ todo = .code (.loop (lb Tryd.f4 0)) :: lq Tryd.f4 0 → SRel ⟨w, [], Gd d⟩ ρ (TR.st todo) a w1 → Goes Tryd.prog 4 (fun v w' => QT4 v ∧ Framed w w') todo a w1 :=
  scanT (β := ⟨w, [], Gd d⟩) (sp := spRt) (f := 4) (fn := Tryd.f4) (j := 0) (Ts := t4) (T := fun (_ : Unit) => TR) (spRt_ok ok hl hT) rfl (Q := QT4) (fun _ ρ => ∃ i, JR d i ρ) (fun _ ρ => ((d.n : Int) - ρ.I 9).toNat) fun _ ρ ⟨i, j⟩ hG hcs ih => by
    have hi := j.le
    have hn := ok.n100
    by_cases hlt : i < d.n
    · have er := rt_den hG j.i9
      cases hr : rtB d i with
      | true =>
        refine ⟨_, _, CRel_app.2 ⟨lt9_ok j.i9 (pN hG) (decide_eq_true hlt), c1 (by rw [er, hr]) c0⟩, l4_r, Go.Vm.one (nextS rfl fun ρ' hle hG' => ?_)⟩
        have j' := j.of_le hle
        have jn : JR d (i + 1) (r1.app ρ') := ⟨sbI (t := up9) rfl (upD (varD j'.i9) (by omega)), hlt, fun k hk => by
          rcases Nat.lt_or_ge k i with h | h
          · exact j.all k h
          · obtain rfl : k = i := by omega
            exact hr⟩
        have hGn : (Gd d).at (r1.app ρ') := gKeep rfl hG'
        exact ⟨hGn, jn.cs ok hl hGn, fun a w' r => ih () _ (by rw [jn.i9, j.i9]; omega) ⟨_, jn⟩ _ a w' (.inl rfl) r⟩
      | false =>
        exact ⟨_, _, CRel_app.2 ⟨lt9_ok j.i9 (pN hG) (decide_eq_true hlt), c1 (by rw [er, hr]) c0⟩, l4_w, Go.Vm.one (retS (z := .bool true) (fun _ _ => rfl) rfl)⟩
    · obtain rfl : i = d.n := by omega
      have hcd := cd_true j.all
      have hC := cd_of hcd
      have e33 : (IT.var 33).den ρ = some (if cdB d then 1 else 0) := pin hG (by simp [pins])
      have hfc : CRel ρ fCd := c1 (eqlT e33 (litD 1) (by rw [hcd]; rfl)) c0
      by_cases hst : d.steps d.kd (-1) = []
      · refine ⟨_, _, CRel_app.2 ⟨lt9_ok j.i9 (pN hG) (decide_eq_false hlt), CRel_app.2 ⟨hfc, fE_ok hG (pK hG) (litD (-1)) (decide_eq_true hst)⟩⟩, l4_en, Go.Vm.one (nextS rfl fun ρ' hle hG' => ?_)⟩
        have hGn : (Gd d).at (r2.app ρ') := gKeep rfl hG'
        refine ⟨hGn, csL_row ok hl hGn, fun a w' r => ?_⟩
        refine scanT (β := ⟨w, [], Gd d⟩) (sp := spRt) (f := 4) (fn := Tryd.f4) (j := 1) (Ts := t4) (T := fun (_ : Unit) => TZ) (spRt_ok ok hl hT) rfl (Q := QT4) (fun _ _ => True) (fun _ _ => 0) (fun _ ρ _ _ _ _ => ?_) () _ trivial _ a w' (.inr rfl) r
        exact ⟨[], _, c0, l4_z, Go.Vm.one (nextS rfl fun ρ' _ hG' => to_D ok hl hC hT hG')⟩
      · refine ⟨_, _, CRel_app.2 ⟨lt9_ok j.i9 (pN hG) (decide_eq_false hlt), CRel_app.2 ⟨hfc, fE_ok hG (pK hG) (litD (-1)) (decide_eq_false hst)⟩⟩, l4_es, Go.Vm.one (nextS rfl fun ρ' hle hG' => ?_)⟩
        have hGn : (Gd d).at (r3.app ρ') := gKeep rfl hG'
        have jn : JSm d 0 (r3.app ρ') := ⟨rfl, Nat.zero_le _, hst⟩
        exact ⟨hGn, jn.cs ok hl hGn, fun a w' r => loopS4 ok hl hC hT () _ ⟨_, jn⟩ _ a w' (.inr rfl) r⟩
/-- THE LAW, WALKED. -/
theorem law4 (ok : DOk d) (hl : d.kl = .row) {w : World} (hT : TabW w) {xs : List Value} (hr : HRel ⟨w, [], Gd d⟩ ρ (ofP (roH (EL .row))) 450 w) (hx : AVal.denL ρ [SL .row, iV 34] = some xs) :
    Calls Tryd.prog 4 xs.toArray w fun e w' => e = .returned (.bool true) ∧ Framed w w' := by
  have hG : (Gd d).at ρ := hr.g
  have hn := ok.n100
  refine toE (callSn (spRt_ok ok hl hT) rfl Tryd.func4 rfl l4_in hx hr (CRel_app.2 ⟨qD (pN hG) (litD 100) (by simp [intCmp]; omega) c0, csL_row ok hl hG⟩) (Go.Vm.one (nextS rfl fun ρ' hle hG' => ?_)))
  have hGn : (Gd d).at (r0.app ρ') := gKeep rfl hG'
  have jn : JR d 0 (r0.app ρ') := ⟨rfl, Nat.zero_le _, fun j hj => by omega⟩
  exact ⟨hGn, jn.cs ok hl hGn, fun a w' r => loopR4 ok hl hT () _ ⟨_, jn⟩ _ a w' (.inr rfl) r⟩
end
end Rt
end Go.Proofs.YtglghnfbkiondaaDoor
end
