/-
  LinearTells (35): the reference's Pairs.
-/
import Derived.Test.YtpgonpjakllnjaaLt29
section
namespace Go.Proofs.Ytpgonpjakllnjaa
open Go.Vm Go.Vm.Md Lm
namespace Lt

/-- The keys with what they have, rising. -/
def prL (M : List Int) : Nat → List Int
  | 0 => []
  | n + 1 => match mGet M (n : Int) with
    | some v => prL M n ++ [(n : Int), v]
    | none => prL M n
theorem prL_len {M : List Int} (h : MOk M) : ∀ n, (prL M n).length = cntR M n * 2
  | 0 => rfl
  | n + 1 => by
    have e := en_pos h n
    unfold prL cntR
    cases hg : mGet M (n : Int) with
    | none =>
      rw [hg] at e
      rw [if_neg (by simpa using e)]; exact prL_len h n
    | some v =>
      rw [hg] at e
      rw [if_pos (by simpa using e)]
      show (prL M n ++ [(n : Int), v]).length = _
      rw [List.length_append, prL_len h n]; simp; omega
theorem cntR_le (M : List Int) : ∀ n, cntR M n ≤ n
  | 0 => Nat.le_refl _
  | n + 1 => by
    have := cntR_le M n
    unfold cntR; split <;> omega
def pB (c n : IT) : HB := ⟨.arr (.code [.i64, .i64] c) [.i64, .i64] 95 n (.lit 0) (some (.nv 12)), true⟩
def vP : AVal := .slice 13 (.lit 0) (.var 22) (.nv 12)
def TP : Bool → Tpl
  | true => ⟨[(3, vP), (6, arA (.var 7)), (7, iV 9)], 22, [(13, pB (.var 23) (.var 22))], 500, [q9 .geq at9 (.lit 0) true, q9 .leq at9 (.lit 256) true] ++ [q9 .geq (.var 22) (.lit 1) true, q9 .leq (.var 22) (.lit 256) true, q9 .leq (.var 22) (.lit 1000000) true], 3⟩
  | false => ⟨[(3, .sliceNil), (6, arA (.var 7)), (7, iV 9)], 22, [], 500, [q9 .geq at9 (.lit 0) true, q9 .leq at9 (.lit 256) true], 3⟩
def eP : List Tpl := [⟨[(0, vP)], 1, [(13, pB (.var 23) (.var 22))], 20, [], 0⟩, ⟨[(0, .sliceNil)], 1, [], 20, [], 0⟩]
def tP : List Tpl := [TP true, TP false]
def adP (c : IT) : IT := .un 3 (.un 3 c at9) (.bin .sub .i64 (c9 (.var 7)) (.lit 1))
noncomputable def nxP (q : Nat) (σ : Sub) : List LM := [.next q (.inLoop (lb Try.f42 0) :: lq Try.f42 0) [] σ]
def sP0 (t : IT) : Sub := ⟨[(7, .var 7), (9, t)], [], [], [], []⟩
def sP1 (n c : IT) (a b : Nat) : Sub := ⟨[(22, n), (7, .var 7), (9, up9), (23, c)], [], [], [], [(13, a), (12, b)]⟩
def sPe : Sub := ⟨[(22, .var 22), (23, .var 23)], [], [], [], [(13, 13), (12, 12)]⟩
theorem p42_in : RCM (spL []) 42 Try.f42 eP tP [arA (.var 7)] .leaf [] [.next 1 (.code (.loop (lb Try.f42 0)) :: lq Try.f42 0) [] (sP0 (.lit 0))] := by unfold RCM; kernel_rfl
theorem p42_0n : RHM (spL []) 42 Try.f42 0 eP tP (TP false) (goC false) (nxP 1 (sP0 up9)) := by unfold RHM; kernel_rfl
theorem p42_0y : RHM (spL []) 42 Try.f42 0 eP tP (TP false) (goC true) (nxP 0 (sP1 (.lit 1) (adP (.lit 0)) 502 501)) := by unfold RHM; kernel_rfl
theorem p42_0e : RHM (spL []) 42 Try.f42 0 eP tP (TP false) [q9 .lss at9 (.lit 256) false] [.done 1 [] ⟨[], [], [], [], []⟩] := by unfold RHM; kernel_rfl
theorem p42_1n : RHM (spL []) 42 Try.f42 0 eP tP (TP true) (goC false) (nxP 0 (sP1 (.var 22) (.var 23) 13 12)) := by unfold RHM; kernel_rfl
theorem p42_1y : RHM (spL []) 42 Try.f42 0 eP tP (TP true) (goC true) (nxP 0 (sP1 up22 (adP (.var 23)) 502 501)) := by unfold RHM; kernel_rfl
theorem p42_1e : RHM (spL []) 42 Try.f42 0 eP tP (TP true) [q9 .lss at9 (.lit 256) false] [.done 0 [] sPe] := by unfold RHM; kernel_rfl
structure JPr (M : List Int) (i : Nat) (z : Bool) (ρ : Env) : Prop where
  i9 : ρ.I 9 = (i : Int)
  le : i ≤ 256
  i7 : ρ.I 7 = encL (arrL M)
  no : z = false → cntR M i = 0
  so : z = true → ρ.I 22 = (cntR M i : Int) ∧ ρ.I 23 = encL (prL M i) ∧ 1 ≤ cntR M i
section
variable {M : List Int} {i : Nat} {z : Bool} {ρ : Env}
theorem JPr.of_le {ρ' : Env} (h : JPr M i z ρ) (g : ρ.Le ρ') : JPr M i z ρ' := ⟨by rw [g.i]; exact h.i9, h.le, by rw [g.i]; exact h.i7, h.no, fun e => by rw [g.i]; exact h.so e⟩
theorem JPr.cs (h : JPr M i z ρ) : CRel ρ (TP z).cs := by
  have := h.le
  have hc := cntR_le M i
  have h9 : CRel ρ [q9 .geq at9 (.lit 0) true, q9 .leq at9 (.lit 256) true] := qD (show at9.den ρ = _ from varD h.i9) (litD 0) (by simp [intCmp]) (qD (show at9.den ρ = _ from varD h.i9) (litD 256) (by simp [intCmp]; omega) c0)
  cases z with
  | false => exact h9
  | true =>
    obtain ⟨h22, _, h1⟩ := h.so rfl
    exact CRel_app.2 ⟨h9, qD (varD h22) (litD 1) (by simp [intCmp]; omega) (qD (varD h22) (litD 256) (by simp [intCmp]; omega) (qD (varD h22) (litD _) (by simp [intCmp]; omega) c0))⟩
/-- What comes out of it. -/
def PR (w : World) (M : List Int) (v : Value) (w' : World) : Prop := (cntR M 256 = 0 ∧ v = .slice none 0 0 ∧ Framed w w') ∨ (cntR M 256 ≠ 0 ∧ RowOut w w' v 95 [.i64, .i64] (prL M 256) (cntR M 256))
theorem adP_den {c : IT} {L : List Int} {v : Int} (h : JPr M i z ρ) (hg : mGet M (i : Int) = some v) (hv : 0 ≤ v ∧ v ≤ 1023) (hi : i < 256) (hc : c.den ρ = some (encL L)) : (adP c).den ρ = some (encL (L ++ [(i : Int), v])) := by
  have e9 : at9.den ρ = some (i : Int) := varD h.i9
  have ec : (c9 (.var 7)).den ρ = some (v + 1) := by
    rw [c9_den (varD h.i7) h.i9, decL_encL, arrL_get (by omega), enM, hg]; rfl
  have ed : (IT.bin .sub .i64 (c9 (.var 7)) (.lit 1)).den ρ = some v := by
    rw [minusD ec (litD 1) (by omega) (by omega)]; congr 1; omega
  have := snoc_den (snoc_den hc e9) ed
  rw [List.append_assoc] at this
  exact this
theorem pairs42 (w : World) (hm : MOk M) : Calls Try.prog 42 #[.agg (arV (encL (arrL M)) 256).toArray] w fun e w' => ∃ v, e = .returned v ∧ PR w M v w' := by
  obtain ⟨ρ, hρ⟩ : ∃ ρ : Env, ρ = ⟨fun _ => encL (arrL M), fun _ => false, fun _ => default, fun _ => undef, fun _ => none, F0⟩ := ⟨_, rfl⟩
  have h7 : ρ.I 7 = encL (arrL M) := by rw [hρ]
  have hx : AVal.denL ρ [arA (.var 7)] = some [.agg (arV (encL (arrL M)) 256).toArray] := denL1 (by
    have := uniC_den (n := 256) (varD h7)
    simp only [arA, AVal.den]
    rw [this]; rfl)
  have loop := scanM (β := .plain w) (sp := spL []) (f := 42) (fn := Try.f42) (j := 0) (Rs := eP) (Ts := tP) (R := PR w M) (T := TP) (noSp0 _) (fun z ρ => ∃ i, JPr M i z ρ) (fun ρ => ((256 : Int) - ρ.I 9).toNat) fun z ρ ⟨i, j⟩ hG hcs ih => by
    have hi := j.le
    by_cases hlt : i < 256
    · have e9 : at9.den ρ = some (i : Int) := varD j.i9
      have ec : (c9 (.var 7)).den ρ = some (encO (mGet M (i : Int))) := by
        rw [c9_den (varD j.i7) j.i9, decL_encL, arrL_get (by omega), enM]
      have ep := en_pos hm i
      cases hg : mGet M (i : Int) with
      | none =>
        rw [hg] at ec ep
        have hz : cntR M (i + 1) = cntR M i := by
          show (if 0 < enM M i then cntR M i + 1 else cntR M i) = _
          rw [if_neg (by simpa using ep)]
        have hl : prL M (i + 1) = prL M i := by simp only [prL, hg]
        have f : CRel ρ (goC false) := qD e9 (litD 256) (by simp [intCmp]; omega) (qD ec (litD 0) rfl c0)
        cases z with
        | false =>
          refine ⟨_, _, f, p42_0n, one (nextR (T := TP false) rfl (fun l hl => by cases hl) fun ρ' hle hG' => ?_)⟩
          have j' := j.of_le hle
          have jn : JPr M (i + 1) false ((sP0 up9).app ρ') := ⟨sbI (t := up9) rfl (upD (varD j'.i9) (by omega)), hlt, j'.i7, (fun _ => by rw [hz]; exact j.no rfl), fun h => by cases h⟩
          exact ⟨trivial, jn.cs, fun a w' r => ih false _ (by rw [jn.i9, j.i9]; omega) ⟨_, jn⟩ _ a w' (.inl rfl) r⟩
        | true =>
          refine ⟨_, _, f, p42_1n, one (nextR (T := TP true) rfl (fun l hl => by cases hl) fun ρ' hle hG' => ?_)⟩
          have j' := j.of_le hle
          obtain ⟨h22, h23, h1⟩ := j'.so rfl
          have jn : JPr M (i + 1) true ((sP1 (.var 22) (.var 23) 13 12).app ρ') := ⟨sbI (t := up9) rfl (upD (varD j'.i9) (by omega)), hlt, j'.i7, (fun h => by cases h), fun _ => by
            rw [hz, hl]
            exact ⟨sbI (t := .var 22) rfl (varD h22), sbI (t := .var 23) rfl (varD h23), h1⟩⟩
          exact ⟨trivial, jn.cs, fun a w' r => ih true _ (by rw [jn.i9, j.i9]; omega) ⟨_, jn⟩ _ a w' (.inl rfl) r⟩
      | some v =>
        have hv := hm.vl _ _ hg
        rw [hg] at ec ep
        have hz : cntR M (i + 1) = cntR M i + 1 := by
          show (if 0 < enM M i then cntR M i + 1 else cntR M i) = _
          rw [if_pos (by simpa using ep)]
        have hl : prL M (i + 1) = prL M i ++ [(i : Int), v] := by simp only [prL, hg]
        have hcl := cntR_le M i
        have f : CRel ρ (goC true) := qD e9 (litD 256) (by simp [intCmp]; omega) (qD ec (litD 0) (by simp [intCmp, encO]; omega) c0)
        cases z with
        | false =>
          refine ⟨_, _, f, p42_0y, one (nextR (T := TP true) rfl (fun l hl => by cases hl) fun ρ' hle hG' => ?_)⟩
          have j' := j.of_le hle
          have hc0 := j.no rfl
          have hl0 : prL M i = [] := List.eq_nil_of_length_eq_zero (by rw [prL_len hm, hc0])
          have jn : JPr M (i + 1) true ((sP1 (.lit 1) (adP (.lit 0)) 502 501).app ρ') := ⟨sbI (t := up9) rfl (upD (varD j'.i9) (by omega)), hlt, j'.i7, (fun h => by cases h), fun _ => by
            rw [hz, hl, hc0, hl0]
            exact ⟨sbI (t := .lit 1) rfl rfl, sbI (t := adP (.lit 0)) rfl (adP_den j' hg hv hlt nil_den), Nat.le_refl _⟩⟩
          exact ⟨trivial, jn.cs, fun a w' r => ih true _ (by rw [jn.i9, j.i9]; omega) ⟨_, jn⟩ _ a w' (.inl rfl) r⟩
        | true =>
          refine ⟨_, _, f, p42_1y, one (nextR (T := TP true) rfl (fun l hl => by cases hl) fun ρ' hle hG' => ?_)⟩
          have j' := j.of_le hle
          obtain ⟨h22, h23, h1⟩ := j'.so rfl
          have jn : JPr M (i + 1) true ((sP1 up22 (adP (.var 23)) 502 501).app ρ') := ⟨sbI (t := up9) rfl (upD (varD j'.i9) (by omega)), hlt, j'.i7, (fun h => by cases h), fun _ => by
            rw [hz, hl]
            exact ⟨sbI (t := up22) rfl (upD (varD h22) (by omega)), sbI (t := adP (.var 23)) rfl (adP_den j' hg hv hlt (varD h23)), by omega⟩⟩
          exact ⟨trivial, jn.cs, fun a w' r => ih true _ (by rw [jn.i9, j.i9]; omega) ⟨_, jn⟩ _ a w' (.inl rfl) r⟩
    · obtain rfl : i = 256 := by omega
      have f : CRel ρ [q9 .lss at9 (.lit 256) false] := qD (show at9.den ρ = _ from varD j.i9) (litD 256) (by simp [intCmp]) c0
      cases z with
      | false =>
        refine ⟨_, _, f, p42_0e, one (doneR rfl (fun l hl => by cases hl) fun ρ' hle hG' => ⟨trivial, c0, fun x w' r => ?_⟩)⟩
        obtain ⟨y, hy, he⟩ := r.t 0 _ rfl
        obtain rfl : x = y := Option.some.inj he
        exact .inl ⟨j.no rfl, (Option.some.inj hy).symm, Framed.of r.h⟩
      | true =>
        refine ⟨_, _, f, p42_1e, one (doneR rfl (fun l hl => by cases hl) fun ρ' hle hG' => ⟨trivial, c0, fun x w' r => ?_⟩)⟩
        obtain ⟨y, hy, he⟩ := r.t 0 _ rfl
        obtain rfl : x = y := Option.some.inj he
        obtain ⟨h22, h23, h1⟩ := (j.of_le hle).so rfl
        exact .inr ⟨by omega, row_out (l := 13) (j := 12) (nT := .var 22) (c := .var 23) rfl r.h rfl hy (varD (sbI (t := .var 22) rfl (varD h22))) (varD (sbI (t := .var 23) rfl (varD h23)))⟩
  refine callM (β := .plain w) (noSp0 _) Try.func42 rfl p42_in hx (HRel.ro [] (fun p hp => by cases hp) (fun i _ => by rw [hρ]) trivial) c0 (one (nextR (T := TP false) rfl (fun l hl => by cases hl) fun ρ' hle hG' => ?_))
  have jn : JPr M 0 false ((sP0 (.lit 0)).app ρ') := ⟨sbI (t := .lit 0) rfl rfl, by omega, by show ρ'.I 7 = _; rw [hle.i]; exact h7, (fun _ => rfl), fun h => by cases h⟩
  exact ⟨trivial, jn.cs, fun a w' r => loop false _ ⟨0, jn⟩ _ a w' (.inr rfl) r⟩
end
end Lt
end Go.Proofs.Ytpgonpjakllnjaa
end

/-
  LinearTells (36): rows of pairs that are the same.
-/
section
namespace Go.Proofs.Ytpgonpjakllnjaa
open Go.Vm Go.Vm.Md Lm
namespace Lt

def pr1 (l c : Nat) : AVal := .slice l (.lit 0) (.var 22) (.nv c)
def pkB (c : Nat) : ABlk := .arr (.code [.i64, .i64] (.var 23)) [.i64, .i64] 95 (.var 22) (.lit 0) (some (.nv c))
def E40 : List (Nat × ABlk) := [(10, pkB 14), (11, pkB 15)]
def cs40 : Cs := [q9 .geq (.var 22) (.lit 1) true, q9 .leq (.var 22) (.lit 256) true, q9 .leq (.var 22) (.lit 1000000) true]
def T40 : Tpl := ⟨[(0, pr1 10 14), (1, pr1 11 15), (12, .int .i64 (.var 22)), (13, iV 9)], 26, roH E40, 500, [q9 .geq at9 (.lit 0) true, q9 .leq at9 (.var 22) true] ++ cs40, 3⟩
def s40 (t : IT) : Sub := ⟨[(22, .var 22), (9, t), (23, .var 23)], [], [], [], [(10, 10), (14, 14), (11, 11), (15, 15)]⟩
theorem q40_in : RCn 500 (spL []) 40 Try.f40 [T40] [pr1 10 14, pr1 11 15] (ofP (roH E40)) cs40 [.next 0 (.code (.loop (lb Try.f40 0)) :: lq Try.f40 0) [] (s40 (.lit 0))] := by unfold RCn; kernel_rfl
theorem q40_r : RH (spL []) 40 Try.f40 0 [T40] T40 [q9 .lss at9 (.var 22) true] [.next 0 (.inLoop (lb Try.f40 0) :: lq Try.f40 0) [] (s40 up9)] := by unfold RH; kernel_rfl
theorem q40_e : RH (spL []) 40 Try.f40 0 [T40] T40 [q9 .lss at9 (.var 22) false] [.ret (.bool (.lit true)) []] := by unfold RH; kernel_rfl
noncomputable def R40n (l : List LS) : Prop := (run Try.prog [] (spL []) 4000 (PL.only []) 40 (entry Try.f40 (Try.f40.body.getD .ret) [.sliceNil, .sliceNil] .leaf 300 [])).map (·.filterMap (sumD gM [])) = some l
theorem q40_n : R40n [.ret (.bool (.lit true)) []] := by unfold R40n; kernel_rfl
/-- Such a row of pairs. -/
def PV (w : World) (L : List Int) (n : Nat) (v : Value) : Prop := ∃ b cap c f, v = .slice (some ⟨b, 0, none⟩) n cap ∧ w.heap[b]? = some (.cells c 95 f) ∧ rowOf [.i64, .i64] L <+: c.toList ∧ c.size = cap * 2
structure J40 (n i : Nat) (L : List Int) (ρ : Env) : Prop where
  i9 : ρ.I 9 = (i : Int)
  le : i ≤ n
  i22 : ρ.I 22 = (n : Int)
  i23 : ρ.I 23 = encL L
theorem J40.of_le {n i : Nat} {L : List Int} {ρ ρ' : Env} (h : J40 n i L ρ) (g : ρ.Le ρ') : J40 n i L ρ' := ⟨by rw [g.i]; exact h.i9, h.le, by rw [g.i]; exact h.i22, by rw [g.i]; exact h.i23⟩
theorem same40n (w : World) : Calls Try.prog 40 #[.slice none 0 0, .slice none 0 0] w fun e w' => e = .returned (.bool true) ∧ Framed w w' :=
  toE (calls_sumsD (β := .plain w) (Q := fun v => v = .bool true) (ρ := E0) (args := [.sliceNil, .sliceNil]) (xs := [.slice none 0 0, .slice none 0 0]) (cs := []) (g := gM) (Ts := []) (pl := PL.only []) noCount noExt (noSp0 _) follows rfl Try.func40 rfl q40_n rfl (HRel.ro [] (fun p hp => by cases hp) (fun i _ => rfl) trivial) c0 (one (retS (z := .bool true) (fun _ _ => rfl) rfl)))
theorem same40 {w : World} {L : List Int} {n : Nat} {v1 v2 : Value} (h1 : PV w L n v1) (h2 : PV w L n v2) (hL : L.length = n * 2) (n1 : 1 ≤ n) (n2 : n ≤ 256) : Calls Try.prog 40 #[v1, v2] w fun e w' => e = .returned (.bool true) ∧ Framed w w' := by
  obtain ⟨b1, cap1, c1', f1, rfl, ho1, hp1, hs1⟩ := h1
  obtain ⟨b2, cap2, c2', f2, rfl, ho2, hp2, hs2⟩ := h2
  obtain ⟨ρ, hρ⟩ : ∃ ρ : Env, ρ = ⟨fun i => if i = 22 then (n : Int) else encL L, fun _ => false, fun _ => default, fun _ => undef, fun i => if i = 10 then some b1 else if i = 11 then some b2 else if i = 14 then some cap1 else if i = 15 then some cap2 else none, F0⟩ := ⟨_, rfl⟩
  have h22 : ρ.I 22 = (n : Int) := by rw [hρ]; rfl
  have h23 : ρ.I 23 = encL L := by rw [hρ]; rfl
  have rel : ∀ {c cap : Nat} {cc : Array Value} {fr : Nat × Nat}, ρ.N c = some cap → rowOf [.i64, .i64] L <+: cc.toList → cc.size = cap * 2 → (pkB c).rel ρ false (.cells cc 95 fr) := fun {c cap cc fr} hc hp hs => by
    refine ⟨rowOf [.i64, .i64] L, cc, fr, 95, n, 0, rfl, (fun e => by cases e), ?_, rfl, ⟨Nat.zero_le _, by rw [List.drop_zero]; exact hp⟩, varD h22, rowOf_typed (by rw [hL]; rfl), ⟨cap, nvD hc, by rw [Nat.sub_zero]; exact hs⟩, (fun e => by cases e)⟩
    simp only [AT.den, varD h23, Option.map_some, decL_encL]
  have hr : HRel (.plain w) ρ (ofP (roH E40)) 500 w := by
    refine HRel.ro E40 (fun p hp' => ?_) (fun i hi => ?_) trivial
    · simp only [E40, List.mem_cons, List.not_mem_nil, or_false] at hp'
      rcases hp' with rfl | rfl
      · exact ⟨b1, _, by rw [hρ]; rfl, ho1, rel (by rw [hρ]; rfl) hp1 hs1⟩
      · exact ⟨b2, _, by rw [hρ]; rfl, ho2, rel (by rw [hρ]; rfl) hp2 hs2⟩
    · rw [hρ]
      show (if i = 10 then some b1 else if i = 11 then some b2 else if i = 14 then some cap1 else if i = 15 then some cap2 else none) = none
      rw [if_neg (by omega), if_neg (by omega), if_neg (by omega), if_neg (by omega)]
  have hx : AVal.denL ρ [pr1 10 14, pr1 11 15] = some [.slice (some ⟨b1, 0, none⟩) n cap1, .slice (some ⟨b2, 0, none⟩) n cap2] := denL2 (den_slice_of (by rw [hρ]; rfl) rfl (varD h22) (nvD (by rw [hρ]; rfl))) (den_slice_of (by rw [hρ]; rfl) rfl (varD h22) (nvD (by rw [hρ]; rfl)))
  have c40 : ∀ {ρ : Env}, ρ.I 22 = (n : Int) → CRel ρ cs40 := fun h => qD (varD h) (litD 1) (by simp [intCmp]; omega) (qD (varD h) (litD 256) (by simp [intCmp]; omega) (qD (varD h) (litD _) (by simp [intCmp]; omega) c0))
  have cs : ∀ {i ρ}, J40 n i L ρ → CRel ρ T40.cs := fun j => by
    have := j.le
    exact CRel_app.2 ⟨qD (show at9.den _ = _ from varD j.i9) (litD 0) (by simp [intCmp]) (qD (show at9.den _ = _ from varD j.i9) (varD j.i22) (by simp [intCmp]; omega) c0), c40 j.i22⟩
  have nx : ∀ {i ρ t} {k : Nat}, J40 n i L ρ → t.den ρ = some (k : Int) → k ≤ n → J40 n k L ((s40 t).app ρ) := fun {i ρ t k} j ht hk => ⟨sbI (t := t) rfl ht, hk, sbI (t := .var 22) rfl (varD j.i22), sbI (t := .var 23) rfl (varD j.i23)⟩
  have loop := scan (β := .plain w) (sp := spL []) (f := 40) (fn := Try.f40) (j := 0) (T := T40) (Ts := [T40]) (noSp0 _) rfl (Q := fun v => v = .bool true) (fun ρ => ∃ i, J40 n i L ρ) (fun ρ => ((n : Int) - ρ.I 9).toNat) fun ρ ⟨i, j⟩ hG hcs _ ih => by
    have hi := j.le
    have e9 : at9.den ρ = some (i : Int) := varD j.i9
    by_cases hlt : i < n
    · refine ⟨_, _, qD e9 (varD j.i22) (by simp [intCmp]; omega) c0, q40_r, one (nextS rfl fun ρ' hle hG' => ?_)⟩
      have j' := j.of_le hle
      have jn := nx j' (upD (varD j'.i9) (by omega)) hlt
      exact ⟨trivial, cs jn, fun a w' r => ih _ (by rw [jn.i9, j.i9]; omega) ⟨_, jn⟩ _ a w' (.inl rfl) r⟩
    · exact ⟨_, _, qD e9 (varD j.i22) (by simp [intCmp]; omega) c0, q40_e, one (retS (z := .bool true) (fun _ _ => rfl) rfl)⟩
  refine toE (callSn (β := .plain w) (noSp0 _) rfl Try.func40 rfl q40_in hx hr (c40 h22) (one (nextS rfl fun ρ' hle hG' => ?_)))
  have j0 : J40 n 0 L ((s40 (.lit 0)).app ρ') := ⟨sbI (t := .lit 0) rfl rfl, by omega, sbI (t := .var 22) rfl (varD (by rw [hle.i]; exact h22)), sbI (t := .var 23) rfl (varD (by rw [hle.i]; exact h23))⟩
  exact ⟨trivial, cs j0, fun a w' r => loop _ ⟨0, j0⟩ _ a w' (.inr rfl) r⟩
end Lt
end Go.Proofs.Ytpgonpjakllnjaa
end

/-
  LinearTells (37): the program's listed, given slices.Sorted of a map's keys.
-/
section
namespace Go.Proofs.Ytpgonpjakllnjaa
open Go.Vm Go.Vm.Md Lm
namespace Lt

/-- A map's keys, rising; such keys with what the map has. -/
def keysI (M : List Int) : List Int := (keysR M 256).map fun (j : Nat) => (j : Int)
def prF (M K : List Int) : List Int := K.flatMap fun k => [k, (mGet M k).getD 0]
theorem prL_F (M : List Int) : ∀ n, prL M n = prF M ((keysR M n).map fun (j : Nat) => (j : Int))
  | 0 => rfl
  | n + 1 => by
    have ih := prL_F M n
    unfold prL keysR
    rw [List.range_succ, List.filter_append]
    cases hg : mGet M (n : Int) with
    | none =>
      simp only [List.filter_cons, hg, Option.isSome_none, List.filter_nil, Bool.false_eq_true, if_false, List.append_nil]
      exact ih
    | some v =>
      simp only [List.filter_cons, hg, Option.isSome_some, List.filter_nil, if_true]
      rw [ih]
      unfold prF keysR
      rw [List.map_append, List.flatMap_append]
      simp [hg]
theorem prF_all {M : List Int} : prF M (keysI M) = prL M 256 := (prL_F M 256).symm
theorem keysI_len {M : List Int} (h : MOk M) : (keysI M).length = cntR M 256 := by rw [keysI, List.length_map, cntR_len h]
/-- slices.Sorted(maps.Keys(m)). -/
def SrtC (M : List Int) : Prop := ∀ (w : World) (bb bm : Nat) (es : Array MapEntry) (cl : Nat), bb < w.heap.size → w.cell? ⟨bb, 0, none⟩ = some (.map (some bm)) → w.heap[bm]? = some (.map es cl) → es.toList.map (fun e => (e.key, e.val)) = entM M → BornM es cl →
  Calls Try.prog 69 #[.func (.func 75) #[] #[.pointer (some ⟨bb, 0, none⟩)]] w fun e w' => ∃ v, e = .returned v ∧ ((keysI M = [] ∧ v = .slice none 0 0 ∧ Framed w w') ∨ (keysI M ≠ [] ∧ RowOut w w' v 3 [.i64] (keysI M) (keysI M).length))
def mpB : ABlk := .mapc (.var 7)
def srB (c : Nat) : HB := ⟨.arr (.code [.i64] (.var 26)) [.i64] 3 (.var 27) (.lit 0) (some (.nv c)), true⟩
def spSr (z : Bool) : SpG := fun args H nl cs => match args with
  | [.func (.func 75) [] [.ptr lb (.lit (.ofNat 0))]] => match H.get lb with
    | some ⟨.cells [.map l] _ none, _⟩ => match H.get l with
      | some ⟨.mapc (.var 7), _⟩ => cond z (some [.ret .sliceNil H nl cs]) (some [.ret (.slice (nl + 1) (.lit 0) (.var 27) (.nv nl)) (H.set (nl + 1) (srB nl)) (nl + 2) cs])
      | _ => none
    | _ => none
  | _ => none
def G62 (M : List Int) : GP := fun I _ _ _ _ => I 7 = encL M ∧ I 26 = encL (keysI M) ∧ I 27 = ((keysI M).length : Int)
theorem cell0 {w : World} {b : Nat} {c : Array Value} {e : TypeId} {f : Nat × Nat} (h : w.heap[b]? = some (.cells c e f)) : w.cell? ⟨b, 0, none⟩ = c[0]? := by
  simp only [World.cell?, h]; rfl
theorem spSr_ok {M : List Int} (hs : SrtC M) {β : Base} (hβ : β.G = G62 M) {z : Bool} (hz : z = true ↔ keysI M = []) : SpGOk Try.prog β 69 (spSr z) := by
  intro args H nl cs ls ρ w xs hr hx hh hc
  have hG : (G62 M).at ρ := by have := hh.g; rw [hβ] at this; exact this
  obtain ⟨g7, g26, g27⟩ := hG
  unfold spSr at hr
  split at hr
  rotate_left
  · cases hr
  rename_i lb
  split at hr
  rotate_left
  · cases hr
  rename_i l el rwb hgb
  split at hr
  rotate_left
  · cases hr
  rename_i rw2 hgl
  obtain ⟨bb, o, hNb, ho, xs1, c, fr, rfl, hd, hp, ht, _⟩ := hh.blk lb _ hgb
  obtain ⟨bm, o2, hNm, ho2, x, es, cl, rfl, hx2, hes, hbn⟩ := hh.blk l _ hgl
  have hd' : AVal.denL ρ [.map l] = some [.map (some bm)] := denL1 (by simp only [AVal.den, hNm, Option.map_some])
  obtain rfl : [.map (some bm)] = xs1 := Option.some.inj (hd'.symm.trans hd)
  have hcell : w.cell? ⟨bb, 0, none⟩ = some (.map (some bm)) := by
    rw [cell0 ho]
    obtain ⟨t, ht'⟩ := hp
    rw [← Array.getElem?_toList, ← ht']; rfl
  have ha : AVal.denL ρ [.func (.func 75) [] [.ptr lb (.lit 0)]] = some [.func (.func 75) #[] #[.pointer (some ⟨bb, 0, none⟩)]] := denL1 (by simp only [AVal.den, AVal.denL, hNb]; rfl)
  obtain rfl : [.func (.func 75) #[] #[.pointer (some ⟨bb, 0, none⟩)]] = xs := Option.some.inj (ha.symm.trans hx)
  have hxM : x = encL M := by
    have : (IT.var 7).den ρ = some (encL M) := varD g7
    exact (Option.some.inj (this.symm.trans hx2)).symm
  refine (hs w bb bm es cl (Array.getElem?_eq_some_iff.1 ho).1 hcell ho2 (by rw [entM_eq, ← decL_encL M, ← hxM]; exact hes) hbn).mono fun e w' ⟨v, he, h⟩ => ⟨v, he, ?_⟩
  cases z with
  | true =>
    simp only [cond_true, Option.some.injEq] at hr
    subst hr
    rcases h with ⟨_, rfl, hf⟩ | ⟨hne, _⟩
    · exact ⟨.sliceNil, H, nl, cs, ρ, List.mem_cons_self, Env.Le.refl ρ, rfl, hh.framed hf, hc⟩
    · exact absurd (hz.1 rfl) hne
  | false =>
    simp only [cond_false, Option.some.injEq] at hr
    subst hr
    rcases h with ⟨h0, _⟩ | ⟨_, ro⟩
    · have := hz.2 h0; cases this
    · obtain ⟨ρ', hle, hd, hr'⟩ := row_in hh ro (nT := .var 27) (c := .var 26) (varD g27) (varD g26)
      exact ⟨_, _, _, _, ρ', List.mem_cons_self, hle, hd, hr', hc.mono hle⟩
-- LISTED
def ksV : AVal := .slice 17 (.lit 0) (.var 27) (.nv 16)
def c27 : Cs := [q9 .geq (.var 27) (.lit 1) true, q9 .leq (.var 27) (.lit 256) true, q9 .leq (.var 27) (.lit 1000000) true]
def c22' : Cs := [q9 .geq (.var 22) (.lit 1) true, q9 .leq (.var 22) (.lit 256) true, q9 .leq (.var 22) (.lit 1000000) true]
def T62 : Bool → Tpl
  | true => ⟨[(0, .map 2), (3, vP), (8, ksV), (9, .int .i64 (.var 27)), (10, iV 9)], 24, [(2, ⟨mpB, false⟩), (17, srB 16), (13, pB (.var 23) (.var 22))], 500, cs9 (.var 27) ++ c27 ++ c22', 3⟩
  | false => ⟨[(0, .map 2), (3, .sliceNil), (8, ksV), (9, .int .i64 (.var 27)), (10, iV 9)], 24, [(2, ⟨mpB, false⟩), (17, srB 16)], 500, cs9 (.var 27) ++ c27, 3⟩
def t62 : List Tpl := [T62 true, T62 false]
def kT : IT := .un 0 (.var 26) (.elem (.lit 0) 1 0 at9)
def adK (c : IT) : IT := .un 3 (.un 3 c kT) (.un 5 (.var 7) kT)
def sK0 : Sub := ⟨[(27, .var 27), (9, .lit 0), (7, .var 7), (26, .var 26)], [], [], [], [(2, 2), (17, 502), (16, 501)]⟩
def sK1 (n c : IT) : Sub := ⟨[(22, n), (27, .var 27), (9, up9), (7, .var 7), (26, .var 26), (23, c)], [], [], [], [(2, 2), (13, 502), (12, 501), (17, 17), (16, 16)]⟩
def spL6 (z : Bool) : CallF := spL [(69, spSr z)]
theorem l62_in : RCM (spL6 false) 62 Try.f62 eP t62 [.map 2] (ofP (roH [(2, mpB)])) c27 [.next 1 (.code (.loop (lb Try.f62 0)) :: lq Try.f62 0) [] sK0] := by unfold RCM; kernel_rfl
theorem l62_0 : RHM (spL6 false) 62 Try.f62 0 eP t62 (T62 false) [q9 .lss at9 (.var 27) true] [.next 0 (.inLoop (lb Try.f62 0) :: lq Try.f62 0) [] (sK1 (.lit 1) (adK (.lit 0)))] := by unfold RHM; kernel_rfl
theorem l62_1 : RHM (spL6 false) 62 Try.f62 0 eP t62 (T62 true) [q9 .lss at9 (.var 27) true] [.next 0 (.inLoop (lb Try.f62 0) :: lq Try.f62 0) [] (sK1 up22 (adK (.var 23)))] := by unfold RHM; kernel_rfl
theorem l62_e : RHM (spL6 false) 62 Try.f62 0 eP t62 (T62 true) [q9 .lss at9 (.var 27) false] [.done 0 [] sPe] := by unfold RHM; kernel_rfl
noncomputable def R62n (l : List LM) : Prop := (run Try.prog [] (spL6 true) 4000 (PL.only []) 62 (entry Try.f62 (Try.f62.body.getD .ret) [.map 2] (ofP (roH [(2, mpB)])) 500 [])).map (·.filterMap (sumMD gM [] eP [])) = some l
theorem l62_n : R62n [.done 1 [] ⟨[], [], [], [], []⟩] := by unfold R62n; kernel_rfl
structure J62 (M : List Int) (i : Nat) (z : Bool) (ρ : Env) : Prop where
  i9 : ρ.I 9 = (i : Int)
  le : i ≤ (keysI M).length
  no : z = false → i = 0
  so : z = true → ρ.I 22 = (i : Int) ∧ ρ.I 23 = encL (prF M ((keysI M).take i)) ∧ 1 ≤ i
section
variable {M : List Int} {i : Nat} {z : Bool} {ρ : Env}
theorem J62.of_le {ρ' : Env} (h : J62 M i z ρ) (g : ρ.Le ρ') : J62 M i z ρ' := ⟨by rw [g.i]; exact h.i9, h.le, h.no, fun e => by rw [g.i]; exact h.so e⟩
theorem J62.cs (hm : MOk M) (hne : 1 ≤ (keysI M).length) (hG : (G62 M).at ρ) (h : J62 M i z ρ) : CRel ρ (T62 z).cs := by
  have := h.le
  have hc := cntR_le M 256
  have hl := keysI_len hm
  have e27 : (IT.var 27).den ρ = some ((keysI M).length : Int) := varD hG.2.2
  have h9 : CRel ρ (cs9 (.var 27) ++ c27) := CRel_app.2 ⟨cs9_ok h.i9 e27 h.le, qD e27 (litD 1) (by simp [intCmp]; omega) (qD e27 (litD 256) (by simp [intCmp]; omega) (qD e27 (litD _) (by simp [intCmp]; omega) c0))⟩
  cases z with
  | false => exact h9
  | true =>
    obtain ⟨h22, _, h1⟩ := h.so rfl
    exact CRel_app.2 ⟨h9, qD (varD h22) (litD 1) (by simp [intCmp]; omega) (qD (varD h22) (litD 256) (by simp [intCmp]; omega) (qD (varD h22) (litD _) (by simp [intCmp]; omega) c0))⟩
theorem adK_den {c : IT} (hG : (G62 M).at ρ) (h9 : ρ.I 9 = (i : Int)) (hi : i < (keysI M).length) (hc : c.den ρ = some (encL (prF M ((keysI M).take i)))) : (adK c).den ρ = some (encL (prF M ((keysI M).take (i + 1)))) := by
  have e9 : at9.den ρ = some (i : Int) := varD h9
  have ek : kT.den ρ = some ((keysI M).getD i 0) := by
    have := nthC_den (s := 0) (y := i) (varD hG.2.1) e9
    rw [Nat.zero_add, decL_encL] at this
    exact this
  have ev : (IT.un 5 (.var 7) kT).den ρ = some ((mGet M ((keysI M).getD i 0)).getD 0) := by
    rw [unD (varD hG.1) ek]
    show some ((mGet (decL (encL M)) _).getD 0) = _
    rw [decL_encL]
  have := snoc_den (snoc_den hc ek) ev
  rw [List.append_assoc] at this
  rw [adK, this, List.take_succ_eq_append_getElem hi, prF, prF, List.flatMap_append]
  simp [List.getD_eq_getElem?_getD, hi]
theorem keepG {σ : Sub} (hG : (G62 M).at ρ) (h7 : lk σ.I 7 = some (.var 7)) (h26 : lk σ.I 26 = some (.var 26)) (h27 : lk σ.I 27 = some (.var 27)) : (G62 M).at (σ.app ρ) :=
  ⟨sbI (t := .var 7) h7 (varD hG.1), sbI (t := .var 26) h26 (varD hG.2.1), sbI (t := .var 27) h27 (varD hG.2.2)⟩
theorem listed62 (hm : MOk M) (hs : SrtC M) {w : World} {bm : Nat} {es : Array MapEntry} {cl : Nat} (hob : w.heap[bm]? = some (.map es cl)) (hes : es.toList.map (fun e => (e.key, e.val)) = entM M) (hbn : BornM es cl) : Calls Try.prog 62 #[.map (some bm)] w fun e w' => ∃ v, e = .returned v ∧ PR w M v w' := by
  obtain ⟨ρ, hρ⟩ : ∃ ρ : Env, ρ = ⟨fun i => if i = 7 then encL M else if i = 26 then encL (keysI M) else ((keysI M).length : Int), fun _ => false, fun _ => default, fun _ => undef, fun i => if i = 2 then some bm else none, F0⟩ := ⟨_, rfl⟩
  have hG : (G62 M).at ρ := by rw [hρ]; exact ⟨rfl, rfl, rfl⟩
  have hl := keysI_len hm
  have hr : HRel ⟨w, [], G62 M⟩ ρ (ofP (roH [(2, mpB)])) 500 w := by
    refine HRel.ro [(2, mpB)] (fun p hp => ?_) (fun i hi => ?_) hG
    · rw [List.mem_singleton.1 hp]
      exact ⟨bm, _, by rw [hρ]; rfl, hob, encL M, es, cl, rfl, varD hG.1, by rw [decL_encL, ← entM_eq]; exact hes, hbn⟩
    · rw [hρ]; exact if_neg (by omega)
  have hx : AVal.denL ρ [.map 2] = some [.map (some bm)] := denL1 (by rw [hρ]; rfl)
  by_cases h0 : keysI M = []
  · have hsp : CallOk Try.prog ⟨w, [], G62 M⟩ (spL6 true) := spL_ok fun p hp => by
      rw [List.mem_singleton.1 hp]
      exact spSr_ok hs rfl (by simp [h0])
    refine calls_sumsE (β := ⟨w, [], G62 M⟩) (R := PR w M) (g := gM) (L := []) (Rs := eP) (Ts := []) (pl := PL.only []) noCount noExt hsp follows Try.func62 rfl l62_n hx hr c0 (one (doneR rfl (fun l hl => by cases hl) fun ρ' hle hG' => ⟨hG', c0, fun x w' r => ?_⟩))
    obtain ⟨y, hy, he⟩ := r.t 0 _ rfl
    obtain rfl : x = y := Option.some.inj he
    exact .inl ⟨by rw [← hl, h0]; rfl, (Option.some.inj hy).symm, Framed.of r.h⟩
  · have hne : 1 ≤ (keysI M).length := List.length_pos_iff.2 h0
    have hsp : CallOk Try.prog ⟨w, [], G62 M⟩ (spL6 false) := spL_ok fun p hp => by
      rw [List.mem_singleton.1 hp]
      exact spSr_ok hs rfl (by simp [h0])
    have hc256 := cntR_le M 256
    have e27 : ∀ {ρ : Env}, (G62 M).at ρ → (IT.var 27).den ρ = some ((keysI M).length : Int) := fun h => varD h.2.2
    have loop := scanM (β := ⟨w, [], G62 M⟩) (sp := spL6 false) (f := 62) (fn := Try.f62) (j := 0) (Rs := eP) (Ts := t62) (R := PR w M) (T := T62) hsp (fun z ρ => ∃ i, J62 M i z ρ) (fun ρ => (((keysI M).length : Int) - ρ.I 9).toNat) fun z ρ ⟨i, j⟩ hG hcs ih => by
      have hi := j.le
      have e9 : at9.den ρ = some (i : Int) := varD j.i9
      by_cases hlt : i < (keysI M).length
      · have f : CRel ρ [q9 .lss at9 (.var 27) true] := qD e9 (e27 hG) (by simp [intCmp]; omega) c0
        cases z with
        | false =>
          obtain rfl := j.no rfl
          refine ⟨_, _, f, l62_0, one (nextR (T := T62 true) rfl (fun l hl => by cases hl) fun ρ' hle hG' => ?_)⟩
          have j' := j.of_le hle
          have jn : J62 M 1 true ((sK1 (.lit 1) (adK (.lit 0))).app ρ') := ⟨sbI (t := up9) rfl (upD (varD j'.i9) (by omega)), hlt, (fun h => by cases h), fun _ => ⟨sbI (t := .lit 1) rfl rfl, sbI (t := adK (.lit 0)) rfl (adK_den hG' j'.i9 hlt nil_den), Nat.le_refl _⟩⟩
          have hGn := keepG (σ := sK1 (.lit 1) (adK (.lit 0))) hG' rfl rfl rfl
          exact ⟨hGn, jn.cs hm hne hGn, fun a w' r => ih true _ (by rw [jn.i9, j.i9]; omega) ⟨_, jn⟩ _ a w' (.inl rfl) r⟩
        | true =>
          refine ⟨_, _, f, l62_1, one (nextR (T := T62 true) rfl (fun l hl => by cases hl) fun ρ' hle hG' => ?_)⟩
          have j' := j.of_le hle
          obtain ⟨h22, h23, h1⟩ := j'.so rfl
          have jn : J62 M (i + 1) true ((sK1 up22 (adK (.var 23))).app ρ') := ⟨sbI (t := up9) rfl (upD (varD j'.i9) (by omega)), hlt, (fun h => by cases h), fun _ => ⟨sbI (t := up22) rfl (upD (varD h22) (by omega)), sbI (t := adK (.var 23)) rfl (adK_den hG' j'.i9 hlt (varD h23)), by omega⟩⟩
          have hGn := keepG (σ := sK1 up22 (adK (.var 23))) hG' rfl rfl rfl
          exact ⟨hGn, jn.cs hm hne hGn, fun a w' r => ih true _ (by rw [jn.i9, j.i9]; omega) ⟨_, jn⟩ _ a w' (.inl rfl) r⟩
      · have hil : i = (keysI M).length := by omega
        have f : CRel ρ [q9 .lss at9 (.var 27) false] := qD e9 (e27 hG) (by simp [intCmp]; omega) c0
        cases z with
        | false => have := j.no rfl; omega
        | true =>
          refine ⟨_, _, f, l62_e, one (doneR rfl (fun l hl => by cases hl) fun ρ' hle hG' => ?_)⟩
          obtain ⟨h22, h23, h1⟩ := (j.of_le hle).so rfl
          have hGn : (G62 M).at (sPe.app ρ') := hG'
          refine ⟨hGn, c0, fun x w' r => ?_⟩
          obtain ⟨y, hy, he⟩ := r.t 0 _ rfl
          obtain rfl : x = y := Option.some.inj he
          have e23 : (IT.var 23).den (sPe.app ρ') = some (encL (prL M 256)) := varD (sbI (t := .var 23) rfl (by
            rw [show (IT.var 23).den ρ' = some (encL (prF M ((keysI M).take i))) from varD h23, hil, List.take_length, prF_all]))
          have e22 : (IT.var 22).den (sPe.app ρ') = some (cntR M 256 : Int) := varD (sbI (t := .var 22) rfl (by
            rw [show (IT.var 22).den ρ' = some (i : Int) from varD h22, hil, hl]))
          exact .inr ⟨by omega, row_out (l := 13) (j := 12) (nT := .var 22) (c := .var 23) rfl r.h rfl hy e22 e23⟩
    have c27' : CRel ρ c27 := qD (e27 hG) (litD 1) (by simp [intCmp]; omega) (qD (e27 hG) (litD 256) (by simp [intCmp]; omega) (qD (e27 hG) (litD _) (by simp [intCmp]; omega) c0))
    refine callM hsp Try.func62 rfl l62_in hx hr c27' (one (nextR (T := T62 false) rfl (fun l hl => by cases hl) fun ρ' hle hG' => ?_))
    have jn : J62 M 0 false (sK0.app ρ') := ⟨sbI (t := .lit 0) rfl rfl, by omega, (fun _ => rfl), fun h => by cases h⟩
    have hGn := keepG (σ := sK0) hG' rfl rfl rfl
    exact ⟨hGn, jn.cs hm hne hGn, fun a w' r => loop false _ ⟨0, jn⟩ _ a w' (.inr rfl) r⟩
end
end Lt
end Go.Proofs.Ytpgonpjakllnjaa
end
