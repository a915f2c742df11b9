/-
  LinearTells (7): Replay.
-/
import Derived.Test.YtpgonpjakllnjaaLt6
import Derived.Test.YtpgonpjakllnjaaVm30
section
namespace Go.Proofs.Ytpgonpjakllnjaa
open Go.Vm Go.Vm.Md Lm
namespace Lt

def rO : HB := ⟨.arr (.code [.i64, .i64] (.var 23)) [.i64, .i64] 27 (.var 22) (.lit 0) (some (.nv 12)), true⟩
def mR : HB := ⟨.big 0 (.var 21), true⟩
def TR (k : Kd) : Bool → Tpl
  | false => ⟨[(0, SL k), (6, .ptr 14 (.lit 0)), (7, .sliceNil), (13, SO .row), (14, .int .i64 (.var 38)), (15, iV 9)], 36, roH (EE k .row) ++ [(14, mR)], 500, cs9 (.var 38) ++ csE k .row, 3⟩
  | true => ⟨[(0, SL k), (6, .ptr 14 (.lit 0)), (7, vI), (13, SO .row), (14, .int .i64 (.var 38)), (15, iV 9)], 36, roH (EE k .row) ++ [(14, mR)] ++ [(13, rO)], 500, cs9 (.var 38) ++ csE k .row ++ csV, 3⟩
def eR : List Tpl := [⟨[(0, .tuple [vI, .ptr 14 (.lit 0)])], 1, [(14, mR), (13, rO)], 20, [], 0⟩, ⟨[(0, .tuple [.sliceNil, .ptr 14 (.lit 0)])], 1, [(14, mR)], 20, [], 0⟩]
def tR (k : Kd) : List Tpl := [TR k false, TR k true]
def spR : CallF := spL [(10, spNew), (11, spApply)]
def oR : IT := opT (rT (oT at9) 2) (rT (oT at9) 3) (rT (oT at9) 4) (rT (oT at9) 5)
def ouT (c : IT) : IT := .un 3 (.un 3 c (.fn 70 (.var 21) oR)) (.fn 71 (.var 21) oR)
def n0 : Kd → List (Nat × Nat)
  | .nil => []
  | _ => [(0, 0)]
noncomputable def nx12 (q : Nat) (σ : Sub) : List LM := [.next q (.inLoop (lb Try.f12 0) :: lq Try.f12 0) [] σ]
def s12a (k : Kd) : Sub := ⟨[(9, .lit 0), (21, m0T)], [], [], [], n0 k ++ [(14, 500), (1, 1)]⟩
def s12b : Sub := ⟨[(22, .lit 1), (9, up9), (21, .fn 72 (.var 21) oR), (23, ouT (.lit 0))], [], [], [], [(0, 0), (14, 14), (13, 504), (12, 503), (1, 1)]⟩
def s12c (k : Kd) : Sub := ⟨[(9, up9), (21, .var 21)], [], [], [], n0 k ++ [(14, 14), (1, 1)]⟩
def s12d : Sub := ⟨[(22, up22), (9, up9), (21, .fn 72 (.var 21) oR), (23, ouT (.var 23))], [], [], [], [(0, 0), (14, 14), (13, 504), (12, 503), (1, 1)]⟩
def s12e : Sub := ⟨[(22, .var 22), (9, up9), (21, .var 21), (23, .var 23)], [], [], [], [(0, 0), (14, 14), (13, 13), (12, 12), (1, 1)]⟩
def s12f : Sub := ⟨[(22, .var 22), (21, .var 21), (23, .var 23)], [], [], [], [(13, 13), (12, 12), (14, 14)]⟩
def s12g : Sub := ⟨[(21, .var 21)], [], [], [], [(14, 14)]⟩
/-- Below 0; not below 0, and too great. -/
def ngB (a : IT) : Cs := [q9 .lss a (.lit 0) true]
def ngC (k : Kd) (a : IT) : Cs := [q9 .lss a (.lit 0) false, q9 .geq a (nL k) true]
theorem p_in (k : Kd) : RCM spR 12 Try.f12 eR (tR k) [SL k, SO .row] (ofP (roH (EE k .row))) (csE k .row) [.next 0 (.code (.loop (lb Try.f12 0)) :: lq Try.f12 0) [] (s12a k)] := by unfold RCM; cases k <;> kernel_rfl
theorem p_0b (k : Kd) : RHM spR 12 Try.f12 0 eR (tR k) (TR k false) (lt9 (.var 38) true ++ ngB (oT at9)) (nx12 0 (s12c k)) := by unfold RHM; cases k <;> kernel_rfl
theorem p_0c (k : Kd) : RHM spR 12 Try.f12 0 eR (tR k) (TR k false) (lt9 (.var 38) true ++ ngC k (oT at9)) (nx12 0 (s12c k)) := by unfold RHM; cases k <;> kernel_rfl
theorem p_0e (k : Kd) : RHM spR 12 Try.f12 0 eR (tR k) (TR k false) (lt9 (.var 38) false) [.done 1 [] s12g] := by unfold RHM; cases k <;> kernel_rfl
theorem p_0y : RHM spR 12 Try.f12 0 eR (tR .row) (TR .row false) (lt9 (.var 38) true ++ inL (oT at9)) (nx12 1 s12b) := by unfold RHM; kernel_rfl
theorem p_1y : RHM spR 12 Try.f12 0 eR (tR .row) (TR .row true) (lt9 (.var 38) true ++ inL (oT at9)) (nx12 1 s12d) := by unfold RHM; kernel_rfl
theorem p_1b : RHM spR 12 Try.f12 0 eR (tR .row) (TR .row true) (lt9 (.var 38) true ++ ngB (oT at9)) (nx12 1 s12e) := by unfold RHM; kernel_rfl
theorem p_1c : RHM spR 12 Try.f12 0 eR (tR .row) (TR .row true) (lt9 (.var 38) true ++ ngC .row (oT at9)) (nx12 1 s12e) := by unfold RHM; kernel_rfl
theorem p_1e : RHM spR 12 Try.f12 0 eR (tR .row) (TR .row true) (lt9 (.var 38) false) [.done 0 [] s12f] := by unfold RHM; kernel_rfl
section
variable {d : Dt} {ρ : Env}
theorem inR_ways (ok : DOk d) (hG : (Gd d).at ρ) {a : IT} {k : Int} (ha : a.den ρ = some k) : (d.inR k = true ∧ d.kl = .row ∧ CRel ρ (inL a)) ∨ (d.inR k = false ∧ (CRel ρ (ngB a) ∨ CRel ρ (ngC d.kl a))) := by
  by_cases h0 : 0 ≤ k
  · by_cases h1 : k < (d.n : Int)
    · have e : d.inR k = true := by simp [Dt.inR, h0, h1]
      refine .inl ⟨e, ?_, inL_ok hG ha e⟩
      have hk := ok.kl
      cases hd : d.kl with
      | nil => rw [hd] at hk; simp only at hk; omega
      | zero => rw [hd] at hk; simp only at hk; omega
      | row => rfl
    · exact .inr ⟨by simp [Dt.inR, h1], .inr (qD ha (litD 0) (by simp [intCmp]; omega) (qD ha (dnL ok hG) (by simp [intCmp]; omega) c0))⟩
  · exact .inr ⟨by simp [Dt.inR, h0], .inl (qD ha (litD 0) (by simp [intCmp]; omega) c0)⟩
end
/-- A list that is told by a name, and how many elements. -/
structure JU (L : List Int) (c : Nat) (ρ : Env) : Prop where
  i22 : ρ.I 22 = (c : Int)
  i23 : ρ.I 23 = encL L
  ge : 1 ≤ c
  le : c ≤ 60
theorem JU.of_le {L : List Int} {c : Nat} {ρ ρ' : Env} (h : JU L c ρ) (g : ρ.Le ρ') : JU L c ρ' := ⟨by rw [g.i]; exact h.i22, by rw [g.i]; exact h.i23, h.ge, h.le⟩
theorem JU.cs {L : List Int} {c : Nat} {ρ : Env} (h : JU L c ρ) : CRel ρ csV := by
  have h1 := h.ge
  have h2 := h.le
  exact qD (varD h.i22) (litD 1) (by simp [intCmp]; omega) (qD (varD h.i22) (litD 60) (by simp [intCmp]; omega) (qD (varD h.i22) (litD _) (by simp [intCmp]; omega) c0))
structure JR0 (d : Dt) (i : Nat) (ρ : Env) : Prop where
  i9 : ρ.I 9 = (i : Int)
  le : i ≤ d.m
  i21 : ρ.I 21 = (d.stO i).code
theorem JR0.of_le {d : Dt} {i : Nat} {ρ ρ' : Env} (h : JR0 d i ρ) (g : ρ.Le ρ') : JR0 d i ρ' := ⟨by rw [g.i]; exact h.i9, h.le, by rw [g.i]; exact h.i21⟩
def JR (d : Dt) : Bool → Env → Prop
  | false => fun ρ => ∃ i, JR0 d i ρ ∧ d.cn i = 0
  | true => fun ρ => d.kl = .row ∧ ∃ i, JR0 d i ρ ∧ JU (d.ouO i) (d.cn i) ρ
/-- What Replay hands out. -/
def RR (d : Dt) (w : World) : Value → World → Prop := fun v w' => ∃ vr b, ∃ F' : Nat → Prop, v = .tuple #[vr, .pointer (some ⟨b, 0, none⟩)] ∧ fam 0 (d.stO d.m).code w' b F' ∧ (∀ z, F' z → w.heap.size ≤ z) ∧ Framed w w' ∧
  ((d.cn d.m = 0 ∧ vr = .slice none 0 0) ∨ (d.cn d.m ≠ 0 ∧ RowOut w w' vr 27 [.i64, .i64] (d.ouO d.m) (d.cn d.m) ∧ ∀ br n c, vr = .slice (some ⟨br, 0, none⟩) n c → ¬ F' br))
theorem tuple2 {ρ : Env} {a b : AVal} {x y : Value} (h : a.den ρ = some x) (g : b.den ρ = some y) : (AVal.tuple [a, b]).den ρ = some (.tuple #[x, y]) := by
  have := denL2 h g
  simp only [AVal.den]
  rw [this]; rfl
theorem stepO {d : Dt} {ρ : Env} {i : Nat} (hG : (Gd d).at ρ) (h9 : ρ.I 9 = (i : Int)) (h21 : ρ.I 21 = (d.stO i).code) (hin : d.inR (d.o i) = true) :
    (IT.fn 72 (.var 21) oR).den ρ = some (d.stO (i + 1)).code ∧ ∀ {c : IT} {L : List Int}, c.den ρ = some (encL L) → (ouT c).den ρ = some (encL (L ++ [(d.anO i).1, (d.anO i).2])) := by
  obtain ⟨_, _, _, _, g70, g71, g72⟩ := hG.2.1
  have e9 : at9.den ρ = some (i : Int) := varD h9
  have eo := oT_den hG e9
  have eO : oR.den ρ = some (encL [d.c (d.o i) 2, d.c (d.o i) 3, d.c (d.o i) 4, d.c (d.o i) 5]) := opT_den (rT_den hG eo 2) (rT_den hG eo 3) (rT_den hG eo 4) (rT_den hG eo 5)
  have e70 : (IT.fn 70 (.var 21) oR).den ρ = some (d.anO i).1 := by rw [fnD (varD h21) eO, g70]; simp only [apO_enc]; rfl
  have e71 : (IT.fn 71 (.var 21) oR).den ρ = some (d.anO i).2 := by rw [fnD (varD h21) eO, g71]; simp only [apO_enc]; rfl
  refine ⟨?_, fun hc => ?_⟩
  · rw [fnD (varD h21) eO, g72, Dt.stO, if_pos hin]; simp only [apO_enc]; rfl
  · have := snoc_den (snoc_den hc e70) e71
    rw [List.append_assoc] at this
    exact this
theorem replay12 {d : Dt} (ok : DOk d) (hk : d.ko = .row) {ρ : Env} {w : World} {xs : List Value} (hr : HRel ⟨w, [], Gd d⟩ ρ (ofP (roH (EE d.kl .row))) 500 w) (hx : AVal.denL ρ [SL d.kl, SO .row] = some xs) :
    Calls Try.prog 12 xs.toArray w fun e w' => ∃ v, e = .returned v ∧ RR d w v w' := by
  have hm := ok.m60
  have hsp : CallOk Try.prog ⟨w, [], Gd d⟩ spR := spL_ok fun p hp => by
    simp only [List.mem_cons, List.not_mem_nil, or_false] at hp
    rcases hp with rfl | rfl
    · exact spNew_ok
    · exact spApply_ok fun _ _ _ _ _ h => h.2.1
  have cse : ∀ {ρ : Env}, (Gd d).at ρ → CRel ρ (csE d.kl .row) := fun hG => by have := dcE ok hG; rw [hk] at this; exact this
  have c0' : ∀ {i ρ}, JR0 d i ρ → (Gd d).at ρ → CRel ρ (TR d.kl false).cs := fun j hG => CRel_app.2 ⟨cs9_ok j.i9 (pM hG) j.le, cse hG⟩
  have c1' : ∀ {i ρ L c}, JR0 d i ρ → JU L c ρ → (Gd d).at ρ → CRel ρ (TR d.kl true).cs := fun j v hG => CRel_app.2 ⟨CRel_app.2 ⟨cs9_ok j.i9 (pM hG) j.le, cse hG⟩, v.cs⟩
  have loop := scanM (β := ⟨w, [], Gd d⟩) (sp := spR) (f := 12) (fn := Try.f12) (j := 0) (Rs := eR) (Ts := tR d.kl) (R := RR d w) (T := TR d.kl) hsp (JR d) (fun ρ => ((d.m : Int) - ρ.I 9).toNat) fun z ρ hJ hG hcs ih => by
    cases z with
    | false =>
      obtain ⟨i, j, hc⟩ := hJ
      have hi := j.le
      by_cases hlt : i < d.m
      · have e9 : at9.den ρ = some (i : Int) := varD j.i9
        have go := lt9_ok (b := true) j.i9 (pM hG) (decide_eq_true hlt)
        have skip : d.inR (d.o i) = false → ∀ s ∈ nx12 0 (s12c d.kl), MGoodO Try.prog ⟨w, [], Gd d⟩ 12 (RR d w) eR (tR d.kl) ρ s := fun hin => one (nextR rfl (fun l hl => by cases hl) fun ρ' hle hG' => by
          have j' := j.of_le hle
          have jn : JR0 d (i + 1) ((s12c d.kl).app ρ') := ⟨sbI (t := up9) rfl (upD (varD j'.i9) (by omega)), hlt, by rw [Dt.stO, if_neg (by rw [hin]; decide)]; exact sbI (t := .var 21) rfl (varD j'.i21)⟩
          have hGn : (Gd d).at ((s12c d.kl).app ρ') := gKeep rfl hG'
          exact ⟨hGn, c0' jn hGn, fun a w' r => ih false _ (by rw [jn.i9, j.i9]; omega) ⟨_, jn, by rw [Dt.cn, if_neg (by rw [hin]; decide)]; exact hc⟩ _ a w' (.inl rfl) r⟩)
        rcases inR_ways ok hG (oT_den hG e9) with ⟨hin, hl, f⟩ | ⟨hin, f | f⟩
        · have hcn : d.cn (i + 1) = 1 := by rw [Dt.cn, if_pos hin, hc]
          have hou : d.ouO i = [] := List.eq_nil_of_length_eq_zero (by rw [d.ou_len, hc])
          rw [hl] at c1' c0' ih ⊢
          refine ⟨_, _, CRel_app.2 ⟨go, f⟩, p_0y, one (nextR rfl (fun l hl => by cases hl) fun ρ' hle hG' => ?_)⟩
          have j' := j.of_le hle
          obtain ⟨s1, s2⟩ := stepO hG' j'.i9 j'.i21 hin
          have jn : JR0 d (i + 1) (s12b.app ρ') := ⟨sbI (t := up9) rfl (upD (varD j'.i9) (by omega)), hlt, sbI rfl s1⟩
          have un : JU (d.ouO (i + 1)) (d.cn (i + 1)) (s12b.app ρ') := by
            rw [hcn, Dt.ouO, if_pos hin, hou]
            exact ⟨rfl, sbI (t := ouT (.lit 0)) rfl (s2 nil_den), Nat.le_refl _, by decide⟩
          have hGn : (Gd d).at (s12b.app ρ') := gKeep rfl hG'
          exact ⟨hGn, c1' jn un hGn, fun a w' r => ih true _ (by rw [jn.i9, j.i9]; omega) ⟨hl, _, jn, un⟩ _ a w' (.inl rfl) r⟩
        · exact ⟨_, _, CRel_app.2 ⟨go, f⟩, p_0b _, skip hin⟩
        · exact ⟨_, _, CRel_app.2 ⟨go, f⟩, p_0c _, skip hin⟩
      · obtain rfl : i = d.m := by omega
        refine ⟨_, _, lt9_ok j.i9 (pM hG) (decide_eq_false hlt), p_0e _, one (doneR rfl (fun l hl => by cases hl) fun ρ' hle hG' => ⟨gKeep rfl hG', c0, fun x w' r => ?_⟩)⟩
        obtain ⟨y, hy, he⟩ := r.t 0 _ rfl
        obtain rfl : x = y := Option.some.inj he
        have j' := j.of_le hle
        obtain ⟨Fp, hB⟩ := r.h.big
        obtain ⟨b, xv, hN, hxv, hf, h0⟩ := hB.ok 14 0 (.var 21) true rfl
        have e21 : (s12g.app ρ').I 21 = (d.stO d.m).code := sbI (t := .var 21) rfl (varD j'.i21)
        obtain rfl : (d.stO d.m).code = xv := by have := varD e21; rw [hxv] at this; exact (Option.some.inj this).symm
        have hp : (AVal.ptr 14 (.lit 0)).den (s12g.app ρ') = some (.pointer (some ⟨b, 0, none⟩)) := by simp only [AVal.den, hN]; rfl
        have hz := tuple2 (a := .sliceNil) (x := .slice none 0 0) rfl hp
        exact ⟨_, b, Fp 14, Option.some.inj (hy.symm.trans hz), hf, h0 rfl, Framed.of r.h, .inl ⟨hc, rfl⟩⟩
    | true =>
      obtain ⟨hl, i, j, hu⟩ := hJ
      have hi := j.le
      rw [hl] at c1' c0' ih ⊢
      by_cases hlt : i < d.m
      · have e9 : at9.den ρ = some (i : Int) := varD j.i9
        have go := lt9_ok (b := true) j.i9 (pM hG) (decide_eq_true hlt)
        have skip : d.inR (d.o i) = false → ∀ s ∈ nx12 1 s12e, MGoodO Try.prog ⟨w, [], Gd d⟩ 12 (RR d w) eR (tR .row) ρ s := fun hin => one (nextR rfl (fun l hl => by cases hl) fun ρ' hle hG' => by
          have j' := j.of_le hle
          have u' := hu.of_le hle
          have jn : JR0 d (i + 1) (s12e.app ρ') := ⟨sbI (t := up9) rfl (upD (varD j'.i9) (by omega)), hlt, by rw [Dt.stO, if_neg (by rw [hin]; decide)]; exact sbI (t := .var 21) rfl (varD j'.i21)⟩
          have un : JU (d.ouO (i + 1)) (d.cn (i + 1)) (s12e.app ρ') := by
            rw [Dt.cn, if_neg (by rw [hin]; decide), Dt.ouO, if_neg (by rw [hin]; decide)]
            exact ⟨u'.i22, u'.i23, u'.ge, u'.le⟩
          have hGn : (Gd d).at (s12e.app ρ') := gKeep rfl hG'
          exact ⟨hGn, c1' jn un hGn, fun a w' r => ih true _ (by rw [jn.i9, j.i9]; omega) ⟨hl, _, jn, un⟩ _ a w' (.inl rfl) r⟩)
        have ways := inR_ways ok hG (oT_den hG e9)
        rw [hl] at ways
        rcases ways with ⟨hin, _, f⟩ | ⟨hin, f | f⟩
        · refine ⟨_, _, CRel_app.2 ⟨go, f⟩, p_1y, one (nextR rfl (fun l hl => by cases hl) fun ρ' hle hG' => ?_)⟩
          have j' := j.of_le hle
          have u' := hu.of_le hle
          obtain ⟨s1, s2⟩ := stepO hG' j'.i9 j'.i21 hin
          have jn : JR0 d (i + 1) (s12d.app ρ') := ⟨sbI (t := up9) rfl (upD (varD j'.i9) (by omega)), hlt, sbI rfl s1⟩
          have hcl := d.cn_le i
          have un : JU (d.ouO (i + 1)) (d.cn (i + 1)) (s12d.app ρ') := by
            rw [Dt.cn, if_pos hin, Dt.ouO, if_pos hin]
            exact ⟨sbI (t := up22) rfl (upD (varD u'.i22) (by omega)), sbI (t := ouT (.var 23)) rfl (s2 (varD u'.i23)), by omega, by omega⟩
          have hGn : (Gd d).at (s12d.app ρ') := gKeep rfl hG'
          exact ⟨hGn, c1' jn un hGn, fun a w' r => ih true _ (by rw [jn.i9, j.i9]; omega) ⟨hl, _, jn, un⟩ _ a w' (.inl rfl) r⟩
        · exact ⟨_, _, CRel_app.2 ⟨go, f⟩, p_1b, skip hin⟩
        · exact ⟨_, _, CRel_app.2 ⟨go, f⟩, p_1c, skip hin⟩
      · obtain rfl : i = d.m := by omega
        refine ⟨_, _, lt9_ok j.i9 (pM hG) (decide_eq_false hlt), p_1e, one (doneR rfl (fun l hl => by cases hl) fun ρ' hle hG' => ⟨gKeep rfl hG', c0, fun x w' r => ?_⟩)⟩
        obtain ⟨y, hy, he⟩ := r.t 0 _ rfl
        obtain rfl : x = y := Option.some.inj he
        have j' := j.of_le hle
        have u' := hu.of_le hle
        obtain ⟨Fp, hB⟩ := r.h.big
        obtain ⟨b, xv, hN, hxv, hf, h0⟩ := hB.ok 14 0 (.var 21) true rfl
        have e21 : (s12f.app ρ').I 21 = (d.stO d.m).code := sbI (t := .var 21) rfl (varD j'.i21)
        obtain rfl : (d.stO d.m).code = xv := by have := varD e21; rw [hxv] at this; exact (Option.some.inj this).symm
        have hp : (AVal.ptr 14 (.lit 0)).den (s12f.app ρ') = some (.pointer (some ⟨b, 0, none⟩)) := by simp only [AVal.den, hN]; rfl
        cases hsl : vI.den (s12f.app ρ') with
        | none => simp only [AVal.den, AVal.denL, hsl] at hy; cases hy
        | some vr =>
          have hz := tuple2 hsl hp
          refine ⟨vr, b, Fp 14, Option.some.inj (hy.symm.trans hz), hf, h0 rfl, Framed.of r.h, .inr ⟨by have := hu.ge; omega, row_out (l := 13) (j := 12) (nT := .var 22) (c := .var 23) rfl r.h rfl hsl (varD u'.i22) (varD u'.i23), fun br n c hv hF => ?_⟩⟩
          obtain ⟨b', o', n', c', hv', hN', _⟩ := den_slice (show (AVal.slice 13 (.lit 0) (.var 22) (.nv 12)).den (s12f.app ρ') = some vr from hsl)
          rw [hv] at hv'
          cases hv'
          exact (hB.apart 14 13 0 (.var 21) true rO rfl rfl (by decide) br hF).1 hN'
  refine callM hsp Try.func12 rfl (p_in d.kl) hx hr (cse hr.g) (one (nextR rfl (fun l hl => by cases hl) fun ρ' hle hG' => ?_))
  have jn : JR0 d 0 ((s12a d.kl).app ρ') := ⟨sbI (t := .lit 0) rfl rfl, by omega, sbI (t := m0T) rfl m0T_den⟩
  have hGn : (Gd d).at ((s12a d.kl).app ρ') := gKeep rfl hG'
  exact ⟨hGn, c0' jn hGn, fun a w' r => loop false _ ⟨0, jn, rfl⟩ _ a w' (.inr rfl) r⟩
/-- No answer; some. -/
def spRep (k : Kd) (z : Bool) : SpG := fun args H nl cs =>
  cond (AVal.beqL args [SL k, SO .row] && (hasE (EE k .row) H && Nat.ble nl 500))
    (cond z (some [.ret (.tuple [.sliceNil, .ptr nl (.lit 0)]) (H.set nl ⟨.big 0 (.var 40), true⟩) (nl + 1) cs])
      (some [.ret (.tuple [.slice (nl + 1) (.lit 0) (.var 42) (.nv nl), .ptr (nl + 2) (.lit 0)]) ((H.set (nl + 1) ⟨.arr (.code [.i64, .i64] (.var 41)) [.i64, .i64] 27 (.var 42) (.lit 0) (some (.nv nl)), true⟩).set (nl + 2) ⟨.big 0 (.var 40), true⟩) (nl + 3) cs])) none
theorem spRep_ok {d : Dt} (ok : DOk d) (hk : d.ko = .row) {z : Bool} (hz : z = true ↔ d.cn d.m = 0) {β : Base} (hβ : β.G = Gd d) : SpGOk Try.prog β 12 (spRep d.kl z) := by
  intro args H nl cs ls ρ w xs hr hx hh hc
  have hG : (Gd d).at ρ := by have := hh.g; rw [hβ] at this; exact this
  unfold spRep at hr
  cases hb : (AVal.beqL args [SL d.kl, SO .row] && (hasE (EE d.kl .row) H && Nat.ble nl 500)) with
  | false => rw [hb] at hr; cases hr
  | true =>
    rw [hb] at hr; simp only [cond_true] at hr
    simp only [Bool.and_eq_true] at hb
    obtain ⟨h1, h2, h3⟩ := hb
    obtain rfl := AVal.beqL_eq _ _ h1
    have hr2 := ofE hh h2 (Nat.le_of_ble_eq_true h3) (nb_EE _ _)
    rw [hβ] at hr2
    have e40 : (IT.var 40).den ρ = some (d.stO d.m).code := pin hG (by simp [pins])
    have e41 : (IT.var 41).den ρ = some (encL (d.ouO d.m)) := pin hG (by simp [pins])
    have e42 : (IT.var 42).den ρ = some (d.cn d.m : Int) := pin hG (by simp [pins])
    refine (replay12 ok hk hr2 hx).mono fun e w' ⟨v, he, vr, b, F', hv, hf, hF, hfr, h⟩ => ?_
    cases z with
    | true =>
      simp only [cond_true, Option.some.injEq] at hr
      subst hr
      rcases h with ⟨_, rfl⟩ | ⟨hne, _⟩
      · have hh' := hh.bigNew hfr hf hF e40
        have hle := Env.le_put (b := b) (hh.fresh nl (Nat.le_refl _))
        exact ⟨v, he, _, _, _, _, ρ.put nl b, List.mem_cons_self, hle, by rw [hv]; exact tuple2 (a := .sliceNil) rfl (by simp only [AVal.den, Env.put_same]; rfl), hh', hc.mono hle⟩
      · exact absurd (hz.1 rfl) hne
    | false =>
      simp only [cond_false, Option.some.injEq] at hr
      subst hr
      rcases h with ⟨h0, _⟩ | ⟨hne, ro, hnF⟩
      · have := hz.2 h0; cases this
      · obtain ⟨br, cap, c0, f, rfl, hbr, hob, hp, hcs, hfr2⟩ := ro.row
        have x1 := (HX.start hh hfr).num cap
        have hle1 : ρ.Le (ρ.put nl cap) := Env.le_put (hh.fresh nl (Nat.le_refl _))
        have hle2 : (ρ.put nl cap).Le ((ρ.put nl cap).put (nl + 1) br) := Env.le_put (x1.h.fresh _ (Nat.le_refl _))
        have hcapd : (IT.nv nl).den ((ρ.put nl cap).put (nl + 1) br) = some (cap : Int) := nvD (hle2.n _ _ (Env.put_same ..))
        have e42' := IT.den_mono (hle1.trans hle2) e42
        have hrel : (ABlk.arr (.code [.i64, .i64] (.var 41)) [.i64, .i64] 27 (.var 42) (.lit 0) (some (.nv nl))).rel ((ρ.put nl cap).put (nl + 1) br) true (.cells c0 27 f) := by
          refine ⟨rowOf [.i64, .i64] (d.ouO d.m), c0, f, 27, d.cn d.m, 0, rfl, fun _ => rfl, ?_, rfl, ⟨Nat.zero_le _, by rw [List.drop_zero]; exact hp⟩, e42', rowOf_typed ro.len, ⟨cap, hcapd, by rw [Nat.sub_zero]; exact hcs⟩, fun _ => hfr2⟩
          simp only [AT.den, IT.den_mono (hle1.trans hle2) e41, Option.map_some, decL_encL]
        have x2 := x1.row hbr (fun h => h) hob hrel
        have hle3 : ((ρ.put nl cap).put (nl + 1) br).Le (((ρ.put nl cap).put (nl + 1) br).put (nl + 1 + 1) b) := Env.le_put (x2.h.fresh _ (Nat.le_refl _))
        have x3 := x2.big hf (fun y hy => ⟨hF y hy, fun h => by
          rcases h with h | rfl
          · exact h
          · exact hnF _ _ _ rfl hy⟩) (IT.den_mono (hle1.trans hle2) e40)
        have hle := (hle1.trans hle2).trans hle3
        have hN1 : (((ρ.put nl cap).put (nl + 1) br).put (nl + 1 + 1) b).N (nl + 1) = some br := hle3.n _ _ (Env.put_same ..)
        have hN0 : (((ρ.put nl cap).put (nl + 1) br).put (nl + 1 + 1) b).N nl = some cap := (hle2.trans hle3).n _ _ (Env.put_same ..)
        exact ⟨v, he, _, _, _, _, _, List.mem_cons_self, hle, by rw [hv]; exact tuple2 (den_slice_of hN1 rfl (IT.den_mono hle e42) (nvD hN0)) (by simp only [AVal.den, Env.put_same]; rfl), x3.h, hc.mono hle⟩
end Lt
end Go.Proofs.Ytpgonpjakllnjaa
end

/-
  LinearTells (8): what was seen, plainly; member.
-/
section
namespace Go.Proofs.Ytpgonpjakllnjaa
open Go.Vm Go.Vm.Md Lm
namespace Lt

-- WHAT WAS SEEN
theorem get_put : ∀ (L : List Int) (k v x : Int), L.length % 2 = 0 → mGet (mPut L k v) x = if k = x then some v else mGet L x
  | [], k, v, x, _ => by
    by_cases h : k = x <;> simp [mPut, mGet, h]
  | [_], k, v, x, h => by simp at h
  | a :: b :: r, k, v, x, h => by
    have hr : r.length % 2 = 0 := by simp only [List.length_cons] at h; omega
    by_cases e : a = k
    · subst e
      by_cases e2 : a = x <;> simp [mPut, mGet, e2]
    · simp only [mPut, if_neg e, mGet, get_put r k v x hr]
      by_cases e2 : a = x
      · subst e2
        rw [if_pos rfl, if_neg (fun h => e h.symm), if_pos rfl]
      · rw [if_neg e2, if_neg e2]
theorem len_put : ∀ (L : List Int) (k v : Int), L.length % 2 = 0 → (mPut L k v).length = if (mGet L k).isSome = true then L.length else L.length + 2
  | [], k, v, _ => by simp [mPut, mGet]
  | [_], k, v, h => by simp at h
  | a :: b :: r, k, v, h => by
    have hr : r.length % 2 = 0 := by simp only [List.length_cons] at h; omega
    by_cases e : a = k
    · simp [mPut, mGet, e]
    · simp only [mPut, if_neg e, mGet, List.length_cons, len_put r k v hr]
      split <;> omega
namespace Dt
variable (d : Dt)
theorem seen_even : ∀ t, (d.seen t).length % 2 = 0
  | 0 => rfl
  | t + 1 => by
    have := seen_even t
    rw [seen, len_put _ _ _ this]; split <;> omega
theorem hasN_succ (t : Nat) (k : Int) : d.hasN (t + 1) k = (d.hasN t k || decide (d.o t = k)) := rfl
/-- How often. -/
def cnt (k : Int) : Nat → Nat
  | 0 => 0
  | t + 1 => if d.o t = k then cnt k t + 1 else cnt k t
theorem cnt_le (k : Int) : ∀ t, d.cnt k t ≤ t
  | 0 => Nat.le_refl _
  | t + 1 => by
    have := cnt_le k t
    unfold cnt; split <;> omega
theorem cnt_has (k : Int) : ∀ t, d.hasN t k = decide (0 < d.cnt k t)
  | 0 => rfl
  | t + 1 => by
    rw [hasN_succ, cnt_has k t, cnt]
    by_cases h : d.o t = k
    · rw [if_pos h]; simp [h]
    · rw [if_neg h]; simp [h]
theorem seen_get (k : Int) : ∀ t, mGet (d.seen t) k = if 0 < d.cnt k t then some (d.cnt k t : Int) else none
  | 0 => rfl
  | t + 1 => by
    rw [seen, get_put _ _ _ _ (d.seen_even t), seen_get k t, cnt]
    by_cases h : d.o t = k
    · subst h
      rw [if_pos rfl, if_pos rfl, seen_get (d.o t) t, if_pos (Nat.succ_pos _)]
      congr 1
      split
      · rfl
      · rename_i h0
        have : d.cnt (d.o t) t = 0 := by omega
        rw [this]; rfl
    · rw [if_neg h, if_neg h]
theorem seen_getD (k : Int) (t : Nat) : (mGet (d.seen t) k).getD 0 = (d.cnt k t : Int) := by
  rw [d.seen_get]
  split
  · rfl
  · show (0 : Int) = _; omega
theorem seen_len : ∀ t, (d.seen t).length ≤ 2 * t ∧ (anyT d.w2 t = false ↔ (d.seen t).length = 2 * t)
  | 0 => ⟨Nat.le_refl _, by simp [anyT, seen]⟩
  | t + 1 => by
    obtain ⟨h1, h2⟩ := seen_len t
    have hw : d.w2 t = (mGet (d.seen t) (d.o t)).isSome := by
      rw [w2, cnt_has, d.seen_get]
      by_cases h : 0 < d.cnt (d.o t) t
      · rw [if_pos h]; simp [h]
      · rw [if_neg h]; simp [h]
    rw [seen, len_put _ _ _ (d.seen_even t), anyT, Bool.or_eq_false_iff, hw]
    cases hs : (mGet (d.seen t) (d.o t)).isSome with
    | true => simp only [if_true]; exact ⟨by omega, by simp; omega⟩
    | false => simp only [Bool.false_eq_true, if_false]; exact ⟨by omega, by simp [h2]; omega⟩
/-- Fewer were seen than stand in the order: one stands there twice. -/
theorem seen_fewer (t : Nat) : anyT d.w2 t = decide ((d.seen t).length / 2 < t) := by
  obtain ⟨h1, h2⟩ := d.seen_len t
  have h3 := d.seen_even t
  cases h : anyT d.w2 t with
  | false => have := h2.1 h; simp; omega
  | true =>
    have : (d.seen t).length ≠ 2 * t := fun e => by rw [h2.2 e] at h; cases h
    simp; omega
/-- The invocations at their places. -/
theorem iv_mem {i : Nat} : ∀ {t : Nat}, i < (d.iv t).length → ∃ k : Nat, (d.iv t).getD i 0 = (k : Int) ∧ k < t ∧ d.c (k : Int) 1 = 2
  | 0, h => by simp [iv] at h
  | t + 1, h => by
    unfold iv at h ⊢
    split
    · rename_i hk
      rw [if_pos hk] at h
      rcases Nat.lt_or_ge i (d.iv t).length with h1 | h1
      · obtain ⟨k, h2, h3, h4⟩ := iv_mem h1
        exact ⟨k, by rw [List.getD_eq_getElem?_getD, List.getElem?_append_left h1, ← List.getD_eq_getElem?_getD]; exact h2, by omega, h4⟩
      · rw [List.length_append] at h
        have h5 : i = (d.iv t).length := by simp at h; omega
        subst h5
        exact ⟨t, by rw [List.getD_eq_getElem?_getD, List.getElem?_append_right (Nat.le_refl _), Nat.sub_self]; rfl, by omega, hk⟩
    · rename_i hk
      rw [if_neg hk] at h
      obtain ⟨k, h2, h3, h4⟩ := iv_mem h
      exact ⟨k, h2, by omega, h4⟩
/-- Of the invocations, told by their numbers. -/
theorem iv_any {p : Nat → Bool} (hp : ∀ k, p k = true → d.c (k : Int) 1 = 2) : ∀ t, anyT p t = anyT (fun i => p ((d.iv t).getD i 0).toNat) (d.iv t).length
  | 0 => rfl
  | t + 1 => by
    by_cases hk : d.c (t : Int) 1 = 2
    · have e : d.iv (t + 1) = d.iv t ++ [(t : Int)] := by rw [iv, if_pos hk]
      have : ∀ n, n ≤ (d.iv t).length → anyT (fun i => p ((d.iv t).getD i 0).toNat) n = anyT (fun i => p ((d.iv t ++ [(t : Int)]).getD i 0).toNat) n := fun n => by
        induction n with
        | zero => intro _; rfl
        | succ n ih =>
          intro hn
          rw [anyT, anyT, ih (by omega)]
          congr 2
          rw [List.getD_eq_getElem?_getD, List.getD_eq_getElem?_getD, List.getElem?_append_left (by omega)]
      rw [anyT, iv_any hp t, e, List.length_append]
      show _ = anyT _ ((d.iv t).length + 1)
      rw [anyT, this _ (Nat.le_refl _)]
      congr 1
      rw [List.getD_eq_getElem?_getD, List.getElem?_append_right (Nat.le_refl _), Nat.sub_self]; rfl
    · have e : d.iv (t + 1) = d.iv t := by rw [iv, if_neg hk]
      have : p t = false := by
        cases h : p t with
        | false => rfl
        | true => exact absurd (hp t h) hk
      rw [anyT, iv_any hp t, e, this, Bool.or_false]
end Dt
end Lt
end Go.Proofs.Ytpgonpjakllnjaa
end
