/-
  LinearTells (9): member.
-/
import Derived.Test.YtpgonpjakllnjaaLt8
section
namespace Go.Proofs.Ytpgonpjakllnjaa
open Go.Vm Go.Vm.Md Lm
namespace Lt

def bxR (k : Kd) : HB := ⟨.cells [SL k] 22 none, true⟩
def snR : HB := ⟨.mapc (.var 23), true⟩
def TM1 (k z : Kd) : Tpl := ⟨[(1, SO z), (2, .ptr 14 (.lit 0)), (5, .map 13), (13, SO z), (14, .int .i64 (nO z)), (15, iV 9)], 72, roH (EE k z) ++ [(14, bxR k), (13, snR)], 400, cs9 (nO z) ++ csE k z, 3⟩
def ivR : HB := ⟨.arr (.code [.i64] (.var 47)) [.i64] 3 (.var 48) (.lit 0) (some (.nv 16)), true⟩
def TM2 : Tpl := ⟨[(2, .ptr 14 (.lit 0)), (5, .map 13), (46, .slice 15 (.lit 0) (.var 48) (.nv 16)), (47, .int .i64 (.var 48)), (48, iV 9)], 72, roH (EL .row) ++ [(14, bxR .row), (13, snR), (15, ivR)], 400, cs9 (.var 48) ++ csL .row, 3⟩
def TM2n : Tpl := ⟨[(46, .sliceNil), (47, .int .i64 (.lit 0)), (48, .int .i64 (.lit 0))], 72, [], 400, [], 3⟩
def tM (k z : Kd) : List Tpl := [TM2, TM2n, TM1 k z]
def spMb (k z : Kd) (b : Bool) : CallF := match k, z with
  | .row, .row => spL [(67, spIdx), (18, spInv b)]
  | .row, _ => spL [(18, spInv b)]
  | _, _ => spL []
def sn : IT := .un 9 (.var 23) (.lit 0)
def puT : IT := .un 7 (.var 23) (.un 1 (oT at9) (.bin .add .i64 (.un 5 (.var 23) (oT at9)) (.lit 1)))
def vT : IT := .un 0 (.var 47) (.elem (.lit 0) 1 0 at9)
def go2 : Cs := lt9 (.var 48) true ++ inL vT
def e0 (z : Kd) (b : Bool) : Cs := lt9 (nO z) false ++ [q9 .lss sn (nO z) b]
def e3 (b : Bool) : Cs := e0 .row false ++ in1C ++ [q9 .geq (.var 50) (.lit 0) b]
def n1 : Kd → List (Nat × Nat)
  | .nil => []
  | _ => [(1, 1)]
noncomputable def L0 : Code := lb Try.f33 0
noncomputable def Q0 : List Item := lq Try.f33 0
noncomputable def L1 : Code := lb Try.f33 1
noncomputable def Q1 : List Item := lq Try.f33 1
def sm0 (k z : Kd) : Sub := ⟨[(9, .lit 0), (23, .lit 0)], [], [], [], n1 z ++ [(14, 400), (13, 401)] ++ n0 k⟩
def sm1 : Sub := ⟨[(9, up9), (23, puT)], [], [], [], [(1, 1), (14, 14), (13, 13), (0, 0)]⟩
def sm2 : Sub := ⟨[(9, .lit 0), (23, .var 23)], [], [], [], [(14, 14), (13, 13), (15, 401), (16, 400), (0, 0)]⟩
def sm3 : Sub := ⟨[(9, up9), (23, .var 23)], [], [], [], [(14, 14), (13, 13), (15, 15), (16, 16), (0, 0)]⟩
def smN : Sub := ⟨[], [], [], [], []⟩
theorem m_in (k z : Kd) (b : Bool) : RCn 400 (spMb k z b) 33 Try.f33 (tM k z) [SL k, SO z] (ofP (roH (EE k z))) (csE k z) [.next 2 (.code (.loop L0) :: Q0) [] (sm0 k z)] := by unfold RCn; cases k <;> cases z <;> cases b <;> kernel_rfl
theorem m_1b (k : Kd) (b : Bool) : RH (spMb k .row b) 33 Try.f33 0 (tM k .row) (TM1 k .row) (lt9 (.var 38) true ++ ngB (oT at9)) [.ret (.int .i64 (.lit 1)) []] := by unfold RH; cases k <;> cases b <;> kernel_rfl
theorem m_1c (k : Kd) (b : Bool) : RH (spMb k .row b) 33 Try.f33 0 (tM k .row) (TM1 k .row) (lt9 (.var 38) true ++ ngC k (oT at9)) [.ret (.int .i64 (.lit 1)) []] := by unfold RH; cases k <;> cases b <;> kernel_rfl
def go1 (b : Bool) : Cs := lt9 (.var 38) true ++ inL (oT at9) ++ [q9 .neq (rT (oT at9) 1) (.lit 2) b]
theorem m_1k (b : Bool) : RH (spMb .row .row b) 33 Try.f33 0 (tM .row .row) (TM1 .row .row) (go1 true) [.ret (.int .i64 (.lit 1)) []] := by unfold RH; cases b <;> kernel_rfl
theorem m_1 (b : Bool) : RH (spMb .row .row b) 33 Try.f33 0 (tM .row .row) (TM1 .row .row) (go1 false) [.next 2 (.inLoop L0 :: Q0) [] sm1] := by unfold RH; cases b <;> kernel_rfl
theorem m_e2 (b : Bool) : RH (spMb .row .row b) 33 Try.f33 0 (tM .row .row) (TM1 .row .row) (e0 .row true) [.ret (.int .i64 (.lit 2)) []] := by unfold RH; cases b <;> kernel_rfl
theorem m_e3 (b : Bool) : RH (spMb .row .row b) 33 Try.f33 0 (tM .row .row) (TM1 .row .row) (e3 true) [.ret (.int .i64 (.lit 3)) []] := by unfold RH; cases b <;> kernel_rfl
theorem m_e4 : RH (spMb .row .row false) 33 Try.f33 0 (tM .row .row) (TM1 .row .row) (e3 false) [.next 0 (.code (.loop L1) :: Q1) [] sm2] := by unfold RH; kernel_rfl
theorem m_e5 : RH (spMb .row .row true) 33 Try.f33 0 (tM .row .row) (TM1 .row .row) (e3 false) [.next 1 (.code (.loop L1) :: Q1) [] smN] := by unfold RH; kernel_rfl
theorem m_f4 : RH (spMb .row .nil false) 33 Try.f33 0 (tM .row .nil) (TM1 .row .nil) (e0 .nil false) [.next 0 (.code (.loop L1) :: Q1) [] sm2] := by unfold RH; kernel_rfl
theorem m_f4z : RH (spMb .row .zero false) 33 Try.f33 0 (tM .row .zero) (TM1 .row .zero) (e0 .zero false) [.next 0 (.code (.loop L1) :: Q1) [] sm2] := by unfold RH; kernel_rfl
theorem m_f5 (k : Kd) : RH (spMb k .nil true) 33 Try.f33 0 (tM k .nil) (TM1 k .nil) (e0 .nil false) [.next 1 (.code (.loop L1) :: Q1) [] smN] := by unfold RH; cases k <;> kernel_rfl
theorem m_f5z (k : Kd) : RH (spMb k .zero true) 33 Try.f33 0 (tM k .zero) (TM1 k .zero) (e0 .zero false) [.next 1 (.code (.loop L1) :: Q1) [] smN] := by unfold RH; cases k <;> kernel_rfl
theorem m_2A (k z : Kd) (b : Bool) : RH (spMb k z b) 33 Try.f33 1 (tM k z) TM2 (go2 ++ fA vT) [.next 0 (.inLoop L1 :: Q1) [] sm3] := by unfold RH; cases k <;> cases z <;> cases b <;> kernel_rfl
theorem m_2B (k z : Kd) (b : Bool) : RH (spMb k z b) 33 Try.f33 1 (tM k z) TM2 (go2 ++ fB vT) [.next 0 (.inLoop L1 :: Q1) [] sm3] := by unfold RH; cases k <;> cases z <;> cases b <;> kernel_rfl
theorem m_2D (k z : Kd) (b : Bool) : RH (spMb k z b) 33 Try.f33 1 (tM k z) TM2 (go2 ++ fD vT) [.next 0 (.inLoop L1 :: Q1) [] sm3] := by unfold RH; cases k <;> cases z <;> cases b <;> kernel_rfl
def fE (b : Bool) : Cs := [q9 .eql (.un 5 (.var 23) vT) (.lit 0) b]
theorem m_2y (k z : Kd) (b : Bool) : RH (spMb k z b) 33 Try.f33 1 (tM k z) TM2 (go2 ++ fC vT ++ fE true) [.ret (.int .i64 (.lit 4)) []] := by unfold RH; cases k <;> cases z <;> cases b <;> kernel_rfl
theorem m_2n (k z : Kd) (b : Bool) : RH (spMb k z b) 33 Try.f33 1 (tM k z) TM2 (go2 ++ fC vT ++ fE false) [.next 0 (.inLoop L1 :: Q1) [] sm3] := by unfold RH; cases k <;> cases z <;> cases b <;> kernel_rfl
theorem m_2e (k z : Kd) (b : Bool) : RH (spMb k z b) 33 Try.f33 1 (tM k z) TM2 (lt9 (.var 48) false) [.ret (.int .i64 (.lit 0)) []] := by unfold RH; cases k <;> cases z <;> cases b <;> kernel_rfl
theorem m_2z (k z : Kd) (b : Bool) : RH (spMb k z b) 33 Try.f33 1 (tM k z) TM2n [] [.ret (.int .i64 (.lit 0)) []] := by unfold RH; cases k <;> cases z <;> cases b <;> kernel_rfl
end Lt
end Go.Proofs.Ytpgonpjakllnjaa
end

/-
  LinearTells (10): member, proved.
-/
section
namespace Go.Proofs.Ytpgonpjakllnjaa
open Go.Vm Go.Vm.Md Lm
namespace Lt

theorem spMb_ok {d : Dt} (ok : DOk d) {b : Bool} (hz : b = true ↔ d.iv d.n = []) {w : World} : CallOk Try.prog ⟨w, [], Gd d⟩ (spMb d.kl d.ko b) := by
  cases hl : d.kl <;> cases hk : d.ko <;> first
    | exact noSp0 _
    | (refine spL_ok fun p hp => ?_
       simp only [List.mem_cons, List.not_mem_nil, or_false] at hp
       rcases hp with rfl | rfl
       · exact spIdx_ok ok hl hk rfl
       · exact spInv_ok ok hl hz rfl)
    | (refine spL_ok fun p hp => ?_
       rw [List.mem_singleton.1 hp]
       exact spInv_ok ok hl hz rfl)
theorem vT_den {d : Dt} {ρ : Env} (hG : (Gd d).at ρ) {i : Nat} (h9 : ρ.I 9 = (i : Int)) : vT.den ρ = some ((d.iv d.n).getD i 0) := by
  have e47 : (IT.var 47).den ρ = some (encL (d.iv d.n)) := pin hG (by simp [pins])
  refine (unD e47 (elemD (sz := 1) (j := 0) (litD ((0 : Nat) : Int)) (show at9.den ρ = some (i : Int) from varD h9))).trans ?_
  show some ((decL (encL (d.iv d.n))).getD (((0 + (i * 1 + 0) : Nat) : Int)).toNat 0) = _
  rw [decL_encL, Int.toNat_natCast, show 0 + (i * 1 + 0) = i by omega]
structure JM2 (d : Dt) (i : Nat) (ρ : Env) : Prop where
  i9 : ρ.I 9 = (i : Int)
  le : i ≤ (d.iv d.n).length
  i23 : ρ.I 23 = encL (d.seen d.m)
  no : anyT (fun i => d.w4 ((d.iv d.n).getD i 0).toNat) i = false
theorem JM2.of_le {d : Dt} {i : Nat} {ρ ρ' : Env} (h : JM2 d i ρ) (g : ρ.Le ρ') : JM2 d i ρ' := ⟨by rw [g.i]; exact h.i9, h.le, by rw [g.i]; exact h.i23, h.no⟩
theorem w4_kind {d : Dt} {k : Nat} (h : d.w4 k = true) : d.c (k : Int) 1 = 2 := by
  simp only [Dt.w4, Bool.and_eq_true, decide_eq_true_eq] at h
  exact h.1.1.1
/-- Nothing is wrong so far. -/
structure Fine (d : Dt) : Prop where
  a1 : anyT d.w1 d.m = false
  a2 : anyT d.w2 d.m = false
  a3 : anyT d.w3 d.m = false
theorem mem4 {d : Dt} (h : Fine d) : d.mem = if anyT d.w4 d.n then 4 else 0 := by
  simp only [Dt.mem, h.a1, h.a2, h.a3, Bool.false_eq_true, if_false]
abbrev QM (d : Dt) : Value → Prop := fun v => v = .int .i64 d.mem
theorem member2 {d : Dt} (ok : DOk d) (hl : d.kl = .row) (hf : Fine d) {b : Bool} (hz : b = true ↔ d.iv d.n = []) (w : World) : ∀ ρ, (∃ i, JM2 d i ρ) → ∀ todo a w', todo = .inLoop (lb Try.f33 1) :: lq Try.f33 1 ∨ todo = .code (.loop (lb Try.f33 1)) :: lq Try.f33 1 → SRel ⟨w, [], Gd d⟩ ρ (TM2.st todo) a w' → Goes Try.prog 33 (fun v w'' => QM d v ∧ Framed w w'') todo a w' := by
  have hn := ok.n60
  have hivn := d.iv_le d.n
  have csl : ∀ {ρ : Env}, (Gd d).at ρ → CRel ρ (csL .row) := fun hG => by have := dcL ok hG; rw [hl] at this; exact this
  have p48 : ∀ {ρ : Env}, (Gd d).at ρ → (IT.var 48).den ρ = some ((d.iv d.n).length : Int) := fun hG => pin hG (by simp [pins])
  have cs : ∀ {i ρ}, JM2 d i ρ → (Gd d).at ρ → CRel ρ TM2.cs := fun j hG => CRel_app.2 ⟨cs9_ok j.i9 (p48 hG) j.le, csl hG⟩
  refine scan (β := ⟨w, [], Gd d⟩) (sp := spMb d.kl d.ko b) (f := 33) (fn := Try.f33) (j := 1) (T := TM2) (Ts := tM d.kl d.ko) (spMb_ok ok hz) rfl (Q := QM d) (fun ρ => ∃ i, JM2 d i ρ) (fun ρ => (((d.iv d.n).length : Int) - ρ.I 9).toNat) fun ρ ⟨i, j⟩ hG hcs _ ih => ?_
  have hi := j.le
  by_cases hlt : i < (d.iv d.n).length
  · obtain ⟨k, hk1, hk2, hk3⟩ := d.iv_mem hlt
    have ev : vT.den ρ = some (k : Int) := by rw [vT_den hG j.i9, hk1]
    have go : CRel ρ go2 := CRel_app.2 ⟨lt9_ok j.i9 (p48 hG) (decide_eq_true hlt), inL_ok hG ev (by simp [Dt.inR]; omega)⟩
    have hw : ∀ b, d.w4 k = b → (fun i => d.w4 ((d.iv d.n).getD i 0).toNat) i = b := fun b h => by simp only [hk1, Int.toNat_natCast]; exact h
    have nxt : d.w4 k = false → ∀ s ∈ [LS.next 0 (.inLoop (lb Try.f33 1) :: lq Try.f33 1) [] sm3], SumGood Try.prog ⟨w, [], Gd d⟩ 33 (QM d) (tM d.kl d.ko) ρ s := fun h4 => one (nextS rfl fun ρ' hle hG' => by
      have j' := j.of_le hle
      have jn : JM2 d (i + 1) (sm3.app ρ') := ⟨sbI (t := up9) rfl (upD (varD j'.i9) (by omega)), hlt, j'.i23, anyT_step j'.no (hw _ h4)⟩
      have hGn : (Gd d).at (sm3.app ρ') := gKeep rfl hG'
      exact ⟨hGn, cs jn hGn, fun a w' r => ih _ (by rw [jn.i9, j.i9]; omega) ⟨_, jn⟩ _ a w' (.inl rfl) r⟩)
    rcases refd_ways4 hG ev with ⟨hr, f⟩ | ⟨hr, f⟩ | ⟨hr, he, f⟩ | ⟨hr, he, f⟩
    · exact ⟨_, _, CRel_app.2 ⟨go, f⟩, m_2A _ _ _, nxt (by simp [Dt.w4, hr])⟩
    · exact ⟨_, _, CRel_app.2 ⟨go, f⟩, m_2B _ _ _, nxt (by simp [Dt.w4, hr])⟩
    · have e5 : (IT.un 5 (.var 23) vT).den ρ = some (d.cnt (k : Int) d.m : Int) := by rw [un5_den (varD j.i23) ev, d.seen_getD]
      by_cases h0 : d.cnt (k : Int) d.m = 0
      · have h4 : d.w4 k = true := by simp [Dt.w4, hr, he, hk3, d.cnt_has, h0]
        refine ⟨_, _, CRel_app.2 ⟨CRel_app.2 ⟨go, f⟩, qD e5 (litD 0) (by simp [intCmp, h0]) c0⟩, m_2y _ _ _, one (retS (z := .int .i64 4) (fun _ _ => rfl) ?_)⟩
        show _ = _
        rw [mem4 hf, d.iv_any (p := d.w4) (fun k h => w4_kind h), anyT_true hlt (hw _ h4)]; rfl
      · refine ⟨_, _, CRel_app.2 ⟨CRel_app.2 ⟨go, f⟩, qD e5 (litD 0) (by simp [intCmp, h0]) c0⟩, m_2n _ _ _, nxt ?_⟩
        simp [Dt.w4, d.cnt_has]; omega
    · exact ⟨_, _, CRel_app.2 ⟨go, f⟩, m_2D _ _ _, nxt (by simp [Dt.w4, he])⟩
  · obtain rfl : i = (d.iv d.n).length := by omega
    refine ⟨_, _, lt9_ok j.i9 (p48 hG) (decide_eq_false hlt), m_2e _ _ _, one (retS (z := .int .i64 0) (fun _ _ => rfl) ?_)⟩
    show _ = _
    rw [mem4 hf, d.iv_any (p := d.w4) (fun k h => w4_kind h), j.no]; rfl
theorem member2n {d : Dt} (ok : DOk d) (hiv : d.iv d.n = []) (hf : Fine d) {b : Bool} (hz : b = true ↔ d.iv d.n = []) (w : World) : ∀ ρ, True → ∀ todo a w', todo = .inLoop (lb Try.f33 1) :: lq Try.f33 1 ∨ todo = .code (.loop (lb Try.f33 1)) :: lq Try.f33 1 → SRel ⟨w, [], Gd d⟩ ρ (TM2n.st todo) a w' → Goes Try.prog 33 (fun v w'' => QM d v ∧ Framed w w'') todo a w' := by
  refine scan (β := ⟨w, [], Gd d⟩) (sp := spMb d.kl d.ko b) (f := 33) (fn := Try.f33) (j := 1) (T := TM2n) (Ts := tM d.kl d.ko) (spMb_ok ok hz) rfl (Q := QM d) (fun _ => True) (fun _ => 0) fun ρ _ hG hcs _ ih => ?_
  refine ⟨_, _, c0, m_2z _ _ _, one (retS (z := .int .i64 0) (fun _ _ => rfl) ?_)⟩
  show _ = _
  rw [mem4 hf, d.iv_any (p := d.w4) (fun k h => w4_kind h), hiv]; rfl
structure JM1 (d : Dt) (i : Nat) (ρ : Env) : Prop where
  i9 : ρ.I 9 = (i : Int)
  le : i ≤ d.m
  i23 : ρ.I 23 = encL (d.seen i)
  no : anyT d.w1 i = false
theorem JM1.of_le {d : Dt} {i : Nat} {ρ ρ' : Env} (h : JM1 d i ρ) (g : ρ.Le ρ') : JM1 d i ρ' := ⟨by rw [g.i]; exact h.i9, h.le, by rw [g.i]; exact h.i23, h.no⟩
theorem mem1 {d : Dt} (h : anyT d.w1 d.m = true) : d.mem = 1 := by simp [Dt.mem, h]
theorem member33 {d : Dt} (ok : DOk d) {ρ : Env} {w : World} {xs : List Value} (hr : HRel ⟨w, [], Gd d⟩ ρ (ofP (roH (EE d.kl d.ko))) 400 w) (hx : AVal.denL ρ [SL d.kl, SO d.ko] = some xs) :
    Calls Try.prog 33 xs.toArray w fun e w' => e = .returned (.int .i64 d.mem) ∧ Framed w w' := by
  have hm := ok.m60
  obtain ⟨b, hz⟩ : ∃ b : Bool, b = true ↔ d.iv d.n = [] := ⟨decide (d.iv d.n = []), by simp⟩
  have cs : ∀ {i ρ}, JM1 d i ρ → (Gd d).at ρ → CRel ρ (TM1 d.kl d.ko).cs := fun j hG => CRel_app.2 ⟨cs9_ok j.i9 (dnO ok hG) j.le, dcE ok hG⟩
  -- what comes behind the first loop
  have to2 : ∀ (σ : Sub) (ρ : Env), σ = sm2 → d.kl = .row → Fine d → JM1 d d.m ρ → b = false → ∀ s ∈ [LS.next 0 (.code (.loop (lb Try.f33 1)) :: lq Try.f33 1) [] σ], SumGood Try.prog ⟨w, [], Gd d⟩ 33 (QM d) (tM d.kl d.ko) ρ s := fun σ ρ hσ hl hf j _ => one (nextS rfl fun ρ' hle hG' => by
    subst hσ
    have j' := j.of_le hle
    have jn : JM2 d 0 (sm2.app ρ') := ⟨sbI (t := .lit 0) rfl rfl, by omega, j'.i23, rfl⟩
    have hGn : (Gd d).at (sm2.app ρ') := gKeep rfl hG'
    have csl : CRel (sm2.app ρ') (csL .row) := by have := dcL ok hGn; rw [hl] at this; exact this
    exact ⟨hGn, CRel_app.2 ⟨cs9_ok jn.i9 (pin hGn (by simp [pins]) : (IT.var 48).den (sm2.app ρ') = some ((d.iv d.n).length : Int)) jn.le, csl⟩, fun a w' r => member2 ok hl hf hz w _ ⟨_, jn⟩ _ a w' (.inr rfl) r⟩)
  have toN : ∀ (ρ : Env), Fine d → b = true → ∀ s ∈ [LS.next 1 (.code (.loop (lb Try.f33 1)) :: lq Try.f33 1) [] smN], SumGood Try.prog ⟨w, [], Gd d⟩ 33 (QM d) (tM d.kl d.ko) ρ s := fun ρ hf hb => one (nextS rfl fun ρ' hle hG' => by
    have hGn : (Gd d).at (smN.app ρ') := gKeep rfl hG'
    exact ⟨hGn, c0, fun a w' r => member2n ok (hz.1 hb) hf hz w _ trivial _ a w' (.inr rfl) r⟩)
  have loop := scan (β := ⟨w, [], Gd d⟩) (sp := spMb d.kl d.ko b) (f := 33) (fn := Try.f33) (j := 0) (T := TM1 d.kl d.ko) (Ts := tM d.kl d.ko) (spMb_ok ok hz) rfl (Q := QM d) (fun ρ => ∃ i, JM1 d i ρ) (fun ρ => ((d.m : Int) - ρ.I 9).toNat) fun ρ ⟨i, j⟩ hG hcs _ ih => by
    have hi := j.le
    by_cases hlt : i < d.m
    · have hk : d.ko = .row := by
        have hk := ok.ko
        cases hd : d.ko with
        | nil => rw [hd] at hk; simp only at hk; omega
        | zero => rw [hd] at hk; simp only at hk; omega
        | row => rfl
      rw [hk] at cs ih ⊢
      have e9 : at9.den ρ = some (i : Int) := varD j.i9
      have eo := oT_den hG e9
      have go := lt9_ok (b := true) j.i9 (pM hG) (decide_eq_true hlt)
      have bad : d.w1 i = true → ∀ s ∈ [LS.ret (.int .i64 (.lit 1)) []], SumGood Try.prog ⟨w, [], Gd d⟩ 33 (QM d) (tM d.kl .row) ρ s := fun h1 => one (retS (z := .int .i64 1) (fun _ _ => rfl) (by show _ = _; rw [mem1 (anyT_true hlt h1)]))
      rcases inR_ways ok hG eo with ⟨hin, hl, f⟩ | ⟨hin, f | f⟩
      · rw [hl] at bad cs ih ⊢
        have e1 := rT_den hG eo 1
        by_cases hk1 : d.c (d.o i) 1 = 2
        · refine ⟨_, _, CRel_app.2 ⟨CRel_app.2 ⟨go, f⟩, qD e1 (litD 2) (by simp [intCmp, hk1]) c0⟩, m_1 _, one (nextS rfl fun ρ' hle hG' => ?_)⟩
          have j' := j.of_le hle
          have eo' := oT_den hG' (show at9.den ρ' = some (i : Int) from varD j'.i9)
          have e5 : (IT.un 5 (.var 23) (oT at9)).den ρ' = some (d.cnt (d.o i) i : Int) := by rw [un5_den (varD j'.i23) eo', d.seen_getD]
          have hc := d.cnt_le (d.o i) i
          have ep : puT.den ρ' = some (encL (d.seen (i + 1))) := by
            rw [Dt.seen, d.seen_getD]
            exact put_den (varD j'.i23) eo' (by rw [plusD e5 (litD 1) (by omega) (by omega)])
          have jn : JM1 d (i + 1) (sm1.app ρ') := ⟨sbI (t := up9) rfl (upD (varD j'.i9) (by omega)), hlt, sbI (t := puT) rfl ep, anyT_step j'.no (by simp [Dt.w1, hin, hk1])⟩
          have hGn : (Gd d).at (sm1.app ρ') := gKeep rfl hG'
          exact ⟨hGn, cs jn hGn, fun a w' r => ih _ (by rw [jn.i9, j.i9]; omega) ⟨_, jn⟩ _ a w' (.inl rfl) r⟩
        · exact ⟨_, _, CRel_app.2 ⟨CRel_app.2 ⟨go, f⟩, qD e1 (litD 2) (by simp [intCmp, hk1]) c0⟩, m_1k _, bad (by simp [Dt.w1, hk1])⟩
      · exact ⟨_, _, CRel_app.2 ⟨go, f⟩, m_1b _ _, bad (by simp [Dt.w1, hin])⟩
      · exact ⟨_, _, CRel_app.2 ⟨go, f⟩, m_1c _ _, bad (by simp [Dt.w1, hin])⟩
    · obtain rfl : i = d.m := by omega
      have esn : sn.den ρ = some (((d.seen d.m).length / 2 : Nat) : Int) := by
        refine (unD (varD j.i23) (litD 0)).trans ?_
        show some (((decL (encL (d.seen d.m))).length / 2 : Nat) : Int) = _
        rw [decL_encL]
      have h2 := d.seen_fewer d.m
      have e0ok : ∀ bb, decide ((d.seen d.m).length / 2 < d.m) = bb → CRel ρ (e0 d.ko bb) := fun bb hb => CRel_app.2 ⟨lt9_ok j.i9 (dnO ok hG) (decide_eq_false hlt), qD esn (dnO ok hG) (by
        simp only [intCmp, Option.some.injEq]
        rw [← hb, decide_eq_decide]; omega) c0⟩
      cases hk : d.ko with
      | row =>
        rw [hk] at e0ok to2 toN
        have hl : d.kl = .row := by
          have h1 := ok.ko
          rw [hk] at h1
          simp only at h1
          have := anyT_false j.no (show 0 < d.m by omega)
          simp only [Dt.w1, Bool.or_eq_false_iff, Bool.not_eq_false', Dt.inR, Bool.and_eq_true, decide_eq_true_eq] at this
          have hkl := ok.kl
          cases hd : d.kl with
          | nil => rw [hd] at hkl; simp only at hkl; omega
          | zero => rw [hd] at hkl; simp only at hkl; omega
          | row => rfl
        rw [hl] at to2 toN ⊢
        cases h2b : anyT d.w2 d.m with
        | true =>
          refine ⟨_, _, e0ok true (by rw [← h2, h2b]), m_e2 _, one (retS (z := .int .i64 2) (fun _ _ => rfl) ?_)⟩
          show _ = _
          simp [Dt.mem, j.no, h2b]
        | false =>
          have e49 : (IT.var 49).den ρ = some (if anyT d.w1 d.m then 1 else 0) := pin hG (by simp [pins])
          have e50 : (IT.var 50).den ρ = some (fstT d.w3 d.m) := pin hG (by simp [pins])
          have f3 : CRel ρ (e3 (anyT d.w3 d.m)) := CRel_app.2 ⟨CRel_app.2 ⟨e0ok false (by rw [← h2, h2b]), qD e49 (litD 0) (by rw [j.no]; rfl) c0⟩, qD e50 (litD 0) (by
            show some (decide (fstT d.w3 d.m ≥ 0)) = _
            rw [← fstT_ge]) c0⟩
          cases h3 : anyT d.w3 d.m with
          | true =>
            rw [h3] at f3
            refine ⟨_, _, f3, m_e3 _, one (retS (z := .int .i64 3) (fun _ _ => rfl) ?_)⟩
            show _ = _
            simp [Dt.mem, j.no, h2b, h3]
          | false =>
            rw [h3] at f3
            have hf : Fine d := ⟨j.no, h2b, h3⟩
            cases hb : b with
            | false => exact ⟨_, _, f3, m_e4, to2 _ _ rfl rfl hf j hb⟩
            | true => exact ⟨_, _, f3, m_e5, toN _ hf hb⟩
      | nil =>
        have hm0 : d.m = 0 := by have := ok.ko; rw [hk] at this; exact this
        have hf : Fine d := ⟨by rw [hm0]; rfl, by rw [hm0]; rfl, by rw [hm0]; rfl⟩
        have f0 := e0ok false (by rw [hm0]; simp)
        rw [hk] at f0 to2 toN
        cases hb : b with
        | false =>
          have hl : d.kl = .row := by
            cases hd : d.kl with
            | row => rfl
            | _ =>
              have hn : d.n = 0 := by have := ok.kl; rw [hd] at this; exact this
              have : b = true := hz.2 (by rw [hn]; rfl)
              rw [hb] at this; cases this
          rw [hl] at to2 ⊢
          exact ⟨_, _, f0, m_f4, to2 _ _ rfl rfl hf j hb⟩
        | true => exact ⟨_, _, f0, m_f5 _, toN _ hf hb⟩
      | zero =>
        have hm0 : d.m = 0 := by have := ok.ko; rw [hk] at this; exact this
        have hf : Fine d := ⟨by rw [hm0]; rfl, by rw [hm0]; rfl, by rw [hm0]; rfl⟩
        have f0 := e0ok false (by rw [hm0]; simp)
        rw [hk] at f0 to2 toN
        cases hb : b with
        | false =>
          have hl : d.kl = .row := by
            cases hd : d.kl with
            | row => rfl
            | _ =>
              have hn : d.n = 0 := by have := ok.kl; rw [hd] at this; exact this
              have : b = true := hz.2 (by rw [hn]; rfl)
              rw [hb] at this; cases this
          rw [hl] at to2 ⊢
          exact ⟨_, _, f0, m_f4z, to2 _ _ rfl rfl hf j hb⟩
        | true => exact ⟨_, _, f0, m_f5z _, toN _ hf hb⟩
  refine toE (callSn (spMb_ok ok hz) rfl Try.func33 rfl (m_in _ _ _) hx hr (dcE ok hr.g) (one (nextS rfl fun ρ' hle hG' => ?_)))
  have jn : JM1 d 0 ((sm0 d.kl d.ko).app ρ') := ⟨sbI (t := .lit 0) rfl rfl, by omega, sbI (t := .lit 0) rfl rfl, rfl⟩
  have hGn : (Gd d).at ((sm0 d.kl d.ko).app ρ') := gKeep rfl hG'
  exact ⟨hGn, cs jn hGn, fun a w' r => loop _ ⟨0, jn⟩ _ a w' (.inr rfl) r⟩
end Lt
end Go.Proofs.Ytpgonpjakllnjaa
end

/-
  LinearTells (11): late, Wrong.
-/
section
namespace Go.Proofs.Ytpgonpjakllnjaa
open Go.Vm Go.Vm.Md Lm
namespace Lt

-- LATE
def TL : Tpl := ⟨[(1, SO .row), (2, .ptr 14 (.lit 0)), (7, SO .row), (8, .int .i64 (.var 38)), (9, iV 9)], 20, roH (EE .row .row) ++ [(14, bxR .row)], 400, cs9 (.var 38) ++ csRR, 3⟩
def goL : Cs := lt9 (.var 38) true ++ inL (oT at9) ++ [q9 .leq at9 (.var 65) true] ++ in1C
def fL (b : Bool) : Cs := [q9 .geq (.fn 50 at9 (oT at9)) (.lit 0) b]
def spI : CallF := spL [(67, spIdx)]
def sl0 : Sub := ⟨[(9, .lit 0)], [], [], [], [(1, 1), (14, 400), (0, 0)]⟩
def sl1 : Sub := ⟨[(9, up9)], [], [], [], [(1, 1), (14, 14), (0, 0)]⟩
theorem l_in : RCn 400 spI 34 Try.f34 [TL] [SL .row, SO .row] (ofP (roH (EE .row .row))) csRR [.next 0 (.code (.loop (lb Try.f34 0)) :: lq Try.f34 0) [] sl0] := by unfold RCn; kernel_rfl
theorem l_y : RH spI 34 Try.f34 0 [TL] TL (goL ++ fL true) [.ret (.bool (.lit true)) []] := by unfold RH; kernel_rfl
theorem l_n : RH spI 34 Try.f34 0 [TL] TL (goL ++ fL false) [.next 0 (.inLoop (lb Try.f34 0) :: lq Try.f34 0) [] sl1] := by unfold RH; kernel_rfl
theorem l_e : RH spI 34 Try.f34 0 [TL] TL (lt9 (.var 38) false) [.ret (.bool (.lit false)) []] := by unfold RH; kernel_rfl
structure JL (d : Dt) (i : Nat) (ρ : Env) : Prop where
  i9 : ρ.I 9 = (i : Int)
  le : i ≤ d.m
  no : anyT d.w5 i = false
theorem JL.of_le {d : Dt} {i : Nat} {ρ ρ' : Env} (h : JL d i ρ) (g : ρ.Le ρ') : JL d i ρ' := ⟨by rw [g.i]; exact h.i9, h.le, h.no⟩
theorem in1C_ok {d : Dt} {ρ : Env} (hG : (Gd d).at ρ) (h : anyT d.w1 d.m = false) : CRel ρ in1C := by
  have e49 : (IT.var 49).den ρ = some (if anyT d.w1 d.m then 1 else 0) := pin hG (by simp [pins])
  exact qD e49 (litD 0) (by rw [h]; rfl) c0
theorem late34 {d : Dt} (ok : DOk d) (hl : d.kl = .row) (hk : d.ko = .row) (h1 : anyT d.w1 d.m = false) {ρ : Env} {w : World} {xs : List Value} (hr : HRel ⟨w, [], Gd d⟩ ρ (ofP (roH (EE .row .row))) 400 w) (hx : AVal.denL ρ [SL .row, SO .row] = some xs) :
    Calls Try.prog 34 xs.toArray w fun e w' => e = .returned (.bool (anyT d.w5 d.m)) ∧ Framed w w' := by
  have hm := ok.m60
  have hq := ok.mq
  have hi1 := in1_of h1
  have hsp : CallOk Try.prog ⟨w, [], Gd d⟩ spI := spL_ok fun p hp => by rw [List.mem_singleton.1 hp]; exact spIdx_ok ok hl hk rfl
  have cs : ∀ {i ρ}, JL d i ρ → (Gd d).at ρ → CRel ρ TL.cs := fun j hG => CRel_app.2 ⟨cs9_ok j.i9 (pM hG) j.le, csRR_ok ok hl hk hG⟩
  have loop := scan (β := ⟨w, [], Gd d⟩) (sp := spI) (f := 34) (fn := Try.f34) (j := 0) (T := TL) (Ts := [TL]) hsp rfl (Q := fun v => v = .bool (anyT d.w5 d.m)) (fun ρ => ∃ i, JL d i ρ) (fun ρ => ((d.m : Int) - ρ.I 9).toNat) fun ρ ⟨i, j⟩ hG hcs _ ih => by
    have hi := j.le
    by_cases hlt : i < d.m
    · have e9 : at9.den ρ = some (i : Int) := varD j.i9
      have eo := oT_den hG e9
      have e50 : (IT.fn 50 at9 (oT at9)).den ρ = some (fstT (fun j => d.ahead (d.o i) (d.o j)) i) := by
        rw [fnD e9 eo, hG.2.2.2.2.1]
        show some (fstT (fun j => d.ahead (d.o i) (d.o j)) ((i : Int)).toNat) = _
        rw [Int.toNat_natCast]
      have f : ∀ b, d.w5 i = b → CRel ρ (goL ++ fL b) := fun b hb => CRel_app.2 ⟨CRel_app.2 ⟨CRel_app.2 ⟨CRel_app.2 ⟨lt9_ok j.i9 (pM hG) (decide_eq_true hlt), inL_ok hG eo (hi1 i hlt)⟩, qD e9 (pQ hG) (by simp [intCmp]; omega) c0⟩, in1C_ok hG h1⟩, qD e50 (litD 0) (by
        show some (decide (fstT (fun j => d.ahead (d.o i) (d.o j)) i ≥ 0)) = _
        rw [← hb, Dt.w5, ← fstT_ge]) c0⟩
      cases hw : d.w5 i with
      | true => exact ⟨_, _, f true hw, l_y, one (retS (z := .bool true) (fun _ _ => rfl) (by rw [anyT_true hlt hw]))⟩
      | false =>
        refine ⟨_, _, f false hw, l_n, one (nextS rfl fun ρ' hle hG' => ?_)⟩
        have j' := j.of_le hle
        have jn : JL d (i + 1) (sl1.app ρ') := ⟨sbI (t := up9) rfl (upD (varD j'.i9) (by omega)), hlt, anyT_step j'.no hw⟩
        have hGn : (Gd d).at (sl1.app ρ') := gKeep rfl hG'
        exact ⟨hGn, cs jn hGn, fun a w' r => ih _ (by rw [jn.i9, j.i9]; omega) ⟨_, jn⟩ _ a w' (.inl rfl) r⟩
    · obtain rfl : i = d.m := by omega
      exact ⟨_, _, lt9_ok j.i9 (pM hG) (decide_eq_false hlt), l_e, one (retS (z := .bool false) (fun _ _ => rfl) (by rw [j.no]))⟩
  refine toE (callSn hsp rfl Try.func34 rfl l_in hx hr (csRR_ok ok hl hk hr.g) (one (nextS rfl fun ρ' hle hG' => ?_)))
  have jn : JL d 0 (sl0.app ρ') := ⟨sbI (t := .lit 0) rfl rfl, by omega, rfl⟩
  have hGn : (Gd d).at (sl0.app ρ') := gKeep rfl hG'
  exact ⟨hGn, cs jn hGn, fun a w' r => loop _ ⟨0, jn⟩ _ a w' (.inr rfl) r⟩
def spMem (k z : Kd) : SpG := spE 400 [SL k, SO z] (EE k z) [] (.int .i64 (.var 43))
def spLate : SpG := spE 400 [SL .row, SO .row] (EE .row .row) in1C (.bool (.cmp .eql (.var 44) (.lit 1)))
theorem spMem_ok {d : Dt} (ok : DOk d) {β : Base} (hβ : β.G = Gd d) : SpGOk Try.prog β 33 (spMem d.kl d.ko) :=
  spE_ok (nb_EE _ _) fun ρ w xs hx hr _ => by
    rw [hβ] at hr
    have e : (IT.var 43).den ρ = some d.mem := pin hr.g (by simp [pins])
    exact ⟨.int .i64 d.mem, by simp only [AVal.den, e, Option.map_some], member33 ok hr hx⟩
theorem spLate_ok {d : Dt} (ok : DOk d) (hl : d.kl = .row) (hk : d.ko = .row) {β : Base} (hβ : β.G = Gd d) : SpGOk Try.prog β 34 spLate :=
  spE_ok (nb_EE _ _) fun ρ w xs hx hr hc => by
    rw [hβ] at hr
    have hG : (Gd d).at ρ := hr.g
    have e : (IT.var 44).den ρ = some (if anyT d.w5 d.m = true then 1 else 0) := pin hr.g (by simp [pins, Dt.late])
    have h1 : anyT d.w1 d.m = false := by
      have e49 : (IT.var 49).den ρ = some (if anyT d.w1 d.m then 1 else 0) := pin hG (by simp [pins])
      have h2 := hc _ List.mem_cons_self
      simp only [q9] at h2
      rw [cmpD e49 (litD 0)] at h2
      cases h1 : anyT d.w1 d.m with
      | false => rfl
      | true => rw [h1] at h2; simp [intCmp] at h2
    exact ⟨.bool (anyT d.w5 d.m), ofBool1 e, late34 ok hl hk h1 hr hx⟩
-- WRONG
def toldB : HB := ⟨.arr (.code [.i64, .i64] (.var 41)) [.i64, .i64] 27 (.var 42) (.lit 0) (some (.nv 12)), true⟩
def TW : Tpl := ⟨[(0, SL .row), (6, .slice 13 (.lit 0) (.var 42) (.nv 12)), (25, SO .row), (26, .int .i64 (.var 38)), (27, iV 9)], 50, roH (EE .row .row) ++ [(13, toldB)], 300, cs9 (.var 38) ++ csRR, 3⟩
def TWn : Tpl := ⟨[(26, .int .i64 (.lit 0)), (27, .int .i64 (.lit 0))], 50, [], 300, [], 3⟩
def spW (k z : Kd) : CallF := match k, z with
  | .row, .row => spL [(33, spMem .row .row), (34, spLate), (12, spRep .row false)]
  | k, z => spL [(33, spMem k z), (10, spNew)]
def fW (b : Bool) : Cs := [q9 .neq (.var 43) (.lit 0) b]
def gW (b : Bool) : Cs := fW false ++ in1C ++ [q9 .eql (.var 44) (.lit 1) b]
def tT (a : IT) (j : Nat) : IT := .un 0 (.var 41) (.elem (.lit 0) 2 j a)
def alT (a : IT) : BT := .not (.and (.cmp .eql (rT (oT a) 9) (tT a 0)) (.cmp .eql (rT (oT a) 10) (tT a 1)))
def goW : Cs := lt9 (.var 38) true ++ inL (oT at9) ++ [q9 .lss at9 (.var 42) true]
def fU (b : Bool) : Cs := [q9 .geq (rT (oT at9) 8) (.lit 0) true, (alT at9, b)]
def sw0 : Sub := ⟨[(9, .lit 0)], [], [], [], [(0, 0), (13, 301), (12, 300), (1, 1)]⟩
def sw1 : Sub := ⟨[(9, up9)], [], [], [], [(0, 0), (13, 13), (12, 12), (1, 1)]⟩
noncomputable def L13 : Code := lb Try.f13 0
noncomputable def Q13 : List Item := lq Try.f13 0
def tW : List Tpl := [TW, TWn]
theorem w_m (k z : Kd) : RCn 300 (spW k z) 13 Try.f13 tW [SL k, SO z] (ofP (roH (EE k z))) (csE k z ++ fW true) [.ret (.int .i64 (.var 43)) []] := by unfold RCn; cases k <;> cases z <;> kernel_rfl
theorem w_5 : RCn 300 (spW .row .row) 13 Try.f13 tW [SL .row, SO .row] (ofP (roH (EE .row .row))) (csE .row .row ++ gW true) [.ret (.int .i64 (.lit 5)) []] := by unfold RCn; kernel_rfl
theorem w_in : RCn 300 (spW .row .row) 13 Try.f13 tW [SL .row, SO .row] (ofP (roH (EE .row .row))) (csE .row .row ++ gW false) [.next 0 (.code (.loop L13) :: Q13) [] sw0] := by unfold RCn; kernel_rfl
theorem w_n (k : Kd) : RCn 300 (spW k .nil) 13 Try.f13 tW [SL k, SO .nil] (ofP (roH (EE k .nil))) (csE k .nil ++ fW false) [.next 1 (.code (.loop L13) :: Q13) [] smN] := by unfold RCn; cases k <;> kernel_rfl
theorem w_z (k : Kd) : RCn 300 (spW k .zero) 13 Try.f13 tW [SL k, SO .zero] (ofP (roH (EE k .zero))) (csE k .zero ++ fW false) [.next 1 (.code (.loop L13) :: Q13) [] smN] := by unfold RCn; cases k <;> kernel_rfl
theorem w_2D : RH (spW .row .row) 13 Try.f13 0 tW TW (goW ++ fD (oT at9)) [.next 0 (.inLoop L13 :: Q13) [] sw1] := by unfold RH; kernel_rfl
theorem w_2y : RH (spW .row .row) 13 Try.f13 0 tW TW (goW ++ fU true) [.ret (.int .i64 (.lit 6)) []] := by unfold RH; kernel_rfl
theorem w_2n : RH (spW .row .row) 13 Try.f13 0 tW TW (goW ++ fU false) [.next 0 (.inLoop L13 :: Q13) [] sw1] := by unfold RH; kernel_rfl
theorem w_2e : RH (spW .row .row) 13 Try.f13 0 tW TW (lt9 (.var 38) false) [.ret (.int .i64 (.lit 0)) []] := by unfold RH; kernel_rfl
theorem w_2z (k z : Kd) : RH (spW k z) 13 Try.f13 0 tW TWn [] [.ret (.int .i64 (.lit 0)) []] := by unfold RH; cases k <;> cases z <;> kernel_rfl
-- what was told, where the order stands in the history
theorem cn_in {d : Dt} (h : In1 d) : ∀ {i}, i ≤ d.m → d.cn i = i
  | 0, _ => rfl
  | i + 1, hi => by rw [Dt.cn, if_pos (h i (by omega)), cn_in h (by omega)]
theorem ou_get {d : Dt} (h : In1 d) : ∀ {t i : Nat}, t ≤ d.m → i < t → (d.ouO t).getD (i * 2) 0 = (d.anO i).1 ∧ (d.ouO t).getD (i * 2 + 1) 0 = (d.anO i).2
  | t + 1, i, ht, hi => by
    have hl : (d.ouO t).length = t * 2 := by rw [d.ou_len, cn_in h (by omega)]
    rw [Dt.ouO, if_pos (h t (by omega)), List.getD_eq_getElem?_getD, List.getD_eq_getElem?_getD]
    rcases Nat.lt_or_ge i t with h1 | h1
    · rw [List.getElem?_append_left (by omega), List.getElem?_append_left (by omega), ← List.getD_eq_getElem?_getD, ← List.getD_eq_getElem?_getD]; exact ou_get h (by omega) h1
    · obtain rfl : i = t := by omega
      rw [List.getElem?_append_right (by omega), List.getElem?_append_right (by omega), hl, Nat.sub_self, show i * 2 + 1 - i * 2 = 1 by omega]
      exact ⟨rfl, rfl⟩
theorem tT_den {d : Dt} {ρ : Env} (hG : (Gd d).at ρ) (h : In1 d) {a : IT} {i : Nat} (ha : a.den ρ = some (i : Int)) (hi : i < d.m) : (tT a 0).den ρ = some (d.anO i).1 ∧ (tT a 1).den ρ = some (d.anO i).2 := by
  have e41 : (IT.var 41).den ρ = some (encL (d.ouO d.m)) := pin hG (by simp [pins])
  obtain ⟨g1, g2⟩ := ou_get h (Nat.le_refl _) hi
  refine ⟨(unD e41 (elemD (sz := 2) (j := 0) (litD ((0 : Nat) : Int)) ha)).trans ?_, (unD e41 (elemD (sz := 2) (j := 1) (litD ((0 : Nat) : Int)) ha)).trans ?_⟩
  · show some ((decL (encL (d.ouO d.m))).getD (((0 + (i * 2 + 0) : Nat) : Int)).toNat 0) = _
    rw [decL_encL, Int.toNat_natCast, show 0 + (i * 2 + 0) = i * 2 by omega, g1]
  · show some ((decL (encL (d.ouO d.m))).getD (((0 + (i * 2 + 1) : Nat) : Int)).toNat 0) = _
    rw [decL_encL, Int.toNat_natCast, show 0 + (i * 2 + 1) = i * 2 + 1 by omega, g2]
theorem alT_den {d : Dt} {ρ : Env} (hG : (Gd d).at ρ) (h : In1 d) {a : IT} {i : Nat} (ha : a.den ρ = some (i : Int)) (hi : i < d.m) : (alT a).den ρ = some (!(decide ((d.anO i).1 = d.c (d.o i) 9) && decide ((d.anO i).2 = d.c (d.o i) 10))) := by
  have eo := oT_den hG ha
  obtain ⟨g1, g2⟩ := tT_den hG h ha hi
  unfold alT
  rw [notD (andD (by rw [cmpD (rT_den hG eo 9) g1]; rfl : _ = some (d.c (d.o i) 9 == (d.anO i).1)) (by rw [cmpD (rT_den hG eo 10) g2]; rfl : _ = some (d.c (d.o i) 10 == (d.anO i).2)))]
  congr 2
  have e : ∀ a b : Int, (a == b) = decide (b = a) := fun a b => by rw [Bool.eq_iff_iff, beq_iff_eq, decide_eq_true_eq]; exact eq_comm
  rw [e, e]
structure JW (d : Dt) (i : Nat) (ρ : Env) : Prop where
  i9 : ρ.I 9 = (i : Int)
  le : i ≤ d.m
  no : anyT d.w6 i = false
theorem JW.of_le {d : Dt} {i : Nat} {ρ ρ' : Env} (h : JW d i ρ) (g : ρ.Le ρ') : JW d i ρ' := ⟨by rw [g.i]; exact h.i9, h.le, h.no⟩
theorem mem0 {d : Dt} (h : d.mem = 0) : anyT d.w1 d.m = false := by
  cases h1 : anyT d.w1 d.m with
  | false => rfl
  | true => simp [Dt.mem, h1] at h
theorem spW_ok {d : Dt} (ok : DOk d) (h1 : d.kl = .row → d.ko = .row → d.cn d.m ≠ 0) {w : World} : CallOk Try.prog ⟨w, [], Gd d⟩ (spW d.kl d.ko) := by
  have m := spMem_ok ok (β := ⟨w, [], Gd d⟩) rfl
  cases hl : d.kl <;> cases hk : d.ko <;> rw [hl, hk] at m <;> first
    | (refine spL_ok fun p hp => ?_
       simp only [List.mem_cons, List.not_mem_nil, or_false] at hp
       rcases hp with rfl | rfl | rfl
       · exact m
       · exact spLate_ok ok hl hk rfl
       · have := spRep_ok ok hk (z := false) (by simp; exact h1 hl hk) (β := ⟨w, [], Gd d⟩) rfl
         rw [hl] at this; exact this)
    | (refine spL_ok fun p hp => ?_
       simp only [List.mem_cons, List.not_mem_nil, or_false] at hp
       rcases hp with rfl | rfl
       · exact m
       · exact spNew_ok)
/-- Wrong where member is all that is asked. -/
def spWm (k z : Kd) : CallF := spL [(33, spMem k z)]
theorem w_mm (k z : Kd) : RCn 300 (spWm k z) 13 Try.f13 tW [SL k, SO z] (ofP (roH (EE k z))) (csE k z ++ fW true) [.ret (.int .i64 (.var 43)) []] := by unfold RCn; cases k <;> cases z <;> kernel_rfl
theorem wrong13 {d : Dt} (ok : DOk d) {ρ : Env} {w : World} {xs : List Value} (hr : HRel ⟨w, [], Gd d⟩ ρ (ofP (roH (EE d.kl d.ko))) 300 w) (hx : AVal.denL ρ [SL d.kl, SO d.ko] = some xs) :
    Calls Try.prog 13 xs.toArray w fun e w' => e = .returned (.int .i64 d.wrong) ∧ Framed w w' := by
  have hm := ok.m60
  have hG : (Gd d).at ρ := hr.g
  have e43 : ∀ {ρ : Env}, (Gd d).at ρ → (IT.var 43).den ρ = some d.mem := fun hG => pin hG (by simp [pins])
  by_cases hmem : d.mem = 0
  · have h1 := mem0 hmem
    have hi1 := in1_of h1
    have f0 : CRel ρ (fW false) := qD (e43 hG) (litD 0) (by simp [intCmp, hmem]) c0
    have hne : d.kl = .row → d.ko = .row → d.cn d.m ≠ 0 := fun _ hk => by
      rw [cn_in hi1 (Nat.le_refl _)]
      have := ok.ko; rw [hk] at this; simp only at this; omega
    have hsp := spW_ok ok hne (w := w)
    have empty : d.m = 0 → ∀ (ρ : Env), ∀ s ∈ [LS.next 1 (.code (.loop (lb Try.f13 0)) :: lq Try.f13 0) [] smN], SumGood Try.prog ⟨w, [], Gd d⟩ 13 (fun v => v = .int .i64 d.wrong) tW ρ s := fun hm0 ρ => one (nextS rfl fun ρ' hle hG' => by
      have hGn : (Gd d).at (smN.app ρ') := gKeep rfl hG'
      have loop := scan (β := ⟨w, [], Gd d⟩) (sp := spW d.kl d.ko) (f := 13) (fn := Try.f13) (j := 0) (T := TWn) (Ts := tW) hsp rfl (Q := fun v => v = .int .i64 d.wrong) (fun _ => True) (fun _ => 0) fun ρ _ hG hcs _ ih => ⟨_, _, c0, w_2z _ _, one (retS (z := .int .i64 0) (fun _ _ => rfl) (by simp [Dt.wrong, hmem, hm0, anyT]))⟩
      exact ⟨hGn, c0, fun a w' r => loop _ trivial _ a w' (.inr rfl) r⟩)
    cases hk : d.ko with
    | nil =>
      have hm0 : d.m = 0 := by have := ok.ko; rw [hk] at this; exact this
      have ce := dcE ok hG
      rw [hk] at ce hr hx hsp
      exact toE (callSn (Q := fun v => v = .int .i64 d.wrong) hsp rfl Try.func13 rfl (w_n _) hx hr (CRel_app.2 ⟨ce, f0⟩) (empty hm0 _))
    | zero =>
      have hm0 : d.m = 0 := by have := ok.ko; rw [hk] at this; exact this
      have ce := dcE ok hG
      rw [hk] at ce hr hx hsp
      exact toE (callSn (Q := fun v => v = .int .i64 d.wrong) hsp rfl Try.func13 rfl (w_z _) hx hr (CRel_app.2 ⟨ce, f0⟩) (empty hm0 _))
    | row =>
      have hl : d.kl = .row := by
        have h2 := ok.ko
        rw [hk] at h2; simp only at h2
        have := hi1 0 (by omega)
        simp only [Dt.inR, Bool.and_eq_true, decide_eq_true_eq] at this
        have hkl := ok.kl
        cases hd : d.kl with
        | nil => rw [hd] at hkl; simp only at hkl; omega
        | zero => rw [hd] at hkl; simp only at hkl; omega
        | row => rfl
      have ce := dcE ok hG
      rw [hk, hl] at ce hr hx hsp
      have e44 : (IT.var 44).den ρ = some (if anyT d.w5 d.m = true then 1 else 0) := pin hG (by simp [pins, Dt.late])
      have g : ∀ b, anyT d.w5 d.m = b → CRel ρ (csE .row .row ++ gW b) := fun b hb => CRel_app.2 ⟨ce, CRel_app.2 ⟨CRel_app.2 ⟨f0, in1C_ok hG h1⟩, qD e44 (litD 1) (by rw [hb]; cases b <;> rfl) c0⟩⟩
      cases h5 : anyT d.w5 d.m with
      | true => exact toE (callSn (Q := fun v => v = .int .i64 d.wrong) hsp rfl Try.func13 rfl w_5 hx hr (g true h5) (one (retS (z := .int .i64 5) (fun _ _ => rfl) (by simp [Dt.wrong, hmem, h5]))))
      | false =>
        have p42 : ∀ {ρ : Env}, (Gd d).at ρ → (IT.var 42).den ρ = some (d.m : Int) := fun hG => by
          have : (IT.var 42).den _ = some (d.cn d.m : Int) := pin hG (by simp [pins])
          rw [cn_in hi1 (Nat.le_refl _)] at this; exact this
        have cs : ∀ {i ρ}, JW d i ρ → (Gd d).at ρ → CRel ρ TW.cs := fun j hG => CRel_app.2 ⟨cs9_ok j.i9 (pM hG) j.le, csRR_ok ok hl hk hG⟩
        have loop := scan (β := ⟨w, [], Gd d⟩) (sp := spW .row .row) (f := 13) (fn := Try.f13) (j := 0) (T := TW) (Ts := tW) hsp rfl (Q := fun v => v = .int .i64 d.wrong) (fun ρ => ∃ i, JW d i ρ) (fun ρ => ((d.m : Int) - ρ.I 9).toNat) fun ρ ⟨i, j⟩ hG hcs _ ih => by
          have hi := j.le
          by_cases hlt : i < d.m
          · have e9 : at9.den ρ = some (i : Int) := varD j.i9
            have eo := oT_den hG e9
            have go : CRel ρ goW := CRel_app.2 ⟨CRel_app.2 ⟨lt9_ok j.i9 (pM hG) (decide_eq_true hlt), inL_ok hG eo (hi1 i hlt)⟩, qD e9 (p42 hG) (by simp [intCmp]; omega) c0⟩
            have e8 := rT_den hG eo 8
            have nxt : d.w6 i = false → ∀ s ∈ [LS.next 0 (.inLoop (lb Try.f13 0) :: lq Try.f13 0) [] sw1], SumGood Try.prog ⟨w, [], Gd d⟩ 13 (fun v => v = .int .i64 d.wrong) tW ρ s := fun h6 => one (nextS rfl fun ρ' hle hG' => by
              have j' := j.of_le hle
              have jn : JW d (i + 1) (sw1.app ρ') := ⟨sbI (t := up9) rfl (upD (varD j'.i9) (by omega)), hlt, anyT_step j'.no h6⟩
              have hGn : (Gd d).at (sw1.app ρ') := gKeep rfl hG'
              exact ⟨hGn, cs jn hGn, fun a w' r => ih _ (by rw [jn.i9, j.i9]; omega) ⟨_, jn⟩ _ a w' (.inl rfl) r⟩)
            by_cases h8 : 0 ≤ d.c (d.o i) 8
            · have fu : ∀ b, (!(decide ((d.anO i).1 = d.c (d.o i) 9) && decide ((d.anO i).2 = d.c (d.o i) 10))) = b → CRel ρ (fU b) := fun b hb => qD e8 (litD 0) (by simp [intCmp, h8]) (c1 (by rw [alT_den hG hi1 e9 hlt, hb]) c0)
              have hw : d.w6 i = !(decide ((d.anO i).1 = d.c (d.o i) 9) && decide ((d.anO i).2 = d.c (d.o i) 10)) := by simp [Dt.w6, Dt.ended, h8]
              cases hb : (!(decide ((d.anO i).1 = d.c (d.o i) 9) && decide ((d.anO i).2 = d.c (d.o i) 10))) with
              | true => exact ⟨_, _, CRel_app.2 ⟨go, fu true hb⟩, w_2y, one (retS (z := .int .i64 6) (fun _ _ => rfl) (by
                  rw [hb] at hw
                  simp [Dt.wrong, hmem, h5, anyT_true hlt hw]))⟩
              | false => exact ⟨_, _, CRel_app.2 ⟨go, fu false hb⟩, w_2n, nxt (by rw [hw, hb])⟩
            · exact ⟨_, _, CRel_app.2 ⟨go, qD e8 (litD 0) (by simp [intCmp, h8]) c0⟩, w_2D, nxt (by simp [Dt.w6, Dt.ended, h8])⟩
          · obtain rfl : i = d.m := by omega
            exact ⟨_, _, lt9_ok j.i9 (pM hG) (decide_eq_false hlt), w_2e, one (retS (z := .int .i64 0) (fun _ _ => rfl) (by simp [Dt.wrong, hmem, h5, j.no]))⟩
        refine toE (callSn hsp rfl Try.func13 rfl w_in hx hr (g false h5) (one (nextS rfl fun ρ' hle hG' => ?_)))
        have jn : JW d 0 (sw0.app ρ') := ⟨sbI (t := .lit 0) rfl rfl, by omega, rfl⟩
        have hGn : (Gd d).at (sw0.app ρ') := gKeep rfl hG'
        exact ⟨hGn, cs jn hGn, fun a w' r => loop _ ⟨0, jn⟩ _ a w' (.inr rfl) r⟩
  · have hsp : CallOk Try.prog ⟨w, [], Gd d⟩ (spWm d.kl d.ko) := spL_ok fun p hp => by rw [List.mem_singleton.1 hp]; exact spMem_ok ok rfl
    refine toE (callSn hsp rfl Try.func13 rfl (w_mm _ _) hx hr (CRel_app.2 ⟨dcE ok hG, qD (e43 hG) (litD 0) (by simp [intCmp, hmem]) c0⟩) (one (retS (z := .int .i64 d.mem) (fun ρ' hle => ?_) (by simp [Dt.wrong, hmem]))))
    simp only [AVal.den, e43 (GP.mono hle hG), Option.map_some]
def spWr (k z : Kd) : SpG := spE 300 [SL k, SO z] (EE k z) [] (.int .i64 (.var 45))
theorem spWr_ok {d : Dt} (ok : DOk d) {β : Base} (hβ : β.G = Gd d) : SpGOk Try.prog β 13 (spWr d.kl d.ko) :=
  spE_ok (nb_EE _ _) fun ρ w xs hx hr _ => by
    rw [hβ] at hr
    have e : (IT.var 45).den ρ = some d.wrong := pin hr.g (by simp [pins])
    exact ⟨.int .i64 d.wrong, by simp only [AVal.den, e, Option.map_some], wrong13 ok hr hx⟩
end Lt
end Go.Proofs.Ytpgonpjakllnjaa
end
