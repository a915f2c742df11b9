/-
  LinearTells (42): the law's runs.
-/
import Derived.Test.YtpgonpjakllnjaaLt34
import Derived.Test.YtpgonpjakllnjaaLt41
import Derived.Test.YtpgonpjakllnjaaLm0
section
namespace Go.Proofs.Ytpgonpjakllnjaa
open Go.Vm Go.Vm.Md Lm
namespace Lt

theorem xQ_ok : ExtOk Try.prog xQ := by
  intro g k h
  simp only [xQ, Exts.get] at h
  cases hb : Nat.beq 72 g with
  | false => rw [hb] at h; cases h
  | true =>
    rw [hb] at h; cases h
    obtain rfl := Nat.eq_of_beq_eq_true hb
    exact ⟨_, Try.func72, rfl, by kernel_rfl, by kernel_rfl⟩
theorem first6 (w : World) : Calls Try.prog 6 #[] w (fun e w' => e = .returned (.bool true) ∧ Framed w w') :=
  calls_true (β := .plain w) (ρ := envOf [] [] F0) xQ_ok noSp_ok rfl Try.func6 rfl run6 (xs := []) rfl (HRel.start w _ fun _ => rfl) (fun _ h => by cases h)
def qOk (e : Bool) (q : AVal) (H : Heap) : Bool := match e, q with
  | true, .sliceNil => true
  | true, .slice _ (.lit (.ofNat 0)) (.lit (.ofNat 0)) (.lit (.ofNat 0)) => true
  | false, .slice l (.lit (.ofNat 0)) n (.nv c) => IT.beq n nF && (match H.get l with
    | some k => HB.rw k && ABlk.beq k.k (quB c).k
    | none => false)
  | _, _ => false
def isNil : AVal → Bool
  | .sliceNil => true
  | _ => false
def spSame (e : Bool) : SpG := fun args H nl cs => match args with
  | [.ptr l (.lit (.ofNat 0)), .agg (q :: r)] => match H.get l with
    | some ⟨.big 0 c, true⟩ => cond (IT.beq c (.var 40) && (qOk e q H && AVal.beqL r (uniC (.fn 51 (.var 40) (.lit 0)) 256 ++ uniC (.fn 52 (.var 40) (.lit 0)) 256))) (some [.ret (.int .i64 (.lit 1)) H nl cs])
      (cond (IT.beq c m0T && (isNil q && AVal.beqL r (uniC (.lit 0) 256 ++ uniC (.lit 0) 256))) (some [.ret (.int .i64 (.lit 1)) H nl cs]) none)
    | _ => none
  | _ => none
def sp5 (k z : Kd) (u e : Bool) : CallF := match z with
  | .row => spL [(6, spTrue), (12, spRep k u), (15, spRS k u e), (13, spWr k .row), (8, spWr k .row), (16, spSame e)]
  | z => spL [(6, spTrue), (10, spNew), (13, spWr k z), (8, spWr k z), (16, spSame true)]
noncomputable def RL (pl : PL) (sp : CallF) (Ts : List Tpl) (args : List AVal) (H : Heap) (cs : Cs) (l : List LS) : Prop := (run Try.prog [] sp 4000 pl 5 (entry Try.f5 (Try.f5.body.getD .ret) args H 100 cs)).map (·.filterMap (sumD gM Ts)) = some l
def yes5 : LS := .ret (.bool (.lit true)) []
def T5L : Tpl := ⟨[(5, .slice 11 (.lit 0) (.var 42) (.nv 10)), (7, .slice 14 (.lit 0) (.var 42) (.nv 13)), (52, .slice 11 (.lit 0) (.var 42) (.nv 10)), (53, .int .i64 (.var 42)), (54, iV 9)], 67, [(11, anB 10), (14, anB 13)], 400, cs9 (.var 42) ++ [q9 .geq (.var 42) (.lit 1) true, q9 .leq (.var 42) (.lit 60) true, q9 .leq (.var 42) (.lit 1000000) true], 3⟩
def s5 (t : IT) (a b c f : Nat) : Sub := ⟨[(9, t)], [], [], [], [(11, a), (10, b), (14, c), (13, f)]⟩
-- no order
theorem g_n (k z : Kd) (h : z ≠ .row) : RL (PL.only []) (sp5 k z true true) [] [SL k, SO z] (ofP (roH (EE k z))) (csE k z) [yes5] := by unfold RL; cases k <;> cases z <;> first | exact absurd rfl h | kernel_rfl
-- no answers
theorem g_u (k : Kd) : RL (PL.only []) (sp5 k .row true true) [] [SL k, SO .row] (ofP (roH (EE k .row))) (csE k .row) [yes5, yes5] := by unfold RL; cases k <;> kernel_rfl
-- answers
theorem g_t : RL true (sp5 .row .row false true) [T5L] [SL .row, SO .row] (ofP (roH (EE .row .row))) csRR [.next 0 (.code (.loop (lb Try.f5 0)) :: lq Try.f5 0) [] (s5 (.lit 0) 101 100 104 103), .next 0 (.code (.loop (lb Try.f5 0)) :: lq Try.f5 0) [] (s5 (.lit 0) 101 100 104 103)] := by unfold RL; kernel_rfl
theorem g_f : RL true (sp5 .row .row false false) [T5L] [SL .row, SO .row] (ofP (roH (EE .row .row))) csRR [.next 0 (.code (.loop (lb Try.f5 0)) :: lq Try.f5 0) [] (s5 (.lit 0) 101 100 104 103)] := by unfold RL; kernel_rfl
theorem g_r (e : Bool) : RH (sp5 .row .row false e) 5 Try.f5 0 [T5L] T5L [q9 .lss at9 (.var 42) true] [.next 0 (.inLoop (lb Try.f5 0) :: lq Try.f5 0) [] (s5 up9 11 10 14 13)] := by unfold RH; cases e <;> kernel_rfl
theorem g_e (e : Bool) : RH (sp5 .row .row false e) 5 Try.f5 0 [T5L] T5L [q9 .lss at9 (.var 42) false] [yes5] := by unfold RH; cases e <;> kernel_rfl
end Lt
end Go.Proofs.Ytpgonpjakllnjaa
end

/-
  LinearTells (43): the law, of any history and order.
-/
section
namespace Go.Proofs.Ytpgonpjakllnjaa
open Go.Vm Go.Vm.Md Lm
namespace Lt

section
variable {d : Dt} {ρ : Env} {w : World} {xs : List Value}
theorem code_inj {m : Mod} {Q M S : List Int} (h : m.code = encL [encL Q, encL M, encL S]) : Q = m.Q ∧ M = m.M ∧ S = m.S := by
  have h1 := congrArg Mod.of h
  rw [Mod.of_code, show encL [encL Q, encL M, encL S] = (⟨Q, M, S⟩ : Mod).code from rfl, Mod.of_code] at h1
  rw [h1]; exact ⟨rfl, rfl, rfl⟩
theorem agg_split {l : Nat} {q : AVal} {r : List AVal} (h : AVal.denL ρ [.ptr l (.lit (.ofNat 0)), .agg (q :: r)] = some xs) : ∃ b v, ρ.N l = some b ∧ (AVal.agg (q :: r)).den ρ = some v ∧ xs = [.pointer (some ⟨b, 0, none⟩), v] := by
  simp only [AVal.denL] at h
  cases hN : ρ.N l with
  | none => simp only [AVal.den, hN] at h; cases h
  | some b =>
    have hp : (AVal.ptr l (.lit (.ofNat 0))).den ρ = some (.pointer (some ⟨b, 0, none⟩)) := by simp only [AVal.den, hN]; rfl
    rw [hp] at h
    cases ha : (AVal.agg (q :: r)).den ρ with
    | none => rw [ha] at h; cases h
    | some v => rw [ha] at h; exact ⟨b, v, rfl, rfl, (Option.some.inj h).symm⟩
theorem spSame_ok {β : Base} (hβ : β.G = Gd d) {e : Bool} (he : e = true ↔ (d.stO d.m).Q = []) : SpGOk Try.prog β 16 (spSame e) := by
  intro args H nl cs ls ρ w xs hr hx hh hc
  have hG : (Gd d).at ρ := by have := hh.g; rw [hβ] at this; exact this
  unfold spSame at hr
  split at hr
  rotate_left
  · cases hr
  rename_i l q r
  split at hr
  rotate_left
  · cases hr
  rename_i c hl
  obtain ⟨b, v, hN, hv, rfl⟩ := agg_split hx
  obtain ⟨Fp, hB⟩ := hh.big
  obtain ⟨b', x, hN', hx', hfam, _⟩ := hB.ok l 0 c true hl
  rw [hN] at hN'; cases hN'
  obtain ⟨_, Q, M, S, hxe, hmod, _⟩ := hfam
  cases hb : (IT.beq c (.var 40) && (qOk e q H && AVal.beqL r (uniC (.fn 51 (.var 40) (.lit 0)) 256 ++ uniC (.fn 52 (.var 40) (.lit 0)) 256))) with
  | true =>
    rw [hb] at hr; simp only [cond_true, Option.some.injEq] at hr
    subst hr
    simp only [Bool.and_eq_true] at hb
    obtain ⟨h1, h2, h3⟩ := hb
    obtain rfl := IT.beq_eq h1
    obtain rfl := AVal.beqL_eq _ _ h3
    have e40 : (IT.var 40).den ρ = some (d.stO d.m).code := pin hG (by simp [pins])
    have hxc : (d.stO d.m).code = x := Option.some.inj (e40.symm.trans hx')
    obtain ⟨rfl, rfl, rfl⟩ := code_inj (hxc.trans hxe)
    obtain ⟨vq, hq⟩ := rmA_split (q := q) (cM := .fn 51 (.var 40) (.lit 0)) (cS := .fn 52 (.var 40) (.lit 0)) hv
    obtain rfl : v = rmV vq (d.stO d.m) := Option.some.inj (hv.symm.trans (mF_den hG hq))
    have hqv : QV w (d.stO d.m).Q vq := by
      unfold qOk at h2
      split at h2
      · obtain rfl : vq = .slice none 0 0 := (Option.some.inj hq).symm
        exact .inl ⟨none, rfl, (fun p h => by cases h), he.1 rfl⟩
      · rename_i l2
        cases hN2 : ρ.N l2 with
        | none => simp only [AVal.den, hN2] at hq; cases hq
        | some p =>
          obtain rfl : vq = .slice (some ⟨p, 0, none⟩) 0 0 := Option.some.inj (hq.symm.trans (den_slice_of (n := 0) (c := 0) hN2 rfl rfl rfl))
          exact .inl ⟨_, rfl, (fun q h => by cases h; rfl), he.1 rfl⟩
      · rename_i l2 n c2
        simp only [Bool.and_eq_true] at h2
        obtain ⟨g1, g2⟩ := h2
        obtain rfl := IT.beq_eq g1
        split at g2
        rotate_left
        · cases g2
        rename_i k hk
        simp only [Bool.and_eq_true] at g2
        obtain ⟨g2, g3⟩ := g2
        obtain ⟨kk, rw0⟩ := k
        simp only at g2 g3
        subst g2
        obtain rfl := ABlk.beq_eq g3
        obtain ⟨b2, o2, hb2, ho2, ys, c0', fr, el, n', st, rfl, hel, hd, hst, ⟨q1, q2⟩, hn', hty, ⟨cap, hcap, hs⟩, hf⟩ := hh.blk l2 _ hk
        obtain rfl := hel rfl
        obtain rfl : st = 0 := by have := Option.some.inj hst; exact (Int.ofNat.inj this).symm
        have en := nF_den hG
        obtain rfl : vq = _ := Option.some.inj (hq.symm.trans (den_slice_of hb2 rfl en hcap))
        have e53 : (IT.fn 53 (.var 40) (.lit 0)).den ρ = some (encL (d.stO d.m).Q) := by rw [fnD e40 (litD 0), hG.2.2.2.2.2.2.2.1]; show some (encL (Mod.of (d.stO d.m).code).Q) = _; rw [Mod.of_code]
        have : (AT.code [.i64] (.fn 53 (.var 40) (.lit 0))).den ρ = some (rowOf [.i64] (d.stO d.m).Q) := by simp only [AT.den, e53, Option.map_some, decL_encL]
        obtain rfl : ys = _ := Option.some.inj (hd.symm.trans this)
        rw [List.drop_zero, rowOf1] at q2
        have hQ : (d.stO d.m).Q ≠ [] := fun h => by have := he.2 h; cases this
        exact .inr ⟨b2, cap, _, hQ, rfl, ho2, c0', fr, rfl, q2, by simpa using hs, hf rfl⟩
      · cases h2
    exact spV_ok (same16 (stO_ok d.m) hmod hqv) rfl hh hc
  | false =>
    rw [hb] at hr; simp only [cond_false] at hr
    cases hb2 : (IT.beq c m0T && (isNil q && AVal.beqL r (uniC (.lit 0) 256 ++ uniC (.lit 0) 256))) with
    | false => rw [hb2] at hr; cases hr
    | true =>
      rw [hb2] at hr; simp only [cond_true, Option.some.injEq] at hr
      subst hr
      simp only [Bool.and_eq_true] at hb2
      obtain ⟨h1, h2, h3⟩ := hb2
      obtain rfl := IT.beq_eq h1
      obtain rfl := AVal.beqL_eq _ _ h3
      have hxc : mod0.code = x := Option.some.inj (m0T_den.symm.trans hx')
      obtain ⟨rfl, rfl, rfl⟩ := code_inj (hxc.trans hxe)
      cases q <;> first | (cases h2; done) | skip
      have hvq := rmA_den' (ρ := ρ) (q := .sliceNil) (vq := .slice none 0 0) (cM := .lit 0) (cS := .lit 0) (m := mod0) rfl rfl rfl arV0 arV0
      obtain rfl : v = rmV (.slice none 0 0) mod0 := Option.some.inj (hv.symm.trans hvq)
      exact spV_ok (same16 VOk0 hmod (.inl ⟨none, rfl, (fun p h => by cases h), rfl⟩)) rfl hh hc
theorem first_ok {β : Base} : SpGOk Try.prog β 6 spTrue := spTrue_ok first6
theorem law5 (ok : DOk d) (hr : HRel ⟨w, [], Gd d⟩ ρ (ofP (roH (EE d.kl d.ko))) 100 w) (hx : AVal.denL ρ [SL d.kl, SO d.ko] = some xs) :
    Calls Try.prog 5 xs.toArray w fun e w' => e = .returned (.bool true) ∧ Framed w w' := by
  have hm := ok.m60
  have hG : (Gd d).at ρ := hr.g
  have ce := dcE ok hG
  have yes : ∀ {Ts : List Tpl} {ρ : Env}, SumGood Try.prog ⟨w, [], Gd d⟩ 5 (fun v => v = .bool true) Ts ρ yes5 := retS (z := .bool true) (fun _ _ => rfl) rfl
  have wr := spWr_ok ok (β := ⟨w, [], Gd d⟩) rfl
  have wr8 := spWr8_ok ok (β := ⟨w, [], Gd d⟩) rfl
  by_cases hk : d.ko = .row
  · rw [hk] at hr hx ce wr wr8
    obtain ⟨e, he⟩ : ∃ e : Bool, e = true ↔ (d.stO d.m).Q = [] := ⟨decide ((d.stO d.m).Q = []), by simp⟩
    have hsp : ∀ u : Bool, (u = true ↔ d.cn d.m = 0) → CallOk Try.prog ⟨w, [], Gd d⟩ (sp5 d.kl .row u e) := fun u hu => spL_ok fun p hp => by
      simp only [List.mem_cons, List.not_mem_nil, or_false] at hp
      rcases hp with rfl | rfl | rfl | rfl | rfl | rfl
      · exact first_ok
      · exact spRep_ok ok hk hu rfl
      · exact spRS_ok ok hk hu he rfl
      · exact wr
      · exact wr8
      · exact spSame_ok rfl he
    by_cases hc0 : d.cn d.m = 0
    · have h2 := hsp true (by simp [hc0])
      obtain rfl := he.2 (by rw [stO_cn0 hc0]; rfl)
      refine toE (calls_sumsD (β := ⟨w, [], Gd d⟩) (Q := fun v => v = .bool true) (g := gM) (Ts := []) (pl := PL.only []) noCount noExt h2 follows rfl Try.func5 rfl (g_u d.kl) hx hr ce fun s hs => ?_)
      have : s = yes5 := by simpa using hs
      rw [this]; exact yes
    · have h2 := hsp false (by simp [hc0])
      have hl : d.kl = .row := by
        have hcl : ∀ i, (∀ j, j < i → d.inR (d.o j) = false) → d.cn i = 0 := fun i => by
          induction i with
          | zero => intro _; rfl
          | succ i ih => intro h; rw [Dt.cn, if_neg (by rw [h i (by omega)]; decide)]; exact ih fun j hj => h j (by omega)
        have hkl := ok.kl
        cases hd : d.kl with
        | row => rfl
        | nil => rw [hd] at hkl; exact absurd (hcl d.m fun j _ => by simp [Dt.inR, show d.n = 0 from hkl]) hc0
        | zero => rw [hd] at hkl; exact absurd (hcl d.m fun j _ => by simp [Dt.inR, show d.n = 0 from hkl]) hc0
      rw [hl] at hr hx ce h2
      have p42 : ∀ {ρ : Env}, (Gd d).at ρ → (IT.var 42).den ρ = some (d.cn d.m : Int) := fun hG => pin hG (by simp [pins])
      have hcl := d.cn_le d.m
      have cs : ∀ {i ρ}, J16 (d.cn d.m) i ρ → (Gd d).at ρ → CRel ρ T5L.cs := fun j hG => CRel_app.2 ⟨cs9_ok j.i9 (p42 hG) j.le, qD (p42 hG) (litD 1) (by simp [intCmp]; omega) (qD (p42 hG) (litD 60) (by simp [intCmp]; omega) (qD (p42 hG) (litD _) (by simp [intCmp]; omega) c0))⟩
      have loop := scan (β := ⟨w, [], Gd d⟩) (sp := sp5 .row .row false e) (f := 5) (fn := Try.f5) (j := 0) (T := T5L) (Ts := [T5L]) h2 rfl (Q := fun v => v = .bool true) (fun ρ => ∃ i, J16 (d.cn d.m) i ρ) (fun ρ => ((d.cn d.m : Int) - ρ.I 9).toNat) fun ρ ⟨i, j⟩ hG hcs _ ih => by
        have hi := j.le
        have e9 : at9.den ρ = some (i : Int) := varD j.i9
        by_cases hlt : i < d.cn d.m
        · refine ⟨_, _, qD e9 (p42 hG) (by simp [intCmp]; omega) c0, g_r e, Go.Vm.one (nextS rfl fun ρ' hle hG' => ?_)⟩
          have jn : J16 (d.cn d.m) (i + 1) ((s5 up9 11 10 14 13).app ρ') := ⟨sbI (t := up9) rfl (upD (varD (by rw [hle.i]; exact j.i9)) (by omega)), hlt⟩
          have hGn : (Gd d).at ((s5 up9 11 10 14 13).app ρ') := gKeep rfl hG'
          exact ⟨hGn, cs jn hGn, fun a w' r => ih _ (by rw [jn.i9, j.i9]; omega) ⟨_, jn⟩ _ a w' (.inl rfl) r⟩
        · exact ⟨_, _, qD e9 (p42 hG) (by simp [intCmp]; omega) c0, g_e e, Go.Vm.one yes⟩
      have fin : SumGood Try.prog ⟨w, [], Gd d⟩ 5 (fun v => v = .bool true) [T5L] ρ (.next 0 (.code (.loop (lb Try.f5 0)) :: lq Try.f5 0) [] (s5 (.lit 0) 101 100 104 103)) := nextS rfl fun ρ' hle hG' => by
        have jn : J16 (d.cn d.m) 0 ((s5 (.lit 0) 101 100 104 103).app ρ') := ⟨sbI (t := .lit 0) rfl rfl, by omega⟩
        have hGn : (Gd d).at ((s5 (.lit 0) 101 100 104 103).app ρ') := gKeep rfl hG'
        exact ⟨hGn, cs jn hGn, fun a w' r => loop _ ⟨0, jn⟩ _ a w' (.inr rfl) r⟩
      cases e with
      | true =>
        refine toE (calls_sumsD (β := ⟨w, [], Gd d⟩) (Q := fun v => v = .bool true) (g := gM) (Ts := [T5L]) (pl := true) noCount noExt h2 follows rfl Try.func5 rfl g_t hx hr ce fun s hs => ?_)
        have : s = .next 0 (.code (.loop (lb Try.f5 0)) :: lq Try.f5 0) [] (s5 (.lit 0) 101 100 104 103) := by simpa using hs
        rw [this]; exact fin
      | false => exact toE (calls_sumsD (β := ⟨w, [], Gd d⟩) (Q := fun v => v = .bool true) (g := gM) (Ts := [T5L]) (pl := true) noCount noExt h2 follows rfl Try.func5 rfl g_f hx hr ce (Go.Vm.one fin))
  · have hm0 := m0_of ok hk
    have h2 : CallOk Try.prog ⟨w, [], Gd d⟩ (sp5 d.kl d.ko true true) := by
      have hst : (true : Bool) = true ↔ (d.stO d.m).Q = [] := ⟨fun _ => by rw [hm0]; rfl, fun _ => rfl⟩
      cases hd : d.ko with
      | row => exact absurd hd hk
      | nil =>
        rw [hd] at wr wr8
        refine spL_ok fun p hp => ?_
        simp only [List.mem_cons, List.not_mem_nil, or_false] at hp
        rcases hp with rfl | rfl | rfl | rfl | rfl
        · exact first_ok
        · exact spNew_ok
        · exact wr
        · exact wr8
        · exact spSame_ok rfl hst
      | zero =>
        rw [hd] at wr wr8
        refine spL_ok fun p hp => ?_
        simp only [List.mem_cons, List.not_mem_nil, or_false] at hp
        rcases hp with rfl | rfl | rfl | rfl | rfl
        · exact first_ok
        · exact spNew_ok
        · exact wr
        · exact wr8
        · exact spSame_ok rfl hst
    exact toE (calls_sumsD (β := ⟨w, [], Gd d⟩) (Q := fun v => v = .bool true) (g := gM) (Ts := []) (pl := PL.only []) noCount noExt h2 follows rfl Try.func5 rfl (g_n d.kl d.ko hk) hx hr ce (Go.Vm.one yes))
end
end Lt
end Go.Proofs.Ytpgonpjakllnjaa
end

/-
  LinearTells (44): the law, of values.
-/
section
namespace Go.Proofs.Ytpgonpjakllnjaa
open Go.Vm Go.Vm.Md Lm
namespace Lt

-- TOO LONG
noncomputable def RZ (args : List AVal) (cs : Cs) : Prop := (run Try.prog [] (spL [(6, spTrue)]) 4000 (PL.only []) 5 (entry Try.f5 (Try.f5.body.getD .ret) args .leaf 100 cs)).map (·.filterMap (sumD gM [])) = some [yes5]
theorem h_a (z : Kd) : RZ [SL .row, SO z] [q9 .gtr (.var 36) (.lit 60) true] := by unfold RZ; cases z <;> kernel_rfl
def h36 : Kd → Cs
  | .row => [q9 .gtr (.var 36) (.lit 60) false]
  | _ => []
theorem h_b (k : Kd) : RZ [SL k, SO .row] (h36 k ++ [q9 .gtr (.var 38) (.lit 60) true]) := by unfold RZ; cases k <;> kernel_rfl
/-- What an argument is. -/
def AVk (w : World) (ks : List IntKind) (k : Kd) (v : Value) (n b o c : Nat) (L : List Int) : Prop := match k with
  | .nil => v = .slice none 0 0 ∧ n = 0 ∧ L = []
  | .zero => v = .slice (some ⟨b, o, none⟩) 0 c ∧ n = 0 ∧ L = []
  | .row => v = .slice (some ⟨b, o, none⟩) n c ∧ 1 ≤ n ∧ L.length = n * ks.length ∧ ∃ cc fr el, w.heap[b]? = some (.cells cc el fr) ∧ o ≤ cc.size ∧ rowOf ks L <+: cc.toList.drop o
section
variable {d : Dt} {w : World} {o0 c0' o1 c1' b0 b1 : Nat}
noncomputable def envD (d : Dt) (o0 cc0 o1 b0 b1 : Nat) : Env :=
  ⟨fun i => if i = 62 then (o0 : Int) else if i = 63 then (cc0 : Int) else if i = 64 then (o1 : Int) else Id d i, fun _ => false, fun _ => default, fun _ => undef, fun i => if i = 0 then some b0 else if i = 1 then some b1 else none, Fd d⟩
theorem Id_pin : ∀ p ∈ pins d, Id d p.1 = p.2 := fun p hp => by
  simp only [pins, List.mem_cons, List.not_mem_nil, or_false] at hp
  rcases hp with rfl | rfl | rfl | rfl | rfl | rfl | rfl | rfl | rfl | rfl | rfl | rfl | rfl | rfl | rfl | rfl <;> rfl
theorem envD_G : (Gd d).at (envD d o0 c0' o1 b0 b1) := by
  refine ⟨fun p hp => ?_, ⟨rfl, rfl, rfl, rfl, rfl, rfl, rfl⟩, rfl, rfl, rfl, rfl, rfl, rfl, rfl, rfl⟩
  have h1 := Id_pin p hp
  simp only [pins, List.mem_cons, List.not_mem_nil, or_false] at hp
  rcases hp with rfl | rfl | rfl | rfl | rfl | rfl | rfl | rfl | rfl | rfl | rfl | rfl | rfl | rfl | rfl | rfl <;> exact h1
theorem arg0 {v : Value} {L : List Int} (h : AVk w ksR d.kl v d.n b0 o0 c0' L) : (SL d.kl).den (envD d o0 c0' o1 b0 b1) = some v := by
  have e36 : (envD d o0 c0' o1 b0 b1).I 36 = (d.n : Int) := rfl
  cases hk : d.kl with
  | nil => rw [hk] at h; rw [h.1]; rfl
  | zero => rw [hk] at h; rw [h.1]; exact den_slice_of (n := 0) rfl (varD rfl) rfl (varD rfl)
  | row => rw [hk] at h; rw [h.1]; exact den_slice_of rfl (varD rfl) (varD e36) (varD rfl)
theorem arg1 {v : Value} {L : List Int} (hq : d.q = c1') (h : AVk w [.i64] d.ko v d.m b1 o1 c1' L) : (SO d.ko).den (envD d o0 c0' o1 b0 b1) = some v := by
  subst hq
  have e38 : (envD d o0 c0' o1 b0 b1).I 38 = (d.m : Int) := rfl
  have e65 : (envD d o0 c0' o1 b0 b1).I 65 = (d.q : Int) := rfl
  cases hk : d.ko with
  | nil => rw [hk] at h; rw [h.1]; rfl
  | zero => rw [hk] at h; rw [h.1]; exact den_slice_of (n := 0) rfl (varD rfl) rfl (varD e65)
  | row => rw [hk] at h; rw [h.1]; exact den_slice_of rfl (varD rfl) (varD e38) (varD e65)
theorem envD_N {i : Nat} (h : 100 ≤ i) : (envD d o0 c0' o1 b0 b1).N i = none := by
  show (if i = 0 then some b0 else if i = 1 then some b1 else none) = none
  rw [if_neg (by omega), if_neg (by omega)]
theorem lawV {kl ko : Kd} {v0 v1 : Value} {n m : Nat} {Lx Ly : List Int} (h0 : AVk w ksR kl v0 n b0 o0 c0' Lx) (h1 : AVk w [.i64] ko v1 m b1 o1 c1' Ly) (hq : m ≤ c1') : Calls Try.prog 5 #[v0, v1] w fun e w' => e = .returned (.bool true) ∧ Framed w w' := by
  obtain ⟨d, hd⟩ : ∃ d : Dt, d = ⟨kl, ko, encL Lx, encL Ly, n, m, c1'⟩ := ⟨_, rfl⟩
  have hkl : d.kl = kl := by rw [hd]
  have hko : d.ko = ko := by rw [hd]
  have hn : d.n = n := by rw [hd]
  have hm : d.m = m := by rw [hd]
  have hqq : d.q = c1' := by rw [hd]
  have hxx : d.x = encL Lx := by rw [hd]
  have hyy : d.y = encL Ly := by rw [hd]
  rw [← hkl, ← hn] at h0
  rw [← hko, ← hm] at h1
  have hx : AVal.denL (envD d o0 c0' o1 b0 b1) [SL d.kl, SO d.ko] = some [v0, v1] := denL2 (arg0 h0) (arg1 hqq h1)
  have e36 : (IT.var 36).den (envD d o0 c0' o1 b0 b1) = some (d.n : Int) := varD rfl
  have e38 : (IT.var 38).den (envD d o0 c0' o1 b0 b1) = some (d.m : Int) := varD rfl
  have long : ∀ {cs : Cs}, RZ [SL d.kl, SO d.ko] cs → CRel (envD d o0 c0' o1 b0 b1) cs → Calls Try.prog 5 #[v0, v1] w fun e w' => e = .returned (.bool true) ∧ Framed w w' := fun {cs} hrun hc =>
    toE (calls_sumsD (β := .plain w) (Q := fun v => v = .bool true) (g := gM) (Ts := []) (pl := PL.only []) noCount noExt (spL_ok fun p hp => by rw [List.mem_singleton.1 hp]; exact first_ok) follows rfl Try.func5 rfl hrun hx (HRel.ro [] (fun p hp => by cases hp) (fun i hi => envD_N hi) trivial) hc (Go.Vm.one (retS (z := .bool true) (fun _ _ => rfl) rfl)))
  by_cases hn60 : d.n ≤ 60
  · by_cases hm60 : d.m ≤ 60
    · have ok : DOk d := by
        refine ⟨?_, ?_, hn60, hm60, by rw [hm, hqq]; exact hq, ?_, ?_⟩
        · rw [hxx, decL_encL]
          cases hk : d.kl with
          | nil => rw [hk] at h0; rw [h0.2.2, h0.2.1]; rfl
          | zero => rw [hk] at h0; rw [h0.2.2, h0.2.1]; rfl
          | row => rw [hk] at h0; exact h0.2.2.1
        · rw [hyy, decL_encL]
          cases hk : d.ko with
          | nil => rw [hk] at h1; rw [h1.2.2, h1.2.1]; rfl
          | zero => rw [hk] at h1; rw [h1.2.2, h1.2.1]; rfl
          | row => rw [hk] at h1; rw [h1.2.2.1]; exact Nat.mul_one _
        · cases hk : d.kl with
          | nil => rw [hk] at h0; exact h0.2.1
          | zero => rw [hk] at h0; exact h0.2.1
          | row => rw [hk] at h0; exact h0.2.1
        · cases hk : d.ko with
          | nil => rw [hk] at h1; exact h1.2.1
          | zero => rw [hk] at h1; exact h1.2.1
          | row => rw [hk] at h1; exact h1.2.1
      have hr : HRel ⟨w, [], Gd d⟩ (envD d o0 c0' o1 b0 b1) (ofP (roH (EE d.kl d.ko))) 100 w := by
        refine HRel.ro (EE d.kl d.ko) (fun p hp => ?_) (fun i hi => envD_N hi) envD_G (nb_EE _ _)
        have hp' := hp
        unfold EE EL EO at hp
        rcases List.mem_append.1 hp with hp | hp
        · cases hk : d.kl with
          | nil => rw [hk] at hp; cases hp
          | zero => rw [hk] at hp; cases hp
          | row =>
            rw [hk] at hp h0
            obtain rfl := List.mem_singleton.1 hp
            obtain ⟨_, _, hL, cc, fr, el, hob, ho, hpre⟩ := h0
            refine ⟨b0, _, rfl, hob, rowOf ksR Lx, cc, fr, el, d.n, o0, rfl, (fun e => by cases e), ?_, rfl, ⟨ho, hpre⟩, e36, rowOf_typed hL, trivial, fun e => by cases e⟩
            have e35 : (IT.var 35).den (envD d o0 c0' o1 b0 b1) = some (encL Lx) := by rw [← hxx]; exact varD rfl
            simp only [AT.den, e35, Option.map_some, decL_encL]
        · cases hk : d.ko with
          | nil => rw [hk] at hp; cases hp
          | zero => rw [hk] at hp; cases hp
          | row =>
            rw [hk] at hp h1
            obtain rfl := List.mem_singleton.1 hp
            obtain ⟨_, _, hL, cc, fr, el, hob, ho, hpre⟩ := h1
            refine ⟨b1, _, rfl, hob, rowOf [.i64] Ly, cc, fr, el, d.m, o1, rfl, (fun e => by cases e), ?_, rfl, ⟨ho, hpre⟩, e38, rowOf_typed hL, trivial, fun e => by cases e⟩
            have e37 : (IT.var 37).den (envD d o0 c0' o1 b0 b1) = some (encL Ly) := by rw [← hyy]; exact varD rfl
            simp only [AT.den, e37, Option.map_some, decL_encL]
      exact law5 ok hr hx
    · have hk : d.ko = .row := by
        cases hk : d.ko with
        | row => rfl
        | nil => rw [hk] at h1; have := h1.2.1; omega
        | zero => rw [hk] at h1; have := h1.2.1; omega
      rw [hk] at long
      refine long (h_b d.kl) (CRel_app.2 ⟨?_, qD e38 (litD 60) (by simp [intCmp]; omega) c0⟩)
      cases d.kl with
      | row => exact qD e36 (litD 60) (by simp [intCmp]; omega) c0
      | _ => exact c0
  · have hk : d.kl = .row := by
      cases hk : d.kl with
      | row => rfl
      | nil => rw [hk] at h0; have := h0.2.1; omega
      | zero => rw [hk] at h0; have := h0.2.1; omega
    rw [hk] at long
    exact long (h_a d.ko) (qD e36 (litD 60) (by simp [intCmp]; omega) c0)
end
end Lt
end Go.Proofs.Ytpgonpjakllnjaa
end
