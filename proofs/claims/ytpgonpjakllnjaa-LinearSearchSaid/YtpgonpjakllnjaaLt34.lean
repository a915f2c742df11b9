/-
  LinearTells (33): the reference's Wrong.
-/
import Derived.Test.YtpgonpjakllnjaaLt29
import Derived.Test.YtpgonpjakllnjaaLt30
section
namespace Go.Proofs.Ytpgonpjakllnjaa
open Go.Vm Go.Vm.Md Lm
namespace Lt

section
variable {d : Dt} {ρ ρ1 : Env} {w w' : World} {β : Base} {H : Heap} {nl : Nat} {cs : Cs}
theorem mF_den (hG : (Gd d).at ρ) {q : AVal} {vq : Value} (hq : q.den ρ = some vq) : (mF q).den ρ = some (rmV vq (d.stO d.m)) := by
  have e40 : (IT.var 40).den ρ = some (d.stO d.m).code := pin hG (by simp [pins])
  obtain ⟨_, _, _, _, _, g51, g52, _, _, _⟩ := hG
  refine rmA_den hq ?_ ?_
  · rw [fnD e40 (litD 0), g51]; show some (encL (arrL (Mod.of (d.stO d.m).code).M)) = _; rw [Mod.of_code]
  · rw [fnD e40 (litD 0), g52]; show some (encL (arrL (Mod.of (d.stO d.m).code).S)) = _; rw [Mod.of_code]
theorem nF_den (hG : (Gd d).at ρ) : nF.den ρ = some ((d.stO d.m).Q.length : Int) := by
  have e40 : (IT.var 40).den ρ = some (d.stO d.m).code := pin hG (by simp [pins])
  rw [nF, fnD e40 (litD 0), hG.2.2.2.2.2.2.2.2.1]
  show some ((Mod.of (d.stO d.m).code).Q.length : Int) = _; rw [Mod.of_code]
theorem relF (hG : (Gd d).at ρ) {c cap : Nat} {o : Obj} (h : RowM (d.stO d.m).Q cap o) (ec : ρ.N c = some cap) : (quB c).k.rel ρ true o := by
  have e40 : (IT.var 40).den ρ = some (d.stO d.m).code := pin hG (by simp [pins])
  have e53 : (IT.fn 53 (.var 40) (.lit 0)).den ρ = some (encL (d.stO d.m).Q) := by rw [fnD e40 (litD 0), hG.2.2.2.2.2.2.2.1]; show some (encL (Mod.of (d.stO d.m).code).Q) = _; rw [Mod.of_code]
  obtain ⟨cc, fr, rfl, hp, hs, hf⟩ := h
  refine ⟨rowOf [.i64] (d.stO d.m).Q, cc, fr, 3, (d.stO d.m).Q.length, 0, rfl, (fun _ => rfl), ?_, rfl, ⟨Nat.zero_le _, ?_⟩, nF_den hG, rowOf_typed (by simp), ⟨cap, nvD ec, by simp [hs]⟩, (fun _ => hf)⟩
  · simp only [AT.den, e53, Option.map_some, decL_encL]
  · rw [List.drop_zero, rowOf1]; exact hp
theorem finQ {A : Nat → Prop} {e : Bool} {a : AVal} {vr vq : Value} {H1 : Heap} {n1 : Nat} (x : HX β ρ1 H1 n1 w' w.heap.size A) (hG : (Gd d).at ρ1) (hle : ρ.Le ρ1) (ha : a.den ρ1 = some vr) (hA : ∀ y, A y → ∃ n c, vr = .slice (some ⟨y, 0, none⟩) n c) (hq : QO w w' vr vq (d.stO d.m).Q) (he : e = true ↔ (d.stO d.m).Q = []) (hc : CRel ρ cs) :
    ∃ u H' nl' cs' ρ', Leaf.ret u H' nl' cs' ∈ outF a H1 n1 cs e ∧ ρ.Le ρ' ∧ u.den ρ' = some (.tuple #[vr, rmV vq (d.stO d.m)]) ∧ HRel β ρ' H' nl' w' ∧ CRel ρ' cs' := by
  rcases hq with ⟨hQ, rfl | ⟨b, rfl⟩⟩ | ⟨hQ, b, cap, o, rfl, ho, hrm, hb, hd⟩
  · obtain rfl := he.2 hQ
    exact ⟨_, _, _, _, ρ1, List.mem_cons_self, hle, tuple2 ha (mF_den hG (q := .sliceNil) rfl), x.h, hc.mono hle⟩
  · obtain rfl := he.2 hQ
    have x1 := x.num b
    have hle1 : ρ1.Le (ρ1.put n1 b) := Env.le_put (x.h.fresh n1 (Nat.le_refl _))
    exact ⟨_, _, _, _, ρ1.put n1 b, List.mem_cons_of_mem _ List.mem_cons_self, hle.trans hle1, tuple2 (AVal.den_mono hle1 _ ha) (mF_den (GP.mono hle1 hG) (den_slice_of (n := 0) (c := 0) (Env.put_same ..) rfl rfl rfl)), x1.h, hc.mono (hle.trans hle1)⟩
  · obtain rfl : e = false := by
      cases e with
      | false => rfl
      | true => exact absurd (he.1 rfl) hQ
    have x1 := x.num cap
    have hle1 : ρ1.Le (ρ1.put n1 cap) := Env.le_put (x.h.fresh n1 (Nat.le_refl _))
    have hle2 : (ρ1.put n1 cap).Le ((ρ1.put n1 cap).put (n1 + 1) b) := Env.le_put (x1.h.fresh _ (Nat.le_refl _))
    have hle' := hle1.trans hle2
    have hG' := GP.mono hle' hG
    have hN0 : ((ρ1.put n1 cap).put (n1 + 1) b).N n1 = some cap := hle2.n _ _ (Env.put_same ..)
    have x2 := x1.row (rw := true) hb (fun h => by
      obtain ⟨n, c, hv⟩ := hA b h
      exact hd b n c hv rfl) ho (relF hG' hrm hN0)
    exact ⟨_, _, _, _, (ρ1.put n1 cap).put (n1 + 1) b, List.mem_cons_self, hle.trans hle', tuple2 (AVal.den_mono hle' _ ha) (mF_den hG' (den_slice_of (Env.put_same ..) rfl (nF_den hG') (nvD hN0))), x2.h, hc.mono (hle.trans hle')⟩
theorem spRS_ok (ok : DOk d) (hk : d.ko = .row) {z e : Bool} (hz : z = true ↔ d.cn d.m = 0) (he : e = true ↔ (d.stO d.m).Q = []) (hβ : β.G = Gd d) : SpGOk Try.prog β 15 (spRS d.kl z e) := by
  intro args H nl cs ls ρ w xs hr hx hh hc
  have hG : (Gd d).at ρ := by have := hh.g; rw [hβ] at this; exact this
  unfold spRS at hr
  cases hb : (Nat.ble nl 500 && (hasE (EE d.kl .row) H && AVal.beqL args [SL d.kl, SO .row])) with
  | false => rw [hb] at hr; cases hr
  | true =>
    rw [hb] at hr; simp only [cond_true] at hr
    simp only [Bool.and_eq_true] at hb
    obtain ⟨h3, h2, h1⟩ := hb
    obtain rfl := AVal.beqL_eq _ _ h1
    have hr2 := ofE hh h2 (Nat.le_of_ble_eq_true h3) (nb_EE _ _)
    rw [hβ] at hr2
    refine (replay15 ok hk hr2 hx).mono fun ev w' ⟨v, hev, vr, vq, hv, hfr, hqo, han⟩ => ⟨v, hev, ?_⟩
    rw [hv]
    have x0 := HX.start hh hfr
    cases z with
    | true =>
      simp only [cond_true, Option.some.injEq] at hr
      subst hr
      rcases han with ⟨_, rfl⟩ | ⟨hne, _⟩
      · exact finQ x0 hG (Env.Le.refl ρ) (a := .sliceNil) rfl (fun y h => h.elim) hqo he hc
      · exact absurd (hz.1 rfl) hne
    | false =>
      simp only [cond_false, Option.some.injEq] at hr
      subst hr
      rcases han with ⟨h0, _⟩ | ⟨hne, ro⟩
      · have := hz.2 h0; cases this
      · obtain ⟨br, cap, c0, f, rfl, hbr, hob, hp, hcs, hfr2⟩ := ro.row
        have x1 := x0.num cap
        have hle1 : ρ.Le (ρ.put nl cap) := Env.le_put (hh.fresh nl (Nat.le_refl _))
        have hle2 : (ρ.put nl cap).Le ((ρ.put nl cap).put (nl + 1) br) := Env.le_put (x1.h.fresh _ (Nat.le_refl _))
        have hle := hle1.trans hle2
        have hN0 : ((ρ.put nl cap).put (nl + 1) br).N nl = some cap := hle2.n _ _ (Env.put_same ..)
        have hG' := GP.mono hle hG
        have e41 : (IT.var 41).den ((ρ.put nl cap).put (nl + 1) br) = some (encL (d.ouO d.m)) := pin hG' (by simp [pins])
        have e42 : (IT.var 42).den ((ρ.put nl cap).put (nl + 1) br) = some (d.cn d.m : Int) := pin hG' (by simp [pins])
        have hrel : (anB nl).k.rel ((ρ.put nl cap).put (nl + 1) br) true (.cells c0 27 f) := by
          refine ⟨rowOf [.i64, .i64] (d.ouO d.m), c0, f, 27, d.cn d.m, 0, rfl, fun _ => rfl, ?_, rfl, ⟨Nat.zero_le _, by rw [List.drop_zero]; exact hp⟩, e42, rowOf_typed ro.len, ⟨cap, nvD hN0, by rw [Nat.sub_zero]; exact hcs⟩, fun _ => hfr2⟩
          simp only [AT.den, e41, Option.map_some, decL_encL]
        have x2 := x1.row (rw := true) hbr (fun h => h) hob hrel
        refine finQ x2 hG' hle (den_slice_of (Env.put_same ..) rfl e42 (nvD hN0)) (fun y h => ?_) hqo he hc
        rcases h with h | rfl
        · exact h.elim
        · exact ⟨_, _, rfl⟩
end
-- WHERE THE ORDER LEAVES THE HISTORY
def sp9 : CallF := spL [(23, spHas)]
def t9' : List Tpl := [TA 21 22 23]
theorem w9_in : RCp true sp9 8 Try.f8 t9' [SL .row, SO .row] (ofP (roH (EE .row .row))) csRR [y8 0 0 (sA (.lit 0))] := by unfold RCp; kernel_rfl
theorem w9b : RHp true sp9 8 Try.f8 0 t9' (TA 21 22 23) (in8 ++ ngB (oT at9)) [.ret (.int .i64 (.lit 1)) []] := by unfold RHp; kernel_rfl
theorem w9c : RHp true sp9 8 Try.f8 0 t9' (TA 21 22 23) (in8 ++ ngC .row (oT at9)) [.ret (.int .i64 (.lit 1)) []] := by unfold RHp; kernel_rfl
theorem w9x : RHp true sp9 8 Try.f8 0 t9' (TA 21 22 23) (in8 ++ inL (oT at9) ++ [q9 .eql (rT (oT at9) 1) (.lit 2) false]) [.ret (.int .i64 (.lit 1)) []] := by unfold RHp; kernel_rfl
theorem w9y : RHp true sp9 8 Try.f8 0 t9' (TA 21 22 23) (in8 ++ inL (oT at9) ++ [q9 .eql (rT (oT at9) 1) (.lit 2) true]) [x8 0 0 (sA up9)] := by unfold RHp; kernel_rfl
/-- So far, nothing. -/
structure JP (p : Nat → Bool) (n i : Nat) (ρ : Env) : Prop where
  i9 : ρ.I 9 = (i : Int)
  le : i ≤ n
  no : anyT p i = false
theorem JP.of_le {p : Nat → Bool} {n i : Nat} {ρ ρ' : Env} (h : JP p n i ρ) (g : ρ.Le ρ') : JP p n i ρ' := ⟨by rw [g.i]; exact h.i9, h.le, h.no⟩
theorem JP.next {p : Nat → Bool} {n i : Nat} {ρ : Env} {σ : Sub} (h : JP p n i ρ) (hs : lk σ.I 9 = some up9) (hlt : i < n) (hn : n ≤ 60) (hp : p i = false) : JP p n (i + 1) (σ.app ρ) := ⟨sbI (t := up9) hs (upD (varD h.i9) (by omega)), hlt, anyT_step h.no hp⟩
theorem JP.zero {p : Nat → Bool} {n : Nat} {ρ : Env} {σ : Sub} (hs : lk σ.I 9 = some (.lit 0)) : JP p n 0 (σ.app ρ) := ⟨sbI (t := .lit 0) hs rfl, Nat.zero_le _, rfl⟩
abbrev W8 (d : Dt) (w : World) (T : Tpl) (j : Nat) (ρ : Env) : Prop := ∀ todo a w', todo = .inLoop (lb Try.f8 j) :: lq Try.f8 j ∨ todo = .code (.loop (lb Try.f8 j)) :: lq Try.f8 j → SRel ⟨w, [], Gd d⟩ ρ (T.st todo) a w' → Goes Try.prog 8 (fun v w' => v = .int .i64 d.wrong ∧ Framed w w') todo a w'
abbrev S8 (d : Dt) (w : World) (Ts : List Tpl) (ρ : Env) (s : LS) : Prop := SumGood Try.prog ⟨w, [], Gd d⟩ 8 (fun v => v = .int .i64 d.wrong) Ts ρ s
section
variable {d : Dt} {ρ : Env} {w : World} {xs : List Value}
theorem ret8 {Ts : List Tpl} {n : Nat} (h : (n : Int) = d.wrong) : ∀ s ∈ [LS.ret (.int .i64 (.lit (.ofNat n))) []], S8 d w Ts ρ s := one (retS (z := .int .i64 n) (fun _ _ => rfl) (by rw [h]))
theorem to8 {T : Tpl} {Ts : List Tpl} {q j : Nat} {σ : Sub} (hq : Ts[q]? = some T) (hs : (σ.I.all fun p => Nat.blt p.1 30) = true) (h : ∀ ρ', ρ.Le ρ' → (Gd d).at ρ' → CRel (σ.app ρ') T.cs ∧ W8 d w T j (σ.app ρ')) : S8 d w Ts ρ (y8 q j σ) :=
  nextS hq fun ρ' hle hG' => ⟨gKeep hs hG', (h ρ' hle hG').1, fun a w' r => (h ρ' hle hG').2 _ a w' (.inr rfl) r⟩
theorem on8 {T : Tpl} {Ts : List Tpl} {q j : Nat} {σ : Sub} (hq : Ts[q]? = some T) (hs : (σ.I.all fun p => Nat.blt p.1 30) = true) (h : ∀ ρ', ρ.Le ρ' → (Gd d).at ρ' → CRel (σ.app ρ') T.cs ∧ W8 d w T j (σ.app ρ')) : S8 d w Ts ρ (x8 q j σ) :=
  nextS hq fun ρ' hle hG' => ⟨gKeep hs hG', (h ρ' hle hG').1, fun a w' r => (h ρ' hle hG').2 _ a w' (.inl rfl) r⟩
theorem out8 (ok : DOk d) (hl : d.kl = .row) (hk : d.ko = .row) (h1 : anyT d.w1 d.m = true) (hr : HRel ⟨w, [], Gd d⟩ ρ (ofP (roH (EE .row .row))) 300 w) (hx : AVal.denL ρ [SL .row, SO .row] = some xs) :
    Calls Try.prog 8 xs.toArray w fun e w' => e = .returned (.int .i64 d.wrong) ∧ Framed w w' := by
  have hm := ok.m60
  have hw : (1 : Int) = d.wrong := by simp [Dt.wrong, Dt.mem, h1]
  have hsp : CallOk Try.prog ⟨w, [], Gd d⟩ sp9 := spL_ok fun p hp => by rw [List.mem_singleton.1 hp]; exact spHas_ok ok hk rfl
  have cs : ∀ {p i ρ}, JP p d.m i ρ → (Gd d).at ρ → CRel ρ (TA 21 22 23).cs := fun j hG => CRel_app.2 ⟨cs9_ok j.i9 (pM hG) j.le, csRR_ok ok hl hk hG⟩
  have loop := scanp (β := ⟨w, [], Gd d⟩) (pl := true) (sp := sp9) (f := 8) (fn := Try.f8) (j := 0) (T := TA 21 22 23) (Ts := t9') hsp rfl (Q := fun v => v = .int .i64 d.wrong) (fun ρ => ∃ i, JP d.w1 d.m i ρ) (fun ρ => ((d.m : Int) - ρ.I 9).toNat) fun ρ ⟨i, j⟩ hG hcs _ ih => by
    have hi := j.le
    by_cases hlt : i < d.m
    · have e9 : at9.den ρ = some (i : Int) := varD j.i9
      have eo := oT_den hG e9
      have go : CRel ρ in8 := lt9_ok (b := true) j.i9 (pM hG) (decide_eq_true hlt)
      have ways := inR_ways ok hG eo
      rw [hl] at ways
      rcases ways with ⟨hin, _, f⟩ | ⟨hin, f | f⟩
      · by_cases h2 : d.c (d.o i) 1 = 2
        · refine ⟨_, _, CRel_app.2 ⟨CRel_app.2 ⟨go, f⟩, qD (rT_den hG eo 1) (litD 2) (by simp [intCmp, h2]) c0⟩, w9y, one (on8 rfl rfl fun ρ' hle hG' => ?_)⟩
          have jn := (j.of_le hle).next (σ := sA up9) rfl hlt hm (by simp [Dt.w1, hin, h2])
          exact ⟨cs jn (gKeep rfl hG'), ih _ (by rw [jn.i9, j.i9]; omega) ⟨_, jn⟩⟩
        · exact ⟨_, _, CRel_app.2 ⟨CRel_app.2 ⟨go, f⟩, qD (rT_den hG eo 1) (litD 2) (by simp [intCmp, h2]) c0⟩, w9x, ret8 (n := 1) hw⟩
      · exact ⟨_, _, CRel_app.2 ⟨go, f⟩, w9b, ret8 (n := 1) hw⟩
      · exact ⟨_, _, CRel_app.2 ⟨go, f⟩, w9c, ret8 (n := 1) hw⟩
    · obtain rfl : i = d.m := by omega
      rw [j.no] at h1; cases h1
  exact toE (callp hsp rfl Try.func8 rfl w9_in hx hr (csRR_ok ok hl hk hr.g) (one (to8 rfl rfl fun ρ' hle hG' => by
    have jn : JP d.w1 d.m 0 ((sA (.lit 0)).app ρ') := JP.zero rfl
    exact ⟨cs jn (gKeep rfl hG'), loop _ ⟨0, jn⟩⟩)))
theorem rows8 (ok : DOk d) (hl : d.kl = .row) (hk : d.ko = .row) (h1 : anyT d.w1 d.m = false) (hr : HRel ⟨w, [], Gd d⟩ ρ (ofP (roH (EE .row .row))) 300 w) (hx : AVal.denL ρ [SL .row, SO .row] = some xs) :
    Calls Try.prog 8 xs.toArray w fun e w' => e = .returned (.int .i64 d.wrong) ∧ Framed w w' := by
  have hm := ok.m60
  have hn := ok.n60
  have hmq := ok.mq
  have hi1 := in1_of h1
  have hm1 : 1 ≤ d.m := by have := ok.ko; rw [hk] at this; exact this
  have hcn : d.cn d.m = d.m := cn_in hi1 (Nat.le_refl _)
  obtain ⟨e, he⟩ : ∃ e : Bool, e = true ↔ (d.stO d.m).Q = [] := ⟨decide ((d.stO d.m).Q = []), by simp⟩
  have hsp : CallOk Try.prog ⟨w, [], Gd d⟩ (sp8 e) := spL_ok fun p hp => by
    simp only [List.mem_cons, List.not_mem_nil, or_false] at hp
    rcases hp with rfl | rfl
    · exact spHas_ok ok hk rfl
    · have := spRS_ok ok hk (z := false) (by simp; omega) he (β := ⟨w, [], Gd d⟩) rfl
      rw [hl] at this; exact this
  have csR : ∀ {ρ}, (Gd d).at ρ → CRel ρ csRR := fun hG => csRR_ok ok hl hk hG
  have csM : ∀ {p i ρ}, JP p d.m i ρ → (Gd d).at ρ → CRel ρ (cs9 (.var 38) ++ csRR) := fun j hG => CRel_app.2 ⟨cs9_ok j.i9 (pM hG) j.le, csR hG⟩
  have p42 : ∀ {ρ : Env}, (Gd d).at ρ → (IT.var 42).den ρ = some (d.m : Int) := fun hG => by
    have : (IT.var 42).den _ = some (d.cn d.m : Int) := pin hG (by simp [pins])
    rw [hcn] at this; exact this
  -- whether it is the same
  have L6 : d.mem = 0 → anyT d.w5 d.m = false → ∀ ρ, (∃ i, JP d.w6 d.m i ρ) → W8 d w TD 6 ρ := fun hmem h5 =>
    scanp (β := ⟨w, [], Gd d⟩) (pl := true) (sp := sp8 e) (f := 8) (fn := Try.f8) (j := 6) (T := TD) (Ts := t8) hsp rfl (Q := fun v => v = .int .i64 d.wrong) (fun ρ => ∃ i, JP d.w6 d.m i ρ) (fun ρ => ((d.m : Int) - ρ.I 9).toNat) fun ρ ⟨i, j⟩ hG hcs _ ih => by
      have hi := j.le
      by_cases hlt : i < d.m
      · have e9 : at9.den ρ = some (i : Int) := varD j.i9
        have eo := oT_den hG e9
        have go : CRel ρ goW := CRel_app.2 ⟨CRel_app.2 ⟨lt9_ok j.i9 (pM hG) (decide_eq_true hlt), inL_ok hG eo (hi1 i hlt)⟩, qD e9 (p42 hG) (by simp [intCmp]; omega) c0⟩
        have e8 := rT_den hG eo 8
        have nxt : d.w6 i = false → ∀ s ∈ [x8 0 6 (sD up9 13 12)], S8 d w t8 ρ s := fun h6 => one (on8 rfl rfl fun ρ' hle hG' => by
          have jn := (j.of_le hle).next (σ := sD up9 13 12) rfl hlt hm h6
          exact ⟨csM jn (gKeep rfl hG'), ih _ (by rw [jn.i9, j.i9]; omega) ⟨_, jn⟩⟩)
        by_cases h8 : 0 ≤ d.c (d.o i) 8
        · have hw : d.w6 i = !(decide ((d.anO i).1 = d.c (d.o i) 9) && decide ((d.anO i).2 = d.c (d.o i) 10)) := by simp [Dt.w6, Dt.ended, h8]
          have fu : ∀ b, d.w6 i = b → CRel ρ (fU b) := fun b hb => qD e8 (litD 0) (by simp [intCmp, h8]) (c1 (by rw [alT_den hG hi1 e9 hlt, ← hw, hb]) c0)
          cases hb : d.w6 i with
          | true => exact ⟨_, _, CRel_app.2 ⟨go, fu true hb⟩, a6y e, ret8 (n := 6) (by simp [Dt.wrong, hmem, h5, anyT_true hlt hb])⟩
          | false => exact ⟨_, _, CRel_app.2 ⟨go, fu false hb⟩, a6n e, nxt hb⟩
        · exact ⟨_, _, CRel_app.2 ⟨go, qD e8 (litD 0) (by simp [intCmp, h8]) c0⟩, a6D e, nxt (by simp [Dt.w6, Dt.ended, h8])⟩
      · obtain rfl : i = d.m := by omega
        exact ⟨_, _, lt9_ok j.i9 (pM hG) (decide_eq_false hlt), a6e e, ret8 (n := 0) (by simp [Dt.wrong, hmem, h5, j.no])⟩
  -- whether it's late
  have L4 : d.mem = 0 → ∀ ρ, (∃ i, JP d.w5 d.m i ρ) → W8 d w (TA 95 96 97) 4 ρ := fun hmem =>
    scanp (β := ⟨w, [], Gd d⟩) (pl := true) (sp := sp8 e) (f := 8) (fn := Try.f8) (j := 4) (T := TA 95 96 97) (Ts := t8) hsp rfl (Q := fun v => v = .int .i64 d.wrong) (fun ρ => ∃ i, JP d.w5 d.m i ρ) (fun ρ => ((d.m : Int) - ρ.I 9).toNat) fun ρ ⟨i, j⟩ hG hcs _ ih => by
      have hi := j.le
      by_cases hlt : i < d.m
      · have e9 : at9.den ρ = some (i : Int) := varD j.i9
        have csI : ∀ {p t ρ}, JP p i t ρ → ρ.I 10 = (i : Int) → (Gd d).at ρ → CRel ρ Tin8.cs := fun j h10 hG => CRel_app.2 ⟨CRel_app.2 ⟨cs9_ok j.i9 (varD h10) j.le, qD (varD h10) (litD 0) (by simp [intCmp]) (qD (varD h10) (pM hG) (by simp [intCmp]; omega) c0)⟩, csR hG⟩
        have inner := scanp (β := ⟨w, [], Gd d⟩) (pl := true) (sp := sp8 e) (f := 8) (fn := Try.f8) (j := 5) (T := Tin8) (Ts := t8) hsp rfl (Q := fun v => v = .int .i64 d.wrong) (fun ρ' => ρ'.I 10 = (i : Int) ∧ ∃ t, JP (fun t => d.ahead (d.o i) (d.o t)) i t ρ') (fun ρ => ((i : Int) - ρ.I 9).toNat) fun ρ2 ⟨h10, t, k⟩ hG2 hcs2 _ ih2 => by
          have ht := k.le
          by_cases hlt2 : t < i
          · have f9 : at9.den ρ2 = some (t : Int) := varD k.i9
            have e10 : (IT.var 10).den ρ2 = some (i : Int) := varD h10
            have eo := oT_den hG2 f9
            have eo10 := oT_den hG2 e10
            have go : CRel ρ2 in5 := CRel_app.2 ⟨CRel_app.2 ⟨CRel_app.2 ⟨lt9_ok k.i9 e10 (decide_eq_true hlt2), qD f9 (pM hG2) (by simp [intCmp]; omega) c0⟩, inL_ok hG2 eo (hi1 t (by omega))⟩, inL_ok hG2 eo10 (hi1 i hlt)⟩
            have nxt : d.ahead (d.o i) (d.o t) = false → ∀ s ∈ [x8 1 5 (s8i (.var 10) up9)], S8 d w t8 ρ2 s := fun h => one (on8 rfl rfl fun ρ' hle hG' => by
              have jn := (k.of_le hle).next (σ := s8i (.var 10) up9) rfl hlt2 (by omega) h
              have h10' : ((s8i (.var 10) up9).app ρ').I 10 = (i : Int) := sbI (t := .var 10) rfl (varD (by rw [hle.i]; exact h10))
              exact ⟨csI jn h10' (gKeep rfl hG'), ih2 _ (by rw [jn.i9, k.i9]; omega) ⟨h10', _, jn⟩⟩)
            rcases ahead_ways hG2 eo10 eo with ⟨ha, f⟩ | ⟨ha, f | f⟩
            · exact ⟨_, _, CRel_app.2 ⟨go, f⟩, a5y e, ret8 (n := 5) (by
                have : d.w5 i = true := anyT_true hlt2 ha
                simp [Dt.wrong, hmem, anyT_true hlt this])⟩
            · exact ⟨_, _, CRel_app.2 ⟨go, f⟩, a5n e, nxt ha⟩
            · exact ⟨_, _, CRel_app.2 ⟨go, f⟩, a5d e, nxt ha⟩
          · obtain rfl : t = i := by omega
            refine ⟨_, _, lt9_ok k.i9 (varD h10) (decide_eq_false hlt2), a5e e, one (on8 rfl rfl fun ρ' hle hG' => ?_)⟩
            have jn : JP d.w5 d.m (t + 1) ((sA (.bin .add .i64 (.var 10) (.lit 1))).app ρ') := ⟨sbI (t := .bin .add .i64 (.var 10) (.lit 1)) rfl (by
              rw [plusD (varD (show ρ'.I 10 = (t : Int) by rw [hle.i]; exact h10)) (litD 1) (by omega) (by omega)]; rfl), hlt, anyT_step j.no k.no⟩
            exact ⟨csM jn (gKeep rfl hG'), ih _ (by rw [jn.i9, j.i9]; omega) ⟨_, jn⟩⟩
        refine ⟨_, _, CRel_app.2 ⟨lt9_ok j.i9 (pM hG) (decide_eq_true hlt), qD e9 (pQ hG) (by simp [intCmp]; omega) (qD e9 (pM hG) (by simp [intCmp]; omega) (qD (litD 0) e9 (by simp [intCmp]) c0))⟩, a4y e, one (to8 rfl rfl fun ρ' hle hG' => ?_)⟩
        have jn : JP (fun t => d.ahead (d.o i) (d.o t)) i 0 ((s8i at9 (.lit 0)).app ρ') := JP.zero rfl
        have h10' : ((s8i at9 (.lit 0)).app ρ').I 10 = (i : Int) := sbI (t := at9) rfl (varD (j.of_le hle).i9)
        exact ⟨csI jn h10' (gKeep rfl hG'), inner _ ⟨h10', _, jn⟩⟩
      · obtain rfl : i = d.m := by omega
        have fin : S8 d w t8 ρ (y8 0 6 (sD (.lit 0) 401 400)) := to8 rfl rfl fun ρ' hle hG' => by
          have jn : JP d.w6 d.m 0 ((sD (.lit 0) 401 400).app ρ') := JP.zero rfl
          exact ⟨csM jn (gKeep rfl hG'), L6 hmem j.no _ ⟨0, jn⟩⟩
        refine ⟨_, _, lt9_ok j.i9 (pM hG) (decide_eq_false hlt), a4e e, fun s hs => ?_⟩
        have : s = y8 0 6 (sD (.lit 0) 401 400) := by cases e <;> simpa using hs
        rw [this]; exact fin
  -- whether all that ended is there
  have L3 : anyT d.w2 d.m = false → anyT d.w3 d.m = false → ∀ ρ, (∃ i, JP d.w4 d.n i ρ) → W8 d w (TB .row) 3 ρ := fun h2 h3 =>
    scanp (β := ⟨w, [], Gd d⟩) (pl := true) (sp := sp8 e) (f := 8) (fn := Try.f8) (j := 3) (T := TB .row) (Ts := t8) hsp rfl (Q := fun v => v = .int .i64 d.wrong) (fun ρ => ∃ i, JP d.w4 d.n i ρ) (fun ρ => ((d.n : Int) - ρ.I 9).toNat) fun ρ ⟨i, j⟩ hG hcs _ ih => by
      have hi := j.le
      by_cases hlt : i < d.n
      · have e9 : at9.den ρ = some (i : Int) := varD j.i9
        have go : CRel ρ in3 := lt9_ok (b := true) j.i9 (pN hG) (decide_eq_true hlt)
        have csN : ∀ {i ρ}, JP d.w4 d.n i ρ → (Gd d).at ρ → CRel ρ (TB .row).cs := fun j hG => CRel_app.2 ⟨cs9_ok j.i9 (pN hG) j.le, csR hG⟩
        have nxt : d.w4 i = false → ∀ s ∈ [x8 3 3 (sA up9)], S8 d w t8 ρ s := fun h => one (on8 rfl rfl fun ρ' hle hG' => by
          have jn := (j.of_le hle).next (σ := sA up9) rfl hlt hn h
          exact ⟨csN jn (gKeep rfl hG'), ih _ (by rw [jn.i9, j.i9]; omega) ⟨_, jn⟩⟩)
        by_cases hiv : d.c (i : Int) 1 = 2
        · have fi : CRel ρ (iv3 true) := qD (rT_den hG e9 1) (litD 2) (by simp [intCmp, hiv]) c0
          rcases refd_ways4 hG e9 with ⟨hr, f⟩ | ⟨hr, f⟩ | ⟨hr, hen, f⟩ | ⟨hr, hen, f⟩
          · exact ⟨_, _, CRel_app.2 ⟨CRel_app.2 ⟨go, fi⟩, f⟩, a3A e, nxt (by simp [Dt.w4, hr])⟩
          · exact ⟨_, _, CRel_app.2 ⟨CRel_app.2 ⟨go, fi⟩, f⟩, a3B e, nxt (by simp [Dt.w4, hr])⟩
          · have fh : ∀ b, (!d.hasN d.m (i : Int)) = b → CRel ρ (hs3 b) := fun b hb => c1 (by
              have e49 : (IT.fn 49 (.var 38) at9).den ρ = some (if d.hasN d.m (i : Int) = true then 1 else 0) := by
                rw [fnD (pM hG) e9, hG.2.2.2.1]
                show some (if d.hasN ((d.m : Int)).toNat (i : Int) = true then (1 : Int) else 0) = _
                rw [Int.toNat_natCast]
              rw [notD (b := d.hasN d.m (i : Int)) (by rw [cmpD e49 (litD 1)]; cases d.hasN d.m (i : Int) <;> rfl), hb]) c0
            cases hh : d.hasN d.m (i : Int) with
            | true => exact ⟨_, _, CRel_app.2 ⟨CRel_app.2 ⟨CRel_app.2 ⟨go, fi⟩, f⟩, fh false (by rw [hh]; rfl)⟩, a3n e, nxt (by simp [Dt.w4, hh])⟩
            | false =>
              have h4 : d.w4 i = true := by simp [Dt.w4, hh, hr, hen, hiv]
              exact ⟨_, _, CRel_app.2 ⟨CRel_app.2 ⟨CRel_app.2 ⟨go, fi⟩, f⟩, fh true (by rw [hh]; rfl)⟩, a3y e, ret8 (n := 4) (by simp [Dt.wrong, Dt.mem, h1, h2, h3, anyT_true hlt h4])⟩
          · exact ⟨_, _, CRel_app.2 ⟨CRel_app.2 ⟨go, fi⟩, f⟩, a3D e, nxt (by simp [Dt.w4, hen])⟩
        · exact ⟨_, _, CRel_app.2 ⟨go, qD (rT_den hG e9 1) (litD 2) (by simp [intCmp, hiv]) c0⟩, a3x e, nxt (by simp [Dt.w4, hiv])⟩
      · obtain rfl : i = d.n := by omega
        refine ⟨_, _, lt9_ok j.i9 (pN hG) (decide_eq_false hlt), a3e e, one (to8 rfl rfl fun ρ' hle hG' => ?_)⟩
        have jn : JP d.w5 d.m 0 ((sA (.lit 0)).app ρ') := JP.zero rfl
        exact ⟨csM jn (gKeep rfl hG'), L4 (by simp [Dt.mem, h1, h2, h3, j.no]) _ ⟨0, jn⟩⟩
  have L2 : anyT d.w2 d.m = false → ∀ ρ, (∃ i, JP d.w3 d.m i ρ) → W8 d w (TA 57 58 59) 2 ρ := fun h2 =>
    scanp (β := ⟨w, [], Gd d⟩) (pl := true) (sp := sp8 e) (f := 8) (fn := Try.f8) (j := 2) (T := TA 57 58 59) (Ts := t8) hsp rfl (Q := fun v => v = .int .i64 d.wrong) (fun ρ => ∃ i, JP d.w3 d.m i ρ) (fun ρ => ((d.m : Int) - ρ.I 9).toNat) fun ρ ⟨i, j⟩ hG hcs _ ih => by
      have hi := j.le
      by_cases hlt : i < d.m
      · have e9 : at9.den ρ = some (i : Int) := varD j.i9
        have eo := oT_den hG e9
        have go : CRel ρ (in8 ++ inL (oT at9)) := CRel_app.2 ⟨lt9_ok (b := true) j.i9 (pM hG) (decide_eq_true hlt), inL_ok hG eo (hi1 i hlt)⟩
        have nxt : d.w3 i = false → ∀ s ∈ [x8 4 2 (sA up9)], S8 d w t8 ρ s := fun h => one (on8 rfl rfl fun ρ' hle hG' => by
          have jn := (j.of_le hle).next (σ := sA up9) rfl hlt hm h
          exact ⟨csM jn (gKeep rfl hG'), ih _ (by rw [jn.i9, j.i9]; omega) ⟨_, jn⟩⟩)
        have yes : d.w3 i = true → ∀ s ∈ [LS.ret (.int .i64 (.lit (.ofNat 3))) []], S8 d w t8 ρ s := fun h => ret8 (n := 3) (by simp [Dt.wrong, Dt.mem, h1, h2, anyT_true hlt h])
        rcases refd_ways hG eo with ⟨hr, f | f⟩ | ⟨hr, f | f⟩
        · exact ⟨_, _, CRel_app.2 ⟨go, f⟩, a2A e, yes hr⟩
        · exact ⟨_, _, CRel_app.2 ⟨go, f⟩, a2B e, yes hr⟩
        · exact ⟨_, _, CRel_app.2 ⟨go, f⟩, a2C e, nxt hr⟩
        · exact ⟨_, _, CRel_app.2 ⟨go, f⟩, a2D e, nxt hr⟩
      · obtain rfl : i = d.m := by omega
        refine ⟨_, _, lt9_ok j.i9 (pM hG) (decide_eq_false hlt), a2e e, one (to8 rfl rfl fun ρ' hle hG' => ?_)⟩
        have jn : JP d.w4 d.n 0 ((sA (.lit 0)).app ρ') := JP.zero rfl
        exact ⟨CRel_app.2 ⟨cs9_ok jn.i9 (pN (gKeep (σ := sA (.lit 0)) rfl hG')) jn.le, csR (gKeep (σ := sA (.lit 0)) rfl hG')⟩, L3 h2 j.no _ ⟨0, jn⟩⟩
  have L1 : ∀ ρ, (∃ i, JP d.w2 d.m i ρ) → W8 d w (TA 44 45 46) 1 ρ :=
    scanp (β := ⟨w, [], Gd d⟩) (pl := true) (sp := sp8 e) (f := 8) (fn := Try.f8) (j := 1) (T := TA 44 45 46) (Ts := t8) hsp rfl (Q := fun v => v = .int .i64 d.wrong) (fun ρ => ∃ i, JP d.w2 d.m i ρ) (fun ρ => ((d.m : Int) - ρ.I 9).toNat) fun ρ ⟨i, j⟩ hG hcs _ ih => by
      have hi := j.le
      by_cases hlt : i < d.m
      · have e9 : at9.den ρ = some (i : Int) := varD j.i9
        have eo := oT_den hG e9
        have go : CRel ρ (in8 ++ beg8) := CRel_app.2 ⟨lt9_ok (b := true) j.i9 (pM hG) (decide_eq_true hlt), qD e9 (pQ hG) (by simp [intCmp]; omega) (qD e9 (pM hG) (by simp [intCmp]; omega) (qD (litD 0) e9 (by simp [intCmp]) c0))⟩
        have fh : ∀ b, d.w2 i = b → CRel ρ (hs8 b) := fun b hb => c1 (by
          have e49 : (IT.fn 49 at9 (oT at9)).den ρ = some (if d.w2 i = true then 1 else 0) := by
            rw [fnD e9 eo, hG.2.2.2.1]
            show some (if d.hasN ((i : Int)).toNat (d.o i) = true then (1 : Int) else 0) = _
            rw [Int.toNat_natCast]; rfl
          rw [cmpD e49 (litD 1), hb]; cases b <;> rfl) c0
        cases hb : d.w2 i with
        | true => exact ⟨_, _, CRel_app.2 ⟨go, fh true hb⟩, a1y e, ret8 (n := 2) (by simp [Dt.wrong, Dt.mem, h1, anyT_true hlt hb])⟩
        | false =>
          refine ⟨_, _, CRel_app.2 ⟨go, fh false hb⟩, a1n e, one (on8 rfl rfl fun ρ' hle hG' => ?_)⟩
          have jn := (j.of_le hle).next (σ := sA up9) rfl hlt hm hb
          exact ⟨csM jn (gKeep rfl hG'), ih _ (by rw [jn.i9, j.i9]; omega) ⟨_, jn⟩⟩
      · obtain rfl : i = d.m := by omega
        refine ⟨_, _, lt9_ok j.i9 (pM hG) (decide_eq_false hlt), a1e e, one (to8 rfl rfl fun ρ' hle hG' => ?_)⟩
        have jn : JP d.w3 d.m 0 ((sA (.lit 0)).app ρ') := JP.zero rfl
        exact ⟨csM jn (gKeep rfl hG'), L2 j.no _ ⟨0, jn⟩⟩
  have L0 : ∀ ρ, (∃ i, JP d.w1 d.m i ρ) → W8 d w (TA 21 22 23) 0 ρ :=
    scanp (β := ⟨w, [], Gd d⟩) (pl := true) (sp := sp8 e) (f := 8) (fn := Try.f8) (j := 0) (T := TA 21 22 23) (Ts := t8) hsp rfl (Q := fun v => v = .int .i64 d.wrong) (fun ρ => ∃ i, JP d.w1 d.m i ρ) (fun ρ => ((d.m : Int) - ρ.I 9).toNat) fun ρ ⟨i, j⟩ hG hcs _ ih => by
      have hi := j.le
      by_cases hlt : i < d.m
      · have e9 : at9.den ρ = some (i : Int) := varD j.i9
        have eo := oT_den hG e9
        have hw1 := anyT_false h1 hlt
        have h2 : d.c (d.o i) 1 = 2 := by
          simp only [Dt.w1, Bool.or_eq_false_iff, Bool.not_eq_false', decide_eq_true_eq] at hw1
          exact hw1.2
        refine ⟨_, _, CRel_app.2 ⟨CRel_app.2 ⟨lt9_ok (b := true) j.i9 (pM hG) (decide_eq_true hlt), inL_ok hG eo (hi1 i hlt)⟩, qD (rT_den hG eo 1) (litD 2) (by simp [intCmp, h2]) c0⟩, a0y e, one (on8 rfl rfl fun ρ' hle hG' => ?_)⟩
        have jn := (j.of_le hle).next (σ := sA up9) rfl hlt hm hw1
        exact ⟨csM jn (gKeep rfl hG'), ih _ (by rw [jn.i9, j.i9]; omega) ⟨_, jn⟩⟩
      · obtain rfl : i = d.m := by omega
        refine ⟨_, _, lt9_ok j.i9 (pM hG) (decide_eq_false hlt), a0e e, one (to8 rfl rfl fun ρ' hle hG' => ?_)⟩
        have jn : JP d.w2 d.m 0 ((sA (.lit 0)).app ρ') := JP.zero rfl
        exact ⟨csM jn (gKeep rfl hG'), L1 _ ⟨0, jn⟩⟩
  exact toE (callp hsp rfl Try.func8 rfl (a_in e) hx hr (csR hr.g) (one (to8 rfl rfl fun ρ' hle hG' => by
    have jn : JP d.w1 d.m 0 ((sA (.lit 0)).app ρ') := JP.zero rfl
    exact ⟨csM jn (gKeep rfl hG'), L0 _ ⟨0, jn⟩⟩)))
end
end Lt
end Go.Proofs.Ytpgonpjakllnjaa
end

/-
  LinearTells (34): the reference's Wrong, wherever.
-/
section
namespace Go.Proofs.Ytpgonpjakllnjaa
open Go.Vm Go.Vm.Md Lm
namespace Lt

section
variable {d : Dt} {ρ : Env} {w : World} {xs : List Value}
theorem m0_of (ok : DOk d) (hk : d.ko ≠ .row) : d.m = 0 := by
  have h := ok.ko
  cases hd : d.ko with
  | row => exact absurd hd hk
  | nil => rw [hd] at h; exact h
  | zero => rw [hd] at h; exact h
theorem n0_of (ok : DOk d) (hk : d.kl ≠ .row) : d.n = 0 := by
  have h := ok.kl
  cases hd : d.kl with
  | row => exact absurd hd hk
  | nil => rw [hd] at h; exact h
  | zero => rw [hd] at h; exact h
theorem hist8 (ok : DOk d) (hl : d.kl = .row) (hk : d.ko ≠ .row) (hr : HRel ⟨w, [], Gd d⟩ ρ (ofP (roH (EE .row d.ko))) 300 w) (hx : AVal.denL ρ [SL .row, SO d.ko] = some xs) :
    Calls Try.prog 8 xs.toArray w fun e w' => e = .returned (.int .i64 d.wrong) ∧ Framed w w' := by
  have hn := ok.n60
  have hm0 := m0_of ok hk
  have csE' : ∀ {ρ}, (Gd d).at ρ → CRel ρ (csE .row d.ko) := fun hG => by have := dcE ok hG; rw [hl] at this; exact this
  have csN : ∀ {i ρ}, JP d.w4 d.n i ρ → (Gd d).at ρ → CRel ρ (TB d.ko).cs := fun j hG => CRel_app.2 ⟨cs9_ok j.i9 (pN hG) j.le, csE' hG⟩
  have loop := scanp (β := ⟨w, [], Gd d⟩) (pl := PL.only [20]) (sp := spL []) (f := 8) (fn := Try.f8) (j := 3) (T := TB d.ko) (Ts := [TB d.ko]) (noSp0 _) rfl (Q := fun v => v = .int .i64 d.wrong) (fun ρ => ∃ i, JP d.w4 d.n i ρ) (fun ρ => ((d.n : Int) - ρ.I 9).toNat) fun ρ ⟨i, j⟩ hG hcs _ ih => by
    have hi := j.le
    by_cases hlt : i < d.n
    · have e9 : at9.den ρ = some (i : Int) := varD j.i9
      have go : CRel ρ in3 := lt9_ok (b := true) j.i9 (pN hG) (decide_eq_true hlt)
      have nxt : d.w4 i = false → ∀ s ∈ [x8 0 3 (sB d.ko)], S8 d w [TB d.ko] ρ s := fun h => one (on8 rfl (by cases d.ko <;> rfl) fun ρ' hle hG' => by
        have jn := (j.of_le hle).next (σ := sB d.ko) (by cases d.ko <;> rfl) hlt hn h
        exact ⟨csN jn (gKeep (by cases d.ko <;> rfl) hG'), ih _ (by rw [jn.i9, j.i9]; omega) ⟨_, jn⟩⟩)
      by_cases hiv : d.c (i : Int) 1 = 2
      · have fi : CRel ρ (iv3 true) := qD (rT_den hG e9 1) (litD 2) (by simp [intCmp, hiv]) c0
        rcases refd_ways4 hG e9 with ⟨hr, f⟩ | ⟨hr, f⟩ | ⟨hr, hen, f⟩ | ⟨hr, hen, f⟩
        · exact ⟨_, _, CRel_app.2 ⟨CRel_app.2 ⟨go, fi⟩, f⟩, b3A _ hk, nxt (by simp [Dt.w4, hr])⟩
        · exact ⟨_, _, CRel_app.2 ⟨CRel_app.2 ⟨go, fi⟩, f⟩, b3B _ hk, nxt (by simp [Dt.w4, hr])⟩
        · have h4 : d.w4 i = true := by simp [Dt.w4, Dt.hasN, hm0, anyT, hr, hen, hiv]
          exact ⟨_, _, CRel_app.2 ⟨CRel_app.2 ⟨go, fi⟩, f⟩, b3y _ hk, ret8 (n := 4) (by simp [Dt.wrong, Dt.mem, hm0, anyT, anyT_true hlt h4])⟩
        · exact ⟨_, _, CRel_app.2 ⟨CRel_app.2 ⟨go, fi⟩, f⟩, b3D _ hk, nxt (by simp [Dt.w4, hen])⟩
      · exact ⟨_, _, CRel_app.2 ⟨go, qD (rT_den hG e9 1) (litD 2) (by simp [intCmp, hiv]) c0⟩, b3x _ hk, nxt (by simp [Dt.w4, hiv])⟩
    · obtain rfl : i = d.n := by omega
      exact ⟨_, _, lt9_ok j.i9 (pN hG) (decide_eq_false hlt), b3e _ hk, ret8 (n := 0) (by simp [Dt.wrong, Dt.mem, hm0, anyT, j.no])⟩
  exact toE (callp (noSp0 _) rfl Try.func8 rfl (b_in _ hk) hx hr (csE' hr.g) (one (to8 rfl (by cases d.ko <;> rfl) fun ρ' hle hG' => by
    have jn : JP d.w4 d.n 0 ((s0B d.ko).app ρ') := JP.zero (by cases d.ko <;> rfl)
    exact ⟨csN jn (gKeep (by cases d.ko <;> rfl) hG'), loop _ ⟨0, jn⟩⟩)))
theorem wrong8 (ok : DOk d) (hr : HRel ⟨w, [], Gd d⟩ ρ (ofP (roH (EE d.kl d.ko))) 300 w) (hx : AVal.denL ρ [SL d.kl, SO d.ko] = some xs) :
    Calls Try.prog 8 xs.toArray w fun e w' => e = .returned (.int .i64 d.wrong) ∧ Framed w w' := by
  have ce := dcE ok hr.g
  by_cases hl : d.kl = .row
  · by_cases hk : d.ko = .row
    · rw [hl, hk] at hr hx
      cases h1 : anyT d.w1 d.m with
      | true => exact out8 ok hl hk h1 hr hx
      | false => exact rows8 ok hl hk h1 hr hx
    · rw [hl] at hr hx
      exact hist8 ok hl hk hr hx
  · have hn0 := n0_of ok hl
    by_cases hk : d.ko = .row
    · have hm1 : 1 ≤ d.m := by have := ok.ko; rw [hk] at this; exact this
      have hG := hr.g
      have eo := oT_den (a := .lit 0) (i := 0) hG (litD 0)
      have h1 : anyT d.w1 d.m = true := anyT_true (i := 0) hm1 (by simp [Dt.w1, Dt.inR, hn0]; left; omega)
      have hw : (1 : Int) = d.wrong := by simp [Dt.wrong, Dt.mem, h1]
      rw [hk] at hr hx ce
      have f0 : CRel ρ [q9 .lss (.lit 0) (.var 38) true] := qD (litD 0) (pM hG) (by simp [intCmp]; omega) c0
      by_cases h0 : d.o 0 < 0
      · exact toE (callp (noSp0 _) rfl Try.func8 rfl (e_b _ hl) hx hr (CRel_app.2 ⟨ce, qD (litD 0) (pM hG) (by simp [intCmp]; omega) (qD eo (litD 0) (by simp [intCmp, h0]) c0)⟩) (ret8 (n := 1) hw))
      · exact toE (callp (noSp0 _) rfl Try.func8 rfl (e_c _ hl) hx hr (CRel_app.2 ⟨CRel_app.2 ⟨ce, qD (litD 0) (pM hG) (by simp [intCmp]; omega) (qD eo (litD 0) (by simp [intCmp, h0]) c0)⟩, qD eo (litD 0) (by simp [intCmp]; omega) c0⟩) (ret8 (n := 1) hw))
    · have hm0 := m0_of ok hk
      exact toE (callp (noSp0 _) rfl Try.func8 rfl (e_n _ _ hl hk) hx hr ce (ret8 (n := 0) (by simp [Dt.wrong, Dt.mem, hm0, hn0, anyT])))
theorem spWr8_ok (ok : DOk d) {β : Base} (hβ : β.G = Gd d) : SpGOk Try.prog β 8 (spWr d.kl d.ko) :=
  spE_ok (nb_EE _ _) fun ρ w xs hx hr _ => by
    rw [hβ] at hr
    have e : (IT.var 45).den ρ = some d.wrong := pin hr.g (by simp [pins])
    exact ⟨.int .i64 d.wrong, by simp only [AVal.den, e, Option.map_some], wrong8 ok hr hx⟩
end
end Lt
end Go.Proofs.Ytpgonpjakllnjaa
end
