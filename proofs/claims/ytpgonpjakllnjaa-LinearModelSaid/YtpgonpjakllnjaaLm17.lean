/-
  LinearModel (17): the law answers true, for every input.
-/
import Derived.Test.YtpgonpjakllnjaaLm16
import Derived.Test.YtpgonpjakllnjaaLm0
namespace Go.Proofs.Ytpgonpjakllnjaa
open Go.Vm Go.Vm.Md
namespace Lm

theorem xQ_ok : ExtOk Try.prog xQ := by
  intro g k h
  simp only [xQ, Exts.get] at h
  cases hb : Nat.beq 72 g with
  | false => rw [hb] at h; cases h
  | true =>
    rw [hb] at h; cases h
    obtain rfl := Nat.eq_of_beq_eq_true hb
    exact ⟨_, Try.func72, rfl, by kernel_rfl, by kernel_rfl⟩
theorem first6 (w : World) : Calls Try.prog 6 #[] w (fun e w' => e = .returned (.bool true) ∧ Framed w w') :=
  calls_true (β := .plain w) (ρ := envOf [] [] F0) xQ_ok noSp_ok rfl Try.func6 rfl run6 (xs := []) rfl (HRel.start w _ fun _ => rfl) (fun _ h => by cases h)
def kOp : List IntKind := [.i64, .i64, .i64, .i64]
def hL : Nat × ABlk := (0, .arr (.var 0) kOp 25 (.var 6) (.var 62) none)
def sL : AVal := .slice 0 (.var 62) (.var 6) (.var 63)
def sZ : AVal := .slice 0 (.var 62) (.lit 0) (.var 63)
def csL : Cs := [(.cmp .geq (.var 6) (.lit 1), true), (.cmp .leq (.var 6) (.lit 60), true)]
def mL : HB := ⟨.big 0 (.var 21), true⟩
def rH (n : IT) : HB := ⟨.arr (.code ksR (.var 5)) ksR 31 n (.lit 0) (some (.nv 12)), true⟩
def rO (n : IT) : HB := ⟨.arr (.code [.i64] (.var 7)) [.i64] 3 n (.lit 0) (some (.nv 16)), true⟩
def csT : Cs := [(.cmp .geq at0 (.lit 1), true), (.cmp .leq at0 (.var 6), true)] ++ csL
def TA : Bool → Tpl
  | false => ⟨[(3, .ptr 14 (.lit 0)), (4, .sliceNil), (5, .sliceNil), (16, sL), (17, iV 6), (18, .int .i64 (.lit 0))], 56, roH [hL] ++ [(14, mL)], 15, csL, 3⟩
  | true => ⟨[(3, .ptr 14 (.lit 0)), (4, .slice 13 (.lit 0) at0 (.nv 12)), (5, .slice 17 (.lit 0) at0 (.nv 16)), (16, sL), (17, iV 6), (18, iV 9)], 56, roH [hL] ++ [(14, mL), (13, rH at0), (17, rO at0)], 30, csT, 3⟩
def spA : CallF := spL [(6, spTrue), (10, spNew), (11, spApply), (12, spRepL), (13, spWr), (14, spSame)]
theorem spA_ok {w : World} : CallOk Try.prog ⟨w, [], GW⟩ spA := spL_ok fun p hp => by
  simp only [List.mem_cons, List.not_mem_nil, or_false] at hp
  rcases hp with rfl | rfl | rfl | rfl | rfl | rfl
  · exact spTrue_ok first6
  · exact spNew_ok
  · exact spApply_ok fun _ _ _ _ _ h => h
  · exact spRepL_ok fun _ _ _ _ _ h => h
  · exact spWr_ok fun _ _ _ _ _ h => h
  · exact spSame_ok
noncomputable def b4 : Code := ((loopsOf (Try.f4.body.getD .ret) []).getD 0 (.ret, [])).1
noncomputable def k4 : List Item := ((loopsOf (Try.f4.body.getD .ret) []).getD 0 (.ret, [])).2
def cO (a : IT) (j : Nat) : IT := .sel 0 4 j a
def oA (a : IT) : IT := opT (cO a 0) (cO a 1) (cO a 2) (cO a 3)
def snocs (c : IT) : List IT → IT
  | [] => c
  | t :: r => snocs (.un 3 c t) r
def recT (a s e : IT) : List IT := [.lit 0, .lit 2, cO a 0, cO a 1, cO a 2, cO a 3, .lit 0, s, e, .fn 70 (.var 21) (oA a), .fn 71 (.var 21) (oA a), .lit 0, .lit 0, .lit 0, .lit 0, .lit 0]
def dbl : IT := .bin .mul .i64 (.lit 2) (.var 9)
def sgA0 : Sub := ⟨[(6, .var 6), (21, m0T)], [], [], [], [(14, 10), (0, 0)]⟩
def sgA (t a s e c d : IT) (n1 n2 n3 n4 : Nat) : Sub := ⟨[(9, t), (6, .var 6), (21, .fn 72 (.var 21) (oA a)), (5, snocs c (recT a s e)), (7, .un 3 d a)], [], [], [], [(14, 14), (13, n1), (12, n2), (17, n3), (16, n4), (0, 0)]⟩
def endA' : Cs := fI false ++ [(gd (.var 5) (.var 7), true), (.cmp .eql (.var 21) (.fn 62 (.var 5) (.var 7)), true)]
theorem a_in : (run Try.prog [] spA 4000 true 4 (entry Try.f4 (Try.f4.body.getD .ret) [sL] (ofP (roH [hL])) 10 csL)).map (·.filterMap (sumD gM [TA false])) = some [.next 0 (.code (.loop b4) :: k4) [] sgA0] := by kernel_rfl
theorem a_0 : (run Try.prog [] spA 4000 true 4 ((⟨(TA false).tm, (TA false).nt, (TA false).H, (TA false).nl, f0 true ++ (TA false).cs, (TA false).dep⟩ : Tpl).st (.code b4 :: .inLoop b4 :: k4))).map (·.filterMap (sumD gM [TA true])) = some [.next 0 (.inLoop b4 :: k4) [] (sgA (.lit 1) (.lit 0) (.lit 0) (.lit 1) (.lit 0) (.lit 0) 18 17 21 20)] := by kernel_rfl
theorem a_1 : (run Try.prog [] spA 4000 true 4 ((⟨(TA true).tm, (TA true).nt, (TA true).H, (TA true).nl, fI true ++ (TA true).cs, (TA true).dep⟩ : Tpl).st (.code b4 :: .inLoop b4 :: k4))).map (·.filterMap (sumD gM [TA true])) = some [.next 0 (.inLoop b4 :: k4) [] (sgA (upI 9) at0 dbl (.bin .add .i64 dbl (.lit 1)) (.var 5) (.var 7) 33 32 36 35)] := by kernel_rfl
theorem a_e : (run Try.prog [] spA 4000 true 4 ((⟨(TA true).tm, (TA true).nt, (TA true).H, (TA true).nl, endA' ++ (TA true).cs, (TA true).dep⟩ : Tpl).st (.code b4 :: .inLoop b4 :: k4))).map (·.filterMap (sumD gM [])) = some [.ret (.bool (.lit true)) []] := by kernel_rfl
noncomputable def AllT (args : List AVal) (H : Heap) (cs : Cs) : Prop := (run Try.prog [] spA 4000 false 4 (entry Try.f4 (Try.f4.body.getD .ret) args H 10 cs)).map (·.all (leafB (.lit true))) = some true
def csZ : Cs := [(.cmp .eql m0T m0T, true)]
theorem a_60 : AllT [sL] (ofP (roH [hL])) [(.cmp .gtr (.var 6) (.lit 60), true)] := by unfold AllT; kernel_rfl
theorem a_nil : AllT [.sliceNil] .leaf csZ := by unfold AllT; kernel_rfl
theorem a_zero : AllT [sZ] .leaf csZ := by unfold AllT; kernel_rfl
theorem csZ_ok {ρ : Env} : CRel ρ csZ := c1 (eqlT m0T_den m0T_den rfl) c0
-- A LOOP OF TWO HEADS, WITHOUT MEMORY
section
variable {P : Program} {β : Base} {f : FuncId} {Q : Value → Prop}
theorem loop_goesK (hc : NoCount P) {E : Exts} (hE : ExtOk P E) {sp : CallF} (hsp : CallOk P β sp) (hm : P.follows .mixedOrders = true) (hown : β.own = []) {g : Gen} {b : Code} {k : List Item} {n : Nat} {ι : Type} (T : ι → Tpl) (J : ι → Env → Prop) (μ : ι → Env → Nat)
    (hs : ∀ i ρ, J i ρ → CRel ρ (T i).cs → GP.at β.G ρ → (∀ i' ρ', μ i' ρ' < μ i ρ → J i' ρ' → ∀ todo a w, todo = .inLoop b :: k ∨ todo = .code (.loop b) :: k → SRel β ρ' ((T i').st todo) a w → Goes P f (fun v w' => Q v ∧ Framed β.w0 w') todo a w) →
      ∃ pl Ts cs' sums, CRel ρ cs' ∧ (run P E sp n pl f ((⟨(T i).tm, (T i).nt, (T i).H, (T i).nl, cs', (T i).dep⟩ : Tpl).st (.code b :: .inLoop b :: k))).map (·.filterMap (sumD g Ts)) = some sums ∧ ∀ s ∈ sums, SumGood P β f Q Ts ρ s) :
    ∀ i ρ, J i ρ → ∀ todo a w, todo = .inLoop b :: k ∨ todo = .code (.loop b) :: k → SRel β ρ ((T i).st todo) a w → Goes P f (fun v w' => Q v ∧ Framed β.w0 w') todo a w := by
  suffices H : ∀ N i ρ, μ i ρ = N → J i ρ → ∀ todo a w, todo = .inLoop b :: k ∨ todo = .code (.loop b) :: k → SRel β ρ ((T i).st todo) a w → Goes P f (fun v w' => Q v ∧ Framed β.w0 w') todo a w from fun i ρ => H _ i ρ rfl
  intro N
  induction N using Nat.strongRecOn with
  | _ N ih =>
    intro i ρ hN hJ todo a w htd r
    obtain ⟨pl, Ts, cs', sums, hcs', hrun, hss⟩ := hs i ρ hJ r.c r.h.g fun i' ρ' hlt hJ' todo' a' w' ht' r' => ih (μ i' ρ') (by omega) i' ρ' rfl hJ' todo' a' w' ht' r'
    obtain ⟨ls, hls, hsum⟩ := Option.map_eq_some_iff.1 hrun
    have key : Goes P f (fun v w' => Q v ∧ Framed β.w0 w') (.code b :: .inLoop b :: k) a w := run_sound hc hE hsp hm n pl f _ ls ρ a w _ hls ⟨r.d, r.n, r.t, r.h, hcs'⟩ (sums_all hown (g := g) (Ts := Ts) (sums := ls.filterMap (sumL g Ts)) rfl (dcs hsum hss))
    rcases htd with rfl | rfl
    · exact Goes.one (fun cs => step_inLoop) key
    · exact Goes.one (fun cs => step_loop) key
end
-- WHAT HOLDS
/-- The operations that came in. -/
def opsV (v : Value) (n : Nat) : List Int := (List.range (n * 4)).map (selI v)
theorem opsV_get (v : Value) {n i j : Nat} (hi : i < n) (hj : j < 4) : opL (opsV v n) i j = selI v (i * 4 + j) := by
  unfold opL opsV
  rw [List.getD_eq_getElem?_getD, List.getElem?_map, List.getElem?_range (by omega)]
  rfl
structure JA (L : List Int) (v : Value) (n i : Nat) (ρ : Env) : Prop where
  v0 : ρ.V 0 = v
  i6 : ρ.I 6 = (n : Int)
  i21 : ρ.I 21 = (stL L i).code
  n1 : 1 ≤ n
  n60 : n ≤ 60
  hL : L = opsV v n
theorem JA.of_le {L : List Int} {v : Value} {n i : Nat} {ρ ρ' : Env} (h : JA L v n i ρ) (g : ρ.Le ρ') : JA L v n i ρ' := ⟨by rw [g.v]; exact h.v0, by rw [g.i]; exact h.i6, by rw [g.i]; exact h.i21, h.n1, h.n60, h.hL⟩
structure JB (L : List Int) (v : Value) (n i : Nat) (ρ : Env) : Prop where
  a : JA L v n i ρ
  i9 : ρ.I 9 = (i : Int)
  i5 : ρ.I 5 = encL (recs L i)
  i7 : ρ.I 7 = encL (iota i)
  i1 : 1 ≤ i
  le : i ≤ n
theorem JB.of_le {L : List Int} {v : Value} {n i : Nat} {ρ ρ' : Env} (h : JB L v n i ρ) (g : ρ.Le ρ') : JB L v n i ρ' := ⟨h.a.of_le g, by rw [g.i]; exact h.i9, by rw [g.i]; exact h.i5, by rw [g.i]; exact h.i7, h.i1, h.le⟩
section
variable {L : List Int} {v : Value} {n i : Nat} {ρ : Env}
theorem JA.cs (h : JA L v n i ρ) : CRel ρ csL := by
  have := h.n1; have := h.n60
  exact c1 (geqT (varD h.i6) (litD 1) (by omega)) (c1 (leqT (varD h.i6) (litD 60) (by omega)) c0)
theorem JB.cs (h : JB L v n i ρ) : CRel ρ csT := by
  have := h.i1; have := h.le
  exact c1 (geqT (varD h.i9) (litD 1) (by omega)) (c1 (leqT (varD h.i9) (varD h.a.i6) (by omega)) h.a.cs)
theorem JA.cO (h : JA L v n i ρ) {a : IT} {q : Nat} (ha : a.den ρ = some (q : Int)) (hq : q < n) {j : Nat} (hj : j < 4) : (Lm.cO a j).den ρ = some (opL L q j) := by
  unfold Lm.cO
  rw [selD ha, h.v0, h.hL, opsV_get v hq hj]
theorem snocs_den : ∀ (ts : List IT) (xs : List Int) {c : IT} {K : List Int}, c.den ρ = some (encL K) → ts.length = xs.length → (∀ p ∈ ts.zip xs, p.1.den ρ = some p.2) → (snocs c ts).den ρ = some (encL (K ++ xs))
  | [], [], c, K, hc, _, _ => by rw [List.append_nil]; exact hc
  | [], _ :: _, _, _, _, h, _ => by cases h
  | _ :: _, [], _, _, _, h, _ => by cases h
  | t :: ts, x :: xs, c, K, hc, hl, h => by
    have h1 : t.den ρ = some x := h (t, x) List.mem_cons_self
    have := snocs_den ts xs (snoc_den hc h1) (by simpa using hl) (fun p hp => h p (List.mem_cons_of_mem _ hp))
    rw [List.append_assoc] at this
    exact this
/-- A round: what the names become. -/
theorem stepA (h : JA L v n i ρ) (hG : GW.at ρ) {a s e c d : IT} (ha : a.den ρ = some (i : Int)) (hi : i < n) (hs : s.den ρ = some (2 * (i : Int))) (he : e.den ρ = some (2 * (i : Int) + 1)) (hc : c.den ρ = some (encL (recs L i))) (hd : d.den ρ = some (encL (iota i))) :
    (IT.fn 72 (.var 21) (oA a)).den ρ = some (stL L (i + 1)).code ∧ (snocs c (recT a s e)).den ρ = some (encL (recs L (i + 1))) ∧ (IT.un 3 d a).den ρ = some (encL (iota (i + 1))) := by
  obtain ⟨_, _, _, _, g70, g71, g72⟩ := hG
  have q0 := h.cO ha hi (j := 0) (by omega)
  have q1 := h.cO ha hi (j := 1) (by omega)
  have q2 := h.cO ha hi (j := 2) (by omega)
  have q3 := h.cO ha hi (j := 3) (by omega)
  have eo : (oA a).den ρ = some (encL [opL L i 0, opL L i 1, opL L i 2, opL L i 3]) := opT_den q0 q1 q2 q3
  have e70 : (IT.fn 70 (.var 21) (oA a)).den ρ = some (anL L i).1 := by rw [fnD (varD h.i21) eo, g70]; simp only [apO_enc]; rfl
  have e71 : (IT.fn 71 (.var 21) (oA a)).den ρ = some (anL L i).2 := by rw [fnD (varD h.i21) eo, g71]; simp only [apO_enc]; rfl
  refine ⟨by rw [fnD (varD h.i21) eo, g72]; simp only [apO_enc]; rfl, snocs_den (recT a s e) (recOf L i) hc rfl fun p hp => ?_, snoc_den hd ha⟩
  simp only [recT, recOf, List.zip_cons_cons, List.zip_nil_right, List.mem_cons, List.not_mem_nil, or_false] at hp
  rcases hp with rfl | rfl | rfl | rfl | rfl | rfl | rfl | rfl | rfl | rfl | rfl | rfl | rfl | rfl | rfl | rfl
  · rfl
  · rfl
  · exact q0
  · exact q1
  · exact q2
  · exact q3
  · rfl
  · exact hs
  · exact he
  · exact e70
  · exact e71
  · rfl
  · rfl
  · rfl
  · rfl
  · rfl
end
def JAz (L : List Int) (v : Value) (n : Nat) : Bool → Env → Prop
  | false => JA L v n 0
  | true => fun ρ => ∃ i, JB L v n i ρ
def QL : Value → Prop := fun x => x = .bool true
theorem loop4 (w : World) {L : List Int} {v : Value} {n : Nat} : ∀ z ρ, JAz L v n z ρ → ∀ todo a w', todo = .inLoop b4 :: k4 ∨ todo = .code (.loop b4) :: k4 → SRel ⟨w, [], GW⟩ ρ ((TA z).st todo) a w' → Goes Try.prog 4 (fun x w' => QL x ∧ Framed w w') todo a w' := by
  refine loop_goesK (P := Try.prog) (β := ⟨w, [], GW⟩) (f := 4) (Q := QL) (b := b4) (k := k4) (n := 4000) (g := gM) noCount noExt spA_ok follows rfl TA (JAz L v n) (μI n) fun z ρ hJ hcs hG ih => ?_
  cases z with
  | false =>
    have j : JA L v n 0 ρ := hJ
    have hn1 := j.n1
    refine ⟨true, [TA true], f0 true ++ (TA false).cs, _, CRel_app.2 ⟨c1 (lssT (litD 0) (varD j.i6) (by omega)) c0, hcs⟩, a_0, one (nextS rfl fun ρ' hle hG' => ?_)⟩
    have j' := j.of_le hle
    obtain ⟨s1, s2, s3⟩ := stepA (i := 0) (a := .lit 0) (s := .lit 0) (e := .lit 1) (c := .lit 0) (d := .lit 0) j' hG' rfl hn1 rfl rfl rfl rfl
    have jn : JB L v n 1 ((sgA (.lit 1) (.lit 0) (.lit 0) (.lit 1) (.lit 0) (.lit 0) 18 17 21 20).app ρ') := ⟨⟨j'.v0, j'.i6, sbI rfl s1, j'.n1, j'.n60, j'.hL⟩, rfl, sbI rfl s2, sbI rfl s3, Nat.le_refl _, hn1⟩
    exact ⟨hG', jn.cs, fun a w r => ih true _ (by show ((n : Int) - ((sgA (.lit 1) (.lit 0) (.lit 0) (.lit 1) (.lit 0) (.lit 0) 18 17 21 20).app ρ').I 9).toNat < n + 1; rw [jn.i9]; omega) ⟨1, jn⟩ _ a w (.inl rfl) r⟩
  | true =>
    obtain ⟨i, j⟩ := hJ
    have hi := j.le
    have hn60 := j.a.n60
    by_cases hlt : i < n
    · refine ⟨true, [TA true], fI true ++ (TA true).cs, _, CRel_app.2 ⟨c1 (lssT (varD j.i9) (varD j.a.i6) (by omega)) c0, hcs⟩, a_1, one (nextS rfl fun ρ' hle hG' => ?_)⟩
      have j' := j.of_le hle
      have ea : at0.den ρ' = some (i : Int) := varD j'.i9
      have es : dbl.den ρ' = some (2 * (i : Int)) := by
        unfold dbl
        rw [binD (litD 2) (varD j'.i9)]
        show some (IntKind.i64.wrap (2 * (i : Int))) = _
        rw [wrapI (by omega) (by omega)]
      have ee : (IT.bin .add .i64 dbl (.lit 1)).den ρ' = some (2 * (i : Int) + 1) := plusD es (litD 1) (by omega) (by omega)
      obtain ⟨s1, s2, s3⟩ := stepA (i := i) (a := at0) j'.a hG' ea hlt es ee (varD j'.i5) (varD j'.i7)
      have jn : JB L v n (i + 1) ((sgA (upI 9) at0 dbl (.bin .add .i64 dbl (.lit 1)) (.var 5) (.var 7) 33 32 36 35).app ρ') := ⟨⟨j'.a.v0, j'.a.i6, sbI rfl s1, j'.a.n1, j'.a.n60, j'.a.hL⟩, sbI (t := upI 9) rfl (upD (varD j'.i9) (by omega)), sbI rfl s2, sbI rfl s3, by omega, hlt⟩
      exact ⟨hG', jn.cs, fun a w r => ih true _ (by show ((n : Int) - ((sgA (upI 9) at0 dbl (.bin .add .i64 dbl (.lit 1)) (.var 5) (.var 7) 33 32 36 35).app ρ').I 9).toNat < ((n : Int) - ρ.I 9).toNat; rw [jn.i9, j.i9]; omega) ⟨i + 1, jn⟩ _ a w (.inl rfl) r⟩
    · obtain rfl : i = n := by omega
      have g := good_recs L j.i1 hn60
      have e62 : (IT.fn 62 (.var 5) (.var 7)).den ρ = some (stL L i).code := by
        rw [fnD (varD j.i5) (varD j.i7), hG.2.2.1, stF, goodLen g, stH_recs L i i (Nat.le_refl _)]
      refine ⟨true, [], endA' ++ (TA true).cs, _, CRel_app.2 ⟨CRel_app.2 ⟨c1 (lssF (varD j.i9) (varD j.a.i6) (by omega)) c0, c1 (gd_den hG (varD j.i5) (varD j.i7) ⟨_, g⟩) (c1 (eqlT (varD j.a.i21) e62 rfl) c0)⟩, hcs⟩, a_e, one (retS (z := .bool true) (fun _ _ => rfl) rfl)⟩
-- FOR EVERY INPUT
noncomputable def envA (v : Value) (n b o q : Nat) : Env := ⟨fun i => if i = 6 then n else if i = 62 then o else if i = 63 then q else 0, fun _ => false, fun _ => default, fun _ => v, fun i => if i = 0 then some b else none, FW⟩
theorem GW_A {v : Value} {n b o q : Nat} : GW.at (envA v n b o q) := ⟨rfl, rfl, rfl, rfl, rfl, rfl, rfl⟩
theorem hrelA (w : World) (v : Value) (n b o q : Nat) : HRel ⟨w, [], GW⟩ (envA v n b o q) .leaf 10 w := HRel.ro [] (fun p hp' => by cases hp') (fun i hi => if_neg (by omega)) GW_A
theorem allT {W : World} {ρ : Env} {args : List AVal} {xs : List Value} {H : Heap} {cs : Cs} (h : AllT args H cs) (hx : AVal.denL ρ args = some xs) (hr : HRel ⟨W, [], GW⟩ ρ H 10 W) (hc : CRel ρ cs) : Calls Try.prog 4 xs.toArray W (fun e w' => e = .returned (.bool true) ∧ Framed W w') :=
  calls_true (β := ⟨W, [], GW⟩) noExt spA_ok rfl Try.func4 rfl h hx hr hc
theorem law_nil (W : World) : Calls Try.prog 4 #[.slice none 0 0] W (fun e w' => e = .returned (.bool true) ∧ Framed W w') := allT a_nil (denL1 rfl) (hrelA W undef 0 0 0 0) csZ_ok
theorem law_zero (W : World) (b o q : Nat) : Calls Try.prog 4 #[.slice (some ⟨b, o, none⟩) 0 q] W (fun e w' => e = .returned (.bool true) ∧ Framed W w') :=
  allT a_zero (denL1 (den_slice_of (b := b) (o := o) (n := 0) (c := q) rfl rfl rfl rfl)) (hrelA W undef 0 b o q) csZ_ok
theorem law_row (W : World) (v : Value) (n b o q : Nat) (hn : 1 ≤ n) (hrow : RowAt W b o kOp n v) : Calls Try.prog 4 #[.slice (some ⟨b, o, none⟩) n q] W (fun e w' => e = .returned (.bool true) ∧ Framed W w') := by
  have hr : HRel ⟨W, [], GW⟩ (envA v n b o q) (ofP (roH [hL])) 10 W := by
    refine HRel.ro [hL] (fun p hp => ?_) (fun i hi => if_neg (by omega)) GW_A
    rw [List.mem_singleton.1 hp]
    obtain ⟨ob, h1, h2⟩ := hrow.rel (ρ := envA v n b o q) (a := 0) (n := .var 6) (off := .var 62) (el := 25) rfl rfl rfl
    exact ⟨b, ob, rfl, h1, h2⟩
  have hx : AVal.denL (envA v n b o q) [sL] = some [.slice (some ⟨b, o, none⟩) n q] := denL1 (den_slice_of rfl rfl rfl rfl)
  have e6 : (IT.var 6).den (envA v n b o q) = some (n : Int) := rfl
  by_cases hl : 60 < n
  · exact allT a_60 hx hr (c1 (gtrT e6 (litD 60) (by omega)) c0)
  · refine (calls_sumsD (β := ⟨W, [], GW⟩) (Q := QL) (g := gM) (Ts := [TA false]) (pl := true) noCount noExt spA_ok follows rfl Try.func4 rfl a_in hx hr (c1 (geqT e6 (litD 1) (by omega)) (c1 (leqT e6 (litD 60) (by omega)) c0)) (one (nextS rfl fun ρ' hle hG' => ?_))).mono fun _ _ ⟨_, he, hv, hf⟩ => ⟨by rw [he, hv], hf⟩
    have jn : JA (opsV v n) v n 0 (sgA0.app ρ') := ⟨by show ρ'.V 0 = _; rw [hle.v]; rfl, by show ρ'.I 6 = _; rw [hle.i]; rfl, sbI (t := m0T) rfl m0T_den, hn, by omega, rfl⟩
    exact ⟨hG', jn.cs, fun a w r => loop4 W false _ jn _ a w (.inr rfl) r⟩
end Lm
end Go.Proofs.Ytpgonpjakllnjaa
