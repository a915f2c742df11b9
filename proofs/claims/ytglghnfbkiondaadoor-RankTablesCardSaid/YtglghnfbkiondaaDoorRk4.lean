/-
  Ranks (3): loops: small laws; a row of numbers that came in.
-/
import Derived.Test.YtglghnfbkiondaaDoorRk1
section
namespace Go.Proofs.YtglghnfbkiondaaDoor
open Go.Vm Go.Vm.Rk
namespace Rk

def gM : Gen := ⟨30, 0, 0, 0⟩
def iV (i : Nat) : AVal := .int .i64 (.var i)
def upI (i : Nat) : IT := .bin .add .i64 (.var i) (.lit 1)
theorem noSp0 (β : Base) : CallOk Tryd.prog β (spL []) := spL_ok fun _ hp => by cases hp
-- LOOPS THAT LOOK THROUGH A ROW
section
variable {f : FuncId} {β : Base} {sp : CallF} {T : Tpl} {b : Code} {k : List Item} {v : Value} {n : Nat} {J : Nat → Env → Prop} {cGo cEnd : Cs} {σ : Sub} {u : AVal}
theorem scanGo (hsp : CallOk Tryd.prog β sp) (hown : β.own = []) (hcount : ∀ {i ρ}, J i ρ → ρ.I 9 = (i : Int) ∧ i ≤ n) (hle : ∀ {i ρ ρ'}, J i ρ → ρ.Le ρ' → J i ρ') (hcs : ∀ {i ρ}, J i ρ → GP.at β.G ρ → CRel ρ T.cs)
    (hgo : (run Tryd.prog [] sp 4000 true f ((⟨T.tm, T.nt, T.H, T.nl, cGo ++ T.cs, T.dep⟩ : Tpl).st (.code b :: .inLoop b :: k))).map (·.filterMap (sumD gM [T])) = some [.next 0 (.inLoop b :: k) [] σ])
    (hend : (run Tryd.prog [] sp 4000 true f ((⟨T.tm, T.nt, T.H, T.nl, cEnd ++ T.cs, T.dep⟩ : Tpl).st (.code b :: .inLoop b :: k))).map (·.filterMap (sumD gM [T])) = some [.ret u []])
    (fGo : ∀ {i ρ}, J i ρ → i < n → GP.at β.G ρ → CRel ρ cGo) (fEnd : ∀ {ρ}, J n ρ → CRel ρ cEnd) (next : ∀ {i ρ}, J i ρ → i < n → GP.at β.G ρ → J (i + 1) (σ.app ρ)) (hG : ∀ ρ, GP.at β.G ρ → GP.at β.G (σ.app ρ)) (hu : ∀ ρ, u.den ρ = some v) :
    ∀ ρ, (∃ i, J i ρ) → ∀ todo a w, todo = .inLoop b :: k ∨ todo = .code (.loop b) :: k → SRel β ρ (T.st todo) a w → Goes Tryd.prog f (fun x w' => x = v ∧ Framed β.w0 w') todo a w :=
  loop_goesD (P := Tryd.prog) (Q := fun x => x = v) (Ts := [T]) (n := 4000) (g := gM) (pl := true) noCount noExt hsp follows hown (fun ρ => ∃ i, J i ρ) (fun ρ => ((n : Int) - ρ.I 9).toNat) fun ρ ⟨i, j⟩ _ hcs0 hG0 ih => by
    obtain ⟨h9, hi⟩ := hcount j
    by_cases hlt : i < n
    · refine ⟨cGo ++ T.cs, _, CRel_app.2 ⟨fGo j hlt hG0, hcs0⟩, hgo, Go.Vm.one (nextS rfl fun ρ' hle' hG' => ?_)⟩
      have jn := next (hle j hle') hlt hG'
      exact ⟨hG ρ' hG', hcs jn (hG ρ' hG'), fun a w' r => ih _ (by rw [(hcount jn).1, h9]; omega) ⟨_, jn⟩ _ a w' (.inl rfl) r⟩
    · obtain rfl : i = n := by omega
      exact ⟨cEnd ++ T.cs, _, CRel_app.2 ⟨fEnd j, hcs0⟩, hend, Go.Vm.one (retS (z := v) (fun ρ' _ => hu ρ') rfl)⟩
variable {H : Heap} {nl : Nat} {cs : Cs} {args : List AVal} {xs : List Value} {fn : Func} {c : Code} {σ0 : Sub} {ρ : Env} {w : World}
theorem scanCall (hsp : CallOk Tryd.prog β sp) (hown : β.own = []) (hf : Tryd.prog.funcs[f]? = some fn) (hb : fn.body = some c)
    (hin : (run Tryd.prog [] sp 4000 true f (entry fn c args H nl cs)).map (·.filterMap (sumD gM [T])) = some [.next 0 (.code (.loop b) :: k) [] σ0])
    (hx : AVal.denL ρ args = some xs) (hr : HRel β ρ H nl w) (hc : CRel ρ cs)
    (h0 : ∀ ρ', ρ.Le ρ' → GP.at β.G ρ' → GP.at β.G (σ0.app ρ') ∧ (∃ i, J i (σ0.app ρ')) ∧ CRel (σ0.app ρ') T.cs)
    (loop : ∀ ρ, (∃ i, J i ρ) → ∀ todo a w, todo = .inLoop b :: k ∨ todo = .code (.loop b) :: k → SRel β ρ (T.st todo) a w → Goes Tryd.prog f (fun x w' => x = v ∧ Framed β.w0 w') todo a w) :
    Calls Tryd.prog f xs.toArray w fun e w' => e = .returned v ∧ Framed β.w0 w' := by
  refine (calls_sumsD (Q := fun x => x = v) (g := gM) (Ts := [T]) (pl := true) noCount noExt hsp follows hown hf hb hin hx hr hc (Go.Vm.one (nextS rfl fun ρ' hle hG => ?_))).mono fun e w' ⟨x, he, hv, hf⟩ => ⟨by rw [he, hv], hf⟩
  obtain ⟨g1, g2, g3⟩ := h0 ρ' hle hG
  exact ⟨g1, g3, fun a w' r => loop _ g2 _ a w' (.inr rfl) r⟩
end
-- A LOOP WHOSE HEADS ARE TWO
section
variable {P : Program} {β : Base} {f : FuncId} {R : Value → World → Prop} {Rs : List Tpl}
theorem loop_goesJ (hc : NoCount P) {E : Exts} (hE : ExtOk P E) {sp : CallF} (hsp : CallOk P β sp) (hm : P.follows .mixedOrders = true) {g : Gen} {L : List Nat} {b : Code} {k : List Item} {n : Nat} {ι : Type} (T : ι → Tpl) (J : ι → Env → Prop) (μ : ι → Env → Nat)
    (hs : ∀ i ρ, J i ρ → CRel ρ (T i).cs → GP.at β.G ρ → (∀ i' ρ', μ i' ρ' < μ i ρ → J i' ρ' → ∀ todo a w, todo = .inLoop b :: k ∨ todo = .code (.loop b) :: k → SRel β ρ' ((T i').st todo) a w → Goes P f R todo a w) →
      ∃ pl Ts cs' sums, CRel ρ cs' ∧ (run P E sp n pl f ((⟨(T i).tm, (T i).nt, (T i).H, (T i).nl, cs', (T i).dep⟩ : Tpl).st (.code b :: .inLoop b :: k))).map (·.filterMap (sumMD g L Rs Ts)) = some sums ∧ ∀ s ∈ sums, MGoodO P β f R Rs Ts ρ s) :
    ∀ i ρ, J i ρ → ∀ todo a w, todo = .inLoop b :: k ∨ todo = .code (.loop b) :: k → SRel β ρ ((T i).st todo) a w → Goes P f R todo a w := by
  suffices H : ∀ N i ρ, μ i ρ = N → J i ρ → ∀ todo a w, todo = .inLoop b :: k ∨ todo = .code (.loop b) :: k → SRel β ρ ((T i).st todo) a w → Goes P f R todo a w from fun i ρ => H _ i ρ rfl
  intro N
  induction N using Nat.strongRecOn with
  | _ N ih =>
    intro i ρ hN hJ todo a w htd r
    obtain ⟨pl, Ts, cs', sums, hcs', hrun, hss⟩ := hs i ρ hJ r.c r.h.g fun i' ρ' hlt hJ' todo' a' w' ht' r' => ih (μ i' ρ') (by omega) i' ρ' rfl hJ' todo' a' w' ht' r'
    obtain ⟨ls, hls, hsum⟩ := Option.map_eq_some_iff.1 hrun
    have key : Goes P f R (.code b :: .inLoop b :: k) a w := run_sound hc hE hsp hm n pl f _ ls ρ a w _ hls ⟨r.d, r.n, r.t, r.h, hcs'⟩ (m_allO (g := g) (L := L) (sums := ls.filterMap (sumMO g L Rs Ts)) rfl (dcsM hsum hss))
    rcases htd with rfl | rfl
    · exact Goes.one (fun cs => step_inLoop) key
    · exact Goes.one (fun cs => step_loop) key
end
-- A LOOP OF TWO HEADS, WITHOUT MEMORY
section
variable {P : Program} {β : Base} {f : FuncId} {Q : Value → Prop}
theorem loop_goesK (hc : NoCount P) {E : Exts} (hE : ExtOk P E) {sp : CallF} (hsp : CallOk P β sp) (hm : P.follows .mixedOrders = true) (hown : β.own = []) {g : Gen} {b : Code} {k : List Item} {n : Nat} {ι : Type} (T : ι → Tpl) (J : ι → Env → Prop) (μ : ι → Env → Nat)
    (hs : ∀ i ρ, J i ρ → CRel ρ (T i).cs → GP.at β.G ρ → (∀ i' ρ', μ i' ρ' < μ i ρ → J i' ρ' → ∀ todo a w, todo = .inLoop b :: k ∨ todo = .code (.loop b) :: k → SRel β ρ' ((T i').st todo) a w → Goes P f (fun v w' => Q v ∧ Framed β.w0 w') todo a w) →
      ∃ pl Ts cs' sums, CRel ρ cs' ∧ (run P E sp n pl f ((⟨(T i).tm, (T i).nt, (T i).H, (T i).nl, cs', (T i).dep⟩ : Tpl).st (.code b :: .inLoop b :: k))).map (·.filterMap (sumD g Ts)) = some sums ∧ ∀ s ∈ sums, SumGood P β f Q Ts ρ s) :
    ∀ i ρ, J i ρ → ∀ todo a w, todo = .inLoop b :: k ∨ todo = .code (.loop b) :: k → SRel β ρ ((T i).st todo) a w → Goes P f (fun v w' => Q v ∧ Framed β.w0 w') todo a w := by
  suffices H : ∀ N i ρ, μ i ρ = N → J i ρ → ∀ todo a w, todo = .inLoop b :: k ∨ todo = .code (.loop b) :: k → SRel β ρ ((T i).st todo) a w → Goes P f (fun v w' => Q v ∧ Framed β.w0 w') todo a w from fun i ρ => H _ i ρ rfl
  intro N
  induction N using Nat.strongRecOn with
  | _ N ih =>
    intro i ρ hN hJ todo a w htd r
    obtain ⟨pl, Ts, cs', sums, hcs', hrun, hss⟩ := hs i ρ hJ r.c r.h.g fun i' ρ' hlt hJ' todo' a' w' ht' r' => ih (μ i' ρ') (by omega) i' ρ' rfl hJ' todo' a' w' ht' r'
    obtain ⟨ls, hls, hsum⟩ := Option.map_eq_some_iff.1 hrun
    have key : Goes P f (fun v w' => Q v ∧ Framed β.w0 w') (.code b :: .inLoop b :: k) a w := run_sound hc hE hsp hm n pl f _ ls ρ a w _ hls ⟨r.d, r.n, r.t, r.h, hcs'⟩ (sums_all hown (g := g) (Ts := Ts) (sums := ls.filterMap (sumL g Ts)) rfl (dcs hsum hss))
    rcases htd with rfl | rfl
    · exact Goes.one (fun cs => step_inLoop) key
    · exact Goes.one (fun cs => step_loop) key
end
-- NUMBERS
theorem quoD {ρ : Env} {t : IT} {X : Nat} (h : t.den ρ = some (X : Int)) (hX : X < 2 ^ 62) (c : Nat) (hc : c ≠ 0) : (IT.bin .quo .i64 t (.lit (c : Int))).den ρ = some ((X / c : Nat) : Int) := by
  rw [binD h (litD _)]
  unfold intBin
  simp only
  rw [if_neg (by omega)]
  have e : (X : Int).tdiv (c : Int) = ((X / c : Nat) : Int) := rfl
  obtain ⟨d, hd⟩ : ∃ d, d = X / c := ⟨_, rfl⟩
  have hle : d ≤ X := by rw [hd]; exact Nat.div_le_self X c
  rw [e, ← hd, wrapI (by omega) (by omega)]
theorem el_den {ρ : Env} {c t : IT} {L : List Int} {i : Nat} (hc : c.den ρ = some (encL L)) (ht : t.den ρ = some (i : Int)) : (IT.un 0 c (.elem (.lit 0) 1 0 t)).den ρ = some (L.getD i 0) := by
  have e := elemD (ρ := ρ) (sz := 1) (j := 0) (litD ((0 : Nat) : Int)) ht
  refine (unD hc e).trans ?_
  show some ((decL (encL L)).getD (((0 + (i * 1 + 0) : Nat) : Int)).toNat 0) = _
  rw [decL_encL, Int.toNat_natCast, show 0 + (i * 1 + 0) = i by omega]
-- THE ROW
def hL : Nat × ABlk := (0, .arr (.code [.i64] (.var 5)) [.i64] 3 (.var 6) (.var 62) none)
def roH (L : List (Nat × ABlk)) : List (Nat × HB) := L.map fun p => (p.1, (⟨p.2, false⟩ : HB))
def sL : AVal := .slice 0 (.var 62) (.var 6) (.var 63)
def at0 : IT := .var 9
def csN : Cs := [(.cmp .geq (.var 6) (.lit 1), true), (.cmp .leq (.var 6) (.lit 300), true), (.cmp .leq (.var 6) (.lit 1000), true), (.cmp .eql (.var 6) (.lit 0), false), (.cmp .gtr (.var 6) (.lit 300), false)]
def csI : Cs := [(.cmp .geq at0 (.lit 0), true), (.cmp .leq at0 (.var 6), true)] ++ csN
def fI (b : Bool) : Cs := [(.cmp .lss at0 (.var 6), b)]
def inI (i n : IT) : Cs := [(.cmp .geq i (.lit 0), true), (.cmp .lss i n, true)]
/-- Such numbers lie there. -/
def IntsAt (w : World) (b o : Nat) (L : List Int) : Prop := ∃ c fr el, w.heap[b]? = some (.cells c el fr) ∧ o ≤ c.size ∧ L.map (Value.int .i64) <+: c.toList.drop o
def envR (L : List Int) (b o q : Nat) (F : Nat → Int → Int → Int) : Env := ⟨fun i => if i = 5 then encL L else if i = 6 then L.length else if i = 62 then o else if i = 63 then q else 0, fun _ => false, fun _ => default, fun _ => undef, fun i => if i = 0 then some b else none, F⟩
theorem ints_rel {w : World} {b o : Nat} {L : List Int} (h : IntsAt w b o L) {ρ : Env} {c n off : IT} (hc : c.den ρ = some (encL L)) (hn : n.den ρ = some (L.length : Int)) (ho : off.den ρ = some (o : Int)) : ∃ ob, w.heap[b]? = some ob ∧ (ABlk.arr (.code [.i64] c) [.i64] 3 n off none).rel ρ false ob := by
  obtain ⟨cc, fr, el, h1, h2, h3⟩ := h
  refine ⟨_, h1, rowOf [.i64] L, cc, fr, el, L.length, o, rfl, (fun e => by cases e), ?_, ho, ⟨h2, by rw [rowOf1]; exact h3⟩, hn, rowOf_typed (by simp), trivial, (fun e => by cases e)⟩
  simp only [AT.den, hc, Option.map_some, decL_encL]
theorem startR {w : World} {b o q : Nat} {L : List Int} {G : GP} {F : Nat → Int → Int → Int} (h : IntsAt w b o L) (hG : GP.at G (envR L b o q F)) : HRel ⟨w, [], G⟩ (envR L b o q F) (ofP (roH [hL])) 10 w := by
  refine HRel.ro [hL] (fun p hp => ?_) (fun i hi => if_neg (by omega)) hG
  rw [List.mem_singleton.1 hp]
  obtain ⟨ob, h1, h2⟩ := ints_rel h (ρ := envR L b o q F) (c := .var 5) (n := .var 6) (off := .var 62) rfl rfl rfl
  exact ⟨b, ob, rfl, h1, h2⟩
structure JN (L : List Int) (ρ : Env) : Prop where
  i5 : ρ.I 5 = encL L
  i6 : ρ.I 6 = (L.length : Int)
  n1 : 1 ≤ L.length
  n3 : L.length ≤ 300
theorem JN.of_le {L : List Int} {ρ ρ' : Env} (h : JN L ρ) (g : ρ.Le ρ') : JN L ρ' := ⟨by rw [g.i]; exact h.i5, by rw [g.i]; exact h.i6, h.n1, h.n3⟩
theorem JN.cs {L : List Int} {ρ : Env} (h : JN L ρ) : CRel ρ csN := by
  have := h.n1; have := h.n3
  exact c1 (geqT (varD h.i6) (litD 1) (by omega)) (c1 (leqT (varD h.i6) (litD 300) (by omega)) (c1 (leqT (varD h.i6) (litD 1000) (by omega)) (c1 (eqlF (varD h.i6) (litD 0) (by omega)) (c1 (gtrF (varD h.i6) (litD 300) (by omega)) c0))))
structure JI (L : List Int) (i : Nat) (ρ : Env) : Prop where
  n : JN L ρ
  i9 : ρ.I 9 = (i : Int)
  le : i ≤ L.length
theorem JI.of_le {L : List Int} {i : Nat} {ρ ρ' : Env} (h : JI L i ρ) (g : ρ.Le ρ') : JI L i ρ' := ⟨h.n.of_le g, by rw [g.i]; exact h.i9, h.le⟩
theorem JI.cs {L : List Int} {i : Nat} {ρ : Env} (h : JI L i ρ) : CRel ρ csI := by
  have := h.le
  exact c1 (geqT (varD h.i9) (litD 0) (by omega)) (c1 (leqT (varD h.i9) (varD h.n.i6) (by omega)) h.n.cs)
theorem JI.lt {L : List Int} {i : Nat} {ρ : Env} (h : JI L i ρ) {b : Bool} (hb : decide (i < L.length) = b) : CRel ρ (fI b) := by
  have e : (BT.cmp .lss at0 (.var 6)).den ρ = some b := by
    rw [show at0 = IT.var 9 from rfl, cmpD (varD h.i9) (varD h.n.i6)]
    simp only [intCmp, Option.some.injEq]
    rw [← hb, decide_eq_decide]; omega
  exact c1 e c0
theorem inI_ok {ρ : Env} {t n : IT} {i m : Nat} (h : t.den ρ = some (i : Int)) (g : n.den ρ = some (m : Int)) (hi : i < m) : CRel ρ (inI t n) := c1 (geqT h (litD 0) (by omega)) (c1 (lssT h g (by omega)) c0)
end Rk
end Go.Proofs.YtglghnfbkiondaaDoor
end

/-
  Ranks (4): Of.
-/
section
namespace Go.Proofs.YtglghnfbkiondaaDoor
open Go.Vm Go.Vm.Rk
namespace Rk

def sT : IT := .fn 40 (.var 5) (.lit 0)
def lastT : IT := .bin .sub .i64 (.var 6) (.lit 1)
def midT : IT := .bin .quo .i64 lastT (.lit 2)
def lateT : IT := .bin .quo .i64 (.bin .mul .i64 (.lit 9) lastT) (.lit 10)
def elS (t : IT) : IT := .un 0 sT (.elem (.lit 0) 1 0 t)
def rk6 (s : IT) : List AVal := [iV 6, .int .i64 (elS (.lit 0)), .int .i64 (elS lastT), .int .i64 s, .int .i64 (elS midT), .int .i64 (elS lateT)]
def TO : Tpl := ⟨[(2, .ptr 14 (.lit 0)), (5, .ptr 15 (.lit 0)), (39, .slice 17 (.lit 0) (.var 6) (.nv 16)), (40, iV 6), (41, iV 9)], 52, [(14, ⟨.cells (List.replicate 6 (.int .i64 (.lit 0))) 26 none, true⟩), (15, ⟨.cells (rk6 (.var 13)) 26 none, true⟩), (17, ⟨.arr (.code [.i64] sT) [.i64] 3 (.var 6) (.lit 0) (some (.nv 16)), true⟩)], 30, csI, 3⟩
def spO : CallF := spL [(19, spSrt)]
noncomputable def b8 : Code := ((loopsOf (Tryd.f8.body.getD .ret) []).getD 0 (.ret, [])).1
noncomputable def k8 : List Item := ((loopsOf (Tryd.f8.body.getD .ret) []).getD 0 (.ret, [])).2
def csO : Cs := inI (.lit 0) (.var 6) ++ inI lastT (.var 6) ++ inI midT (.var 6) ++ inI lateT (.var 6) ++ csN
def sgO (t s : IT) (a b c d : Nat) : Sub := ⟨[(6, .var 6), (9, t), (5, .var 5), (13, s)], [], [], [], [(14, a), (15, b), (17, c), (16, d)]⟩
theorem o_in : (run Tryd.prog [] spO 4000 true 8 (entry Tryd.f8 (Tryd.f8.body.getD .ret) [sL] (ofP (roH [hL])) 10 csO)).map (·.filterMap (sumD gM [TO])) = some [.next 0 (.code (.loop b8) :: k8) [] (sgO (.lit 0) (.lit 0) 10 14 13 12)] := by kernel_rfl
theorem o_1 : (run Tryd.prog [] spO 4000 true 8 ((⟨TO.tm, TO.nt, TO.H, TO.nl, fI true ++ TO.cs, TO.dep⟩ : Tpl).st (.code b8 :: .inLoop b8 :: k8))).map (·.filterMap (sumD gM [TO])) = some [.next 0 (.inLoop b8 :: k8) [] (sgO (upI 9) (.bin .add .i64 (.var 13) (elS at0)) 14 15 17 16)] := by kernel_rfl
theorem o_e : (run Tryd.prog [] spO 4000 true 8 ((⟨TO.tm, TO.nt, TO.H, TO.nl, fI false ++ TO.cs, TO.dep⟩ : Tpl).st (.code b8 :: .inLoop b8 :: k8))).map (·.filterMap (sumD gM [TO])) = some [.ret (.agg (rk6 (.var 13))) []] := by kernel_rfl
theorem spO_ok {w : World} : CallOk Tryd.prog ⟨w, [], GR⟩ spO := spL_ok fun p hp => by
  rw [List.mem_singleton.1 hp]
  exact spSrt_ok fun _ _ _ _ _ h => h
section
variable {L : List Int} {ρ : Env}
theorem sT_den (h : JN L ρ) (hG : GR.at ρ) : sT.den ρ = some (encL (sortL L)) := by
  unfold sT
  rw [fnD (varD h.i5) (litD 0), hG.1]
  simp only [decL_encL]
theorem last_den (h : JN L ρ) : lastT.den ρ = some ((L.length - 1 : Nat) : Int) := by
  have := h.n1; have := h.n3
  unfold lastT
  rw [minusD (varD h.i6) (litD 1) (by omega) (by omega)]
  congr 1; omega
theorem mid_den (h : JN L ρ) : midT.den ρ = some (((L.length - 1) / 2 : Nat) : Int) := by
  have := h.n3
  exact quoD (last_den h) (by omega) 2 (by decide)
theorem late_den (h : JN L ρ) : lateT.den ρ = some ((9 * (L.length - 1) / 10 : Nat) : Int) := by
  have := h.n3
  refine quoD (X := 9 * (L.length - 1)) ?_ (by omega) 10 (by decide)
  rw [binD (litD 9) (last_den h)]
  show some (IntKind.i64.wrap (9 * ((L.length - 1 : Nat) : Int))) = _
  rw [wrapI (by omega) (by omega)]
  congr 1
theorem csO_ok (h : JN L ρ) : CRel ρ csO := by
  have := h.n1
  exact CRel_app.2 ⟨CRel_app.2 ⟨CRel_app.2 ⟨CRel_app.2 ⟨inI_ok (i := 0) rfl (varD h.i6) (by omega), inI_ok (last_den h) (varD h.i6) (by omega)⟩, inI_ok (mid_den h) (varD h.i6) (by omega)⟩, inI_ok (late_den h) (varD h.i6) (by omega)⟩, h.cs⟩
end
/-- A rank, as a value. -/
def rankV (L : List Int) : Value := .agg #[.int .i64 (L.length : Int), .int .i64 (least L), .int .i64 (most L), .int .i64 (sumW L L.length), .int .i64 (mid L), .int .i64 (late L)]
structure JO (L : List Int) (i : Nat) (ρ : Env) : Prop where
  j : JI L i ρ
  i13 : ρ.I 13 = sumW L i
theorem JO.of_le {L : List Int} {i : Nat} {ρ ρ' : Env} (h : JO L i ρ) (g : ρ.Le ρ') : JO L i ρ' := ⟨h.j.of_le g, by rw [g.i]; exact h.i13⟩
theorem of8 {w : World} {b o q : Nat} {L : List Int} (h : IntsAt w b o L) (h1 : 1 ≤ L.length) (h3 : L.length ≤ 300) : Calls Tryd.prog 8 #[.slice (some ⟨b, o, none⟩) L.length q] w fun e w' => e = .returned (rankV L) ∧ Framed w w' := by
  have hr := startR (q := q) (G := GR) (F := FR) h (GR_at ..)
  have loop := loop_goesD (P := Tryd.prog) (β := ⟨w, [], GR⟩) (f := 8) (Q := fun v => v = rankV L) (Ts := [TO]) (T := TO) (b := b8) (k := k8) (n := 4000) (g := gM) (pl := true) noCount noExt spO_ok follows rfl (fun ρ => ∃ i, JO L i ρ) (fun ρ => ((L.length : Int) - ρ.I 9).toNat) fun ρ ⟨i, j⟩ _ hcs hG ih => by
    have hi := j.j.le
    by_cases hlt : i < L.length
    · refine ⟨fI true ++ TO.cs, _, CRel_app.2 ⟨j.j.lt (decide_eq_true hlt), hcs⟩, o_1, Go.Vm.one (nextS rfl fun ρ' hle hG' => ?_)⟩
      have j' := j.of_le hle
      have es : (IT.bin .add .i64 (.var 13) (elS at0)).den ρ' = some (sumW L (i + 1)) := by
        refine (binD (varD j'.i13) (el_den (sT_den j'.j.n hG') (varD j'.j.i9))).trans ?_
        rfl
      have jn : JO L (i + 1) ((sgO (upI 9) (.bin .add .i64 (.var 13) (elS at0)) 14 15 17 16).app ρ') := ⟨⟨⟨j'.j.n.i5, j'.j.n.i6, h1, h3⟩, sbI (t := upI 9) rfl (upD (varD j'.j.i9) (by omega)), hlt⟩, sbI rfl es⟩
      exact ⟨hG', jn.j.cs, fun a w' r => ih _ (by rw [jn.j.i9, j.j.i9]; omega) ⟨_, jn⟩ _ a w' (.inl rfl) r⟩
    · obtain rfl : i = L.length := by omega
      refine ⟨fI false ++ TO.cs, _, CRel_app.2 ⟨j.j.lt (decide_eq_false hlt), hcs⟩, o_e, Go.Vm.one ?_⟩
      intro ρ' hle _ x hx
      have j' := j.of_le hle
      have hG' : GR.at ρ' := by
        have := hle.f
        unfold GP.at GR at hG ⊢
        rw [this]; exact hG
      have hs := sT_den j'.j.n hG'
      have d0 := el_den (t := .lit 0) (i := 0) hs rfl
      have d1 := el_den hs (last_den j'.j.n)
      have d2 := el_den hs (mid_den j'.j.n)
      have d3 := el_den hs (late_den j'.j.n)
      have d6 : (IT.var 6).den ρ' = some (L.length : Int) := varD j'.j.n.i6
      have d13 : (IT.var 13).den ρ' = some (sumW L L.length) := varD j'.i13
      have : (AVal.agg (rk6 (.var 13))).den ρ' = some (rankV L) := by
        simp only [rk6, iV, elS, AVal.den, AVal.denL, d0, d1, d2, d3, d6, d13, Option.map_some]; rfl
      exact Option.some.inj (hx.symm.trans this)
  refine (calls_sumsD (β := ⟨w, [], GR⟩) (Q := fun v => v = rankV L) (g := gM) (Ts := [TO]) (pl := true) noCount noExt spO_ok follows rfl Tryd.func8 rfl o_in (denL1 (den_slice_of rfl rfl rfl rfl)) hr (csO_ok ⟨rfl, rfl, h1, h3⟩) (Go.Vm.one (nextS rfl fun ρ' hle hG' => ?_))).mono fun e w' ⟨v, he, hv, hf⟩ => ⟨by rw [he, hv], hf⟩
  have jn : JO L 0 ((sgO (.lit 0) (.lit 0) 10 14 13 12).app ρ') := ⟨⟨⟨by show ρ'.I 5 = _; rw [hle.i]; rfl, by show ρ'.I 6 = _; rw [hle.i]; rfl, h1, h3⟩, rfl, Nat.zero_le _⟩, rfl⟩
  exact ⟨hG', jn.j.cs, fun a w' r => loop _ ⟨_, jn⟩ _ a w' (.inr rfl) r⟩
end Rk
end Go.Proofs.YtglghnfbkiondaaDoor
end
