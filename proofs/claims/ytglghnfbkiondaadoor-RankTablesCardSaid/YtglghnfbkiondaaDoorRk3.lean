/-
  Ranks (3): loops: small laws; a row of numbers that came in.
-/
import Derived.Test.YtglghnfbkiondaaDoorRk1
namespace Go.Proofs.YtglghnfbkiondaaDoor
open Go.Vm Go.Vm.Rk
namespace Rk

def gM : Gen := ⟨30, 0, 0, 0⟩
def iV (i : Nat) : AVal := .int .i64 (.var i)
def upI (i : Nat) : IT := .bin .add .i64 (.var i) (.lit 1)
theorem noSp0 (β : Base) : CallOk Tryd.prog β (spL []) := spL_ok fun _ hp => by cases hp
-- LOOPS THAT LOOK THROUGH A ROW
section
variable {f : FuncId} {β : Base} {sp : CallF} {T : Tpl} {b : Code} {k : List Item} {v : Value} {n : Nat} {J : Nat → Env → Prop} {cGo cEnd : Cs} {σ : Sub} {u : AVal}
theorem scanGo (hsp : CallOk Tryd.prog β sp) (hown : β.own = []) (hcount : ∀ {i ρ}, J i ρ → ρ.I 9 = (i : Int) ∧ i ≤ n) (hle : ∀ {i ρ ρ'}, J i ρ → ρ.Le ρ' → J i ρ') (hcs : ∀ {i ρ}, J i ρ → GP.at β.G ρ → CRel ρ T.cs)
    (hgo : (run Tryd.prog [] sp 4000 true f ((⟨T.tm, T.nt, T.H, T.nl, cGo ++ T.cs, T.dep⟩ : Tpl).st (.code b :: .inLoop b :: k))).map (·.filterMap (sumD gM [T])) = some [.next 0 (.inLoop b :: k) [] σ])
    (hend : (run Tryd.prog [] sp 4000 true f ((⟨T.tm, T.nt, T.H, T.nl, cEnd ++ T.cs, T.dep⟩ : Tpl).st (.code b :: .inLoop b :: k))).map (·.filterMap (sumD gM [T])) = some [.ret u []])
    (fGo : ∀ {i ρ}, J i ρ → i < n → GP.at β.G ρ → CRel ρ cGo) (fEnd : ∀ {ρ}, J n ρ → CRel ρ cEnd) (next : ∀ {i ρ}, J i ρ → i < n → GP.at β.G ρ → J (i + 1) (σ.app ρ)) (hG : ∀ ρ, GP.at β.G ρ → GP.at β.G (σ.app ρ)) (hu : ∀ ρ, u.den ρ = some v) :
    ∀ ρ, (∃ i, J i ρ) → ∀ todo a w, todo = .inLoop b :: k ∨ todo = .code (.loop b) :: k → SRel β ρ (T.st todo) a w → Goes Tryd.prog f (fun x w' => x = v ∧ Framed β.w0 w') todo a w :=
  loop_goesD (P := Tryd.prog) (Q := fun x => x = v) (Ts := [T]) (n := 4000) (g := gM) (pl := true) noCount noExt hsp follows hown (fun ρ => ∃ i, J i ρ) (fun ρ => ((n : Int) - ρ.I 9).toNat) fun ρ ⟨i, j⟩ _ hcs0 hG0 ih => by
    obtain ⟨h9, hi⟩ := hcount j
    by_cases hlt : i < n
    · refine ⟨cGo ++ T.cs, _, CRel_app.2 ⟨fGo j hlt hG0, hcs0⟩, hgo, Go.Vm.one (nextS rfl fun ρ' hle' hG' => ?_)⟩
      have jn := next (hle j hle') hlt hG'
      exact ⟨hG ρ' hG', hcs jn (hG ρ' hG'), fun a w' r => ih _ (by rw [(hcount jn).1, h9]; omega) ⟨_, jn⟩ _ a w' (.inl rfl) r⟩
    · obtain rfl : i = n := by omega
      exact ⟨cEnd ++ T.cs, _, CRel_app.2 ⟨fEnd j, hcs0⟩, hend, Go.Vm.one (retS (z := v) (fun ρ' _ => hu ρ') rfl)⟩
variable {H : Heap} {nl : Nat} {cs : Cs} {args : List AVal} {xs : List Value} {fn : Func} {c : Code} {σ0 : Sub} {ρ : Env} {w : World}
theorem scanCall (hsp : CallOk Tryd.prog β sp) (hown : β.own = []) (hf : Tryd.prog.funcs[f]? = some fn) (hb : fn.body = some c)
    (hin : (run Tryd.prog [] sp 4000 true f (entry fn c args H nl cs)).map (·.filterMap (sumD gM [T])) = some [.next 0 (.code (.loop b) :: k) [] σ0])
    (hx : AVal.denL ρ args = some xs) (hr : HRel β ρ H nl w) (hc : CRel ρ cs)
    (h0 : ∀ ρ', ρ.Le ρ' → GP.at β.G ρ' → GP.at β.G (σ0.app ρ') ∧ (∃ i, J i (σ0.app ρ')) ∧ CRel (σ0.app ρ') T.cs)
    (loop : ∀ ρ, (∃ i, J i ρ) → ∀ todo a w, todo = .inLoop b :: k ∨ todo = .code (.loop b) :: k → SRel β ρ (T.st todo) a w → Goes Tryd.prog f (fun x w' => x = v ∧ Framed β.w0 w') todo a w) :
    Calls Tryd.prog f xs.toArray w fun e w' => e = .returned v ∧ Framed β.w0 w' := by
  refine (calls_sumsD (Q := fun x => x = v) (g := gM) (Ts := [T]) (pl := true) noCount noExt hsp follows hown hf hb hin hx hr hc (Go.Vm.one (nextS rfl fun ρ' hle hG => ?_))).mono fun e w' ⟨x, he, hv, hf⟩ => ⟨by rw [he, hv], hf⟩
  obtain ⟨g1, g2, g3⟩ := h0 ρ' hle hG
  exact ⟨g1, g3, fun a w' r => loop _ g2 _ a w' (.inr rfl) r⟩
end
-- A LOOP WHOSE HEADS ARE TWO
section
variable {P : Program} {β : Base} {f : FuncId} {R : Value → World → Prop} {Rs : List Tpl}
theorem loop_goesJ (hc : NoCount P) {E : Exts} (hE : ExtOk P E) {sp : CallF} (hsp : CallOk P β sp) (hm : P.follows .mixedOrders = true) {g : Gen} {L : List Nat} {b : Code} {k : List Item} {n : Nat} {ι : Type} (T : ι → Tpl) (J : ι → Env → Prop) (μ : ι → Env → Nat)
    (hs : ∀ i ρ, J i ρ → CRel ρ (T i).cs → GP.at β.G ρ → (∀ i' ρ', μ i' ρ' < μ i ρ → J i' ρ' → ∀ todo a w, todo = .inLoop b :: k ∨ todo = .code (.loop b) :: k → SRel β ρ' ((T i').st todo) a w → Goes P f R todo a w) →
      ∃ pl Ts cs' sums, CRel ρ cs' ∧ (run P E sp n pl f ((⟨(T i).tm, (T i).nt, (T i).H, (T i).nl, cs', (T i).dep⟩ : Tpl).st (.code b :: .inLoop b :: k))).map (·.filterMap (sumMD g L Rs Ts)) = some sums ∧ ∀ s ∈ sums, MGoodO P β f R Rs Ts ρ s) :
    ∀ i ρ, J i ρ → ∀ todo a w, todo = .inLoop b :: k ∨ todo = .code (.loop b) :: k → SRel β ρ ((T i).st todo) a w → Goes P f R todo a w := by
  suffices H : ∀ N i ρ, μ i ρ = N → J i ρ → ∀ todo a w, todo = .inLoop b :: k ∨ todo = .code (.loop b) :: k → SRel β ρ ((T i).st todo) a w → Goes P f R todo a w from fun i ρ => H _ i ρ rfl
  intro N
  induction N using Nat.strongRecOn with
  | _ N ih =>
    intro i ρ hN hJ todo a w htd r
    obtain ⟨pl, Ts, cs', sums, hcs', hrun, hss⟩ := hs i ρ hJ r.c r.h.g fun i' ρ' hlt hJ' todo' a' w' ht' r' => ih (μ i' ρ') (by omega) i' ρ' rfl hJ' todo' a' w' ht' r'
    obtain ⟨ls, hls, hsum⟩ := Option.map_eq_some_iff.1 hrun
    have key : Goes P f R (.code b :: .inLoop b :: k) a w := run_sound hc hE hsp hm n pl f _ ls ρ a w _ hls ⟨r.d, r.n, r.t, r.h, hcs'⟩ (m_allO (g := g) (L := L) (sums := ls.filterMap (sumMO g L Rs Ts)) rfl (dcsM hsum hss))
    rcases htd with rfl | rfl
    · exact Goes.one (fun cs => step_inLoop) key
    · exact Goes.one (fun cs => step_loop) key
end
-- A LOOP OF TWO HEADS, WITHOUT MEMORY
section
variable {P : Program} {β : Base} {f : FuncId} {Q : Value → Prop}
theorem loop_goesK (hc : NoCount P) {E : Exts} (hE : ExtOk P E) {sp : CallF} (hsp : CallOk P β sp) (hm : P.follows .mixedOrders = true) (hown : β.own = []) {g : Gen} {b : Code} {k : List Item} {n : Nat} {ι : Type} (T : ι → Tpl) (J : ι → Env → Prop) (μ : ι → Env → Nat)
    (hs : ∀ i ρ, J i ρ → CRel ρ (T i).cs → GP.at β.G ρ → (∀ i' ρ', μ i' ρ' < μ i ρ → J i' ρ' → ∀ todo a w, todo = .inLoop b :: k ∨ todo = .code (.loop b) :: k → SRel β ρ' ((T i').st todo) a w → Goes P f (fun v w' => Q v ∧ Framed β.w0 w') todo a w) →
      ∃ pl Ts cs' sums, CRel ρ cs' ∧ (run P E sp n pl f ((⟨(T i).tm, (T i).nt, (T i).H, (T i).nl, cs', (T i).dep⟩ : Tpl).st (.code b :: .inLoop b :: k))).map (·.filterMap (sumD g Ts)) = some sums ∧ ∀ s ∈ sums, SumGood P β f Q Ts ρ s) :
    ∀ i ρ, J i ρ → ∀ todo a w, todo = .inLoop b :: k ∨ todo = .code (.loop b) :: k → SRel β ρ ((T i).st todo) a w → Goes P f (fun v w' => Q v ∧ Framed β.w0 w') todo a w := by
  suffices H : ∀ N i ρ, μ i ρ = N → J i ρ → ∀ todo a w, todo = .inLoop b :: k ∨ todo = .code (.loop b) :: k → SRel β ρ ((T i).st todo) a w → Goes P f (fun v w' => Q v ∧ Framed β.w0 w') todo a w from fun i ρ => H _ i ρ rfl
  intro N
  induction N using Nat.strongRecOn with
  | _ N ih =>
    intro i ρ hN hJ todo a w htd r
    obtain ⟨pl, Ts, cs', sums, hcs', hrun, hss⟩ := hs i ρ hJ r.c r.h.g fun i' ρ' hlt hJ' todo' a' w' ht' r' => ih (μ i' ρ') (by omega) i' ρ' rfl hJ' todo' a' w' ht' r'
    obtain ⟨ls, hls, hsum⟩ := Option.map_eq_some_iff.1 hrun
    have key : Goes P f (fun v w' => Q v ∧ Framed β.w0 w') (.code b :: .inLoop b :: k) a w := run_sound hc hE hsp hm n pl f _ ls ρ a w _ hls ⟨r.d, r.n, r.t, r.h, hcs'⟩ (sums_all hown (g := g) (Ts := Ts) (sums := ls.filterMap (sumL g Ts)) rfl (dcs hsum hss))
    rcases htd with rfl | rfl
    · exact Goes.one (fun cs => step_inLoop) key
    · exact Goes.one (fun cs => step_loop) key
end
-- NUMBERS
theorem quoD {ρ : Env} {t : IT} {X : Nat} (h : t.den ρ = some (X : Int)) (hX : X < 2 ^ 62) (c : Nat) (hc : c ≠ 0) : (IT.bin .quo .i64 t (.lit (c : Int))).den ρ = some ((X / c : Nat) : Int) := by
  rw [binD h (litD _)]
  unfold intBin
  simp only
  rw [if_neg (by omega)]
  have e : (X : Int).tdiv (c : Int) = ((X / c : Nat) : Int) := rfl
  obtain ⟨d, hd⟩ : ∃ d, d = X / c := ⟨_, rfl⟩
  have hle : d ≤ X := by rw [hd]; exact Nat.div_le_self X c
  rw [e, ← hd, wrapI (by omega) (by omega)]
theorem el_den {ρ : Env} {c t : IT} {L : List Int} {i : Nat} (hc : c.den ρ = some (encL L)) (ht : t.den ρ = some (i : Int)) : (IT.un 0 c (.elem (.lit 0) 1 0 t)).den ρ = some (L.getD i 0) := by
  have e := elemD (ρ := ρ) (sz := 1) (j := 0) (litD ((0 : Nat) : Int)) ht
  refine (unD hc e).trans ?_
  show some ((decL (encL L)).getD (((0 + (i * 1 + 0) : Nat) : Int)).toNat 0) = _
  rw [decL_encL, Int.toNat_natCast, show 0 + (i * 1 + 0) = i by omega]
-- THE ROW
def hL : Nat × ABlk := (0, .arr (.code [.i64] (.var 5)) [.i64] 3 (.var 6) (.var 62) none)
def roH (L : List (Nat × ABlk)) : List (Nat × HB) := L.map fun p => (p.1, (⟨p.2, false⟩ : HB))
def sL : AVal := .slice 0 (.var 62) (.var 6) (.var 63)
def at0 : IT := .var 9
def csN : Cs := [(.cmp .geq (.var 6) (.lit 1), true), (.cmp .leq (.var 6) (.lit 300), true), (.cmp .leq (.var 6) (.lit 1000), true), (.cmp .eql (.var 6) (.lit 0), false), (.cmp .gtr (.var 6) (.lit 300), false)]
def csI : Cs := [(.cmp .geq at0 (.lit 0), true), (.cmp .leq at0 (.var 6), true)] ++ csN
def fI (b : Bool) : Cs := [(.cmp .lss at0 (.var 6), b)]
def inI (i n : IT) : Cs := [(.cmp .geq i (.lit 0), true), (.cmp .lss i n, true)]
/-- Such numbers lie there. -/
def IntsAt (w : World) (b o : Nat) (L : List Int) : Prop := ∃ c fr el, w.heap[b]? = some (.cells c el fr) ∧ o ≤ c.size ∧ L.map (Value.int .i64) <+: c.toList.drop o
def envR (L : List Int) (b o q : Nat) (F : Nat → Int → Int → Int) : Env := ⟨fun i => if i = 5 then encL L else if i = 6 then L.length else if i = 62 then o else if i = 63 then q else 0, fun _ => false, fun _ => default, fun _ => undef, fun i => if i = 0 then some b else none, F⟩
theorem ints_rel {w : World} {b o : Nat} {L : List Int} (h : IntsAt w b o L) {ρ : Env} {c n off : IT} (hc : c.den ρ = some (encL L)) (hn : n.den ρ = some (L.length : Int)) (ho : off.den ρ = some (o : Int)) : ∃ ob, w.heap[b]? = some ob ∧ (ABlk.arr (.code [.i64] c) [.i64] 3 n off none).rel ρ false ob := by
  obtain ⟨cc, fr, el, h1, h2, h3⟩ := h
  refine ⟨_, h1, rowOf [.i64] L, cc, fr, el, L.length, o, rfl, (fun e => by cases e), ?_, ho, ⟨h2, by rw [rowOf1]; exact h3⟩, hn, rowOf_typed (by simp), trivial, (fun e => by cases e)⟩
  simp only [AT.den, hc, Option.map_some, decL_encL]
theorem startR {w : World} {b o q : Nat} {L : List Int} {G : GP} {F : Nat → Int → Int → Int} (h : IntsAt w b o L) (hG : GP.at G (envR L b o q F)) : HRel ⟨w, [], G⟩ (envR L b o q F) (ofP (roH [hL])) 10 w := by
  refine HRel.ro [hL] (fun p hp => ?_) (fun i hi => if_neg (by omega)) hG
  rw [List.mem_singleton.1 hp]
  obtain ⟨ob, h1, h2⟩ := ints_rel h (ρ := envR L b o q F) (c := .var 5) (n := .var 6) (off := .var 62) rfl rfl rfl
  exact ⟨b, ob, rfl, h1, h2⟩
structure JN (L : List Int) (ρ : Env) : Prop where
  i5 : ρ.I 5 = encL L
  i6 : ρ.I 6 = (L.length : Int)
  n1 : 1 ≤ L.length
  n3 : L.length ≤ 300
theorem JN.of_le {L : List Int} {ρ ρ' : Env} (h : JN L ρ) (g : ρ.Le ρ') : JN L ρ' := ⟨by rw [g.i]; exact h.i5, by rw [g.i]; exact h.i6, h.n1, h.n3⟩
theorem JN.cs {L : List Int} {ρ : Env} (h : JN L ρ) : CRel ρ csN := by
  have := h.n1; have := h.n3
  exact c1 (geqT (varD h.i6) (litD 1) (by omega)) (c1 (leqT (varD h.i6) (litD 300) (by omega)) (c1 (leqT (varD h.i6) (litD 1000) (by omega)) (c1 (eqlF (varD h.i6) (litD 0) (by omega)) (c1 (gtrF (varD h.i6) (litD 300) (by omega)) c0))))
structure JI (L : List Int) (i : Nat) (ρ : Env) : Prop where
  n : JN L ρ
  i9 : ρ.I 9 = (i : Int)
  le : i ≤ L.length
theorem JI.of_le {L : List Int} {i : Nat} {ρ ρ' : Env} (h : JI L i ρ) (g : ρ.Le ρ') : JI L i ρ' := ⟨h.n.of_le g, by rw [g.i]; exact h.i9, h.le⟩
theorem JI.cs {L : List Int} {i : Nat} {ρ : Env} (h : JI L i ρ) : CRel ρ csI := by
  have := h.le
  exact c1 (geqT (varD h.i9) (litD 0) (by omega)) (c1 (leqT (varD h.i9) (varD h.n.i6) (by omega)) h.n.cs)
theorem JI.lt {L : List Int} {i : Nat} {ρ : Env} (h : JI L i ρ) {b : Bool} (hb : decide (i < L.length) = b) : CRel ρ (fI b) := by
  have e : (BT.cmp .lss at0 (.var 6)).den ρ = some b := by
    rw [show at0 = IT.var 9 from rfl, cmpD (varD h.i9) (varD h.n.i6)]
    simp only [intCmp, Option.some.injEq]
    rw [← hb, decide_eq_decide]; omega
  exact c1 e c0
theorem inI_ok {ρ : Env} {t n : IT} {i m : Nat} (h : t.den ρ = some (i : Int)) (g : n.den ρ = some (m : Int)) (hi : i < m) : CRel ρ (inI t n) := c1 (geqT h (litD 0) (by omega)) (c1 (lssT h g (by omega)) c0)
end Rk
end Go.Proofs.YtglghnfbkiondaaDoor
