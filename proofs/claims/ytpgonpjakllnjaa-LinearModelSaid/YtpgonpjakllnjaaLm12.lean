/-
  LinearModel (12): histories in rows; loops that look through them; ContainsFunc over an order.
-/
import Derived.Test.YtpgonpjakllnjaaLm11
namespace Go.Proofs.Ytpgonpjakllnjaa
open Go.Vm Go.Vm.Md
namespace Lm

-- LOOPS THAT LOOK THROUGH A ROW
section
variable {f : FuncId} {β : Base} {sp : CallF} {T : Tpl} {b : Code} {k : List Item} {v : Value} {n : Nat} {J : Nat → Env → Prop} {cGo cEnd : Cs} {σ : Sub} {u : AVal}
theorem scanGo (hsp : CallOk Try.prog β sp) (hown : β.own = []) (hcount : ∀ {i ρ}, J i ρ → ρ.I 9 = (i : Int) ∧ i ≤ n) (hle : ∀ {i ρ ρ'}, J i ρ → ρ.Le ρ' → J i ρ') (hcs : ∀ {i ρ}, J i ρ → GP.at β.G ρ → CRel ρ T.cs)
    (hgo : (run Try.prog [] sp 4000 true f ((⟨T.tm, T.nt, T.H, T.nl, cGo ++ T.cs, T.dep⟩ : Tpl).st (.code b :: .inLoop b :: k))).map (·.filterMap (sumD gM [T])) = some [.next 0 (.inLoop b :: k) [] σ])
    (hend : (run Try.prog [] sp 4000 true f ((⟨T.tm, T.nt, T.H, T.nl, cEnd ++ T.cs, T.dep⟩ : Tpl).st (.code b :: .inLoop b :: k))).map (·.filterMap (sumD gM [T])) = some [.ret u []])
    (fGo : ∀ {i ρ}, J i ρ → i < n → GP.at β.G ρ → CRel ρ cGo) (fEnd : ∀ {ρ}, J n ρ → CRel ρ cEnd) (next : ∀ {i ρ}, J i ρ → i < n → GP.at β.G ρ → J (i + 1) (σ.app ρ)) (hG : ∀ ρ, GP.at β.G ρ → GP.at β.G (σ.app ρ)) (hu : ∀ ρ, u.den ρ = some v) :
    ∀ ρ, (∃ i, J i ρ) → ∀ todo a w, todo = .inLoop b :: k ∨ todo = .code (.loop b) :: k → SRel β ρ (T.st todo) a w → Goes Try.prog f (fun x w' => x = v ∧ Framed β.w0 w') todo a w :=
  loop_goesD (P := Try.prog) (Q := fun x => x = v) (Ts := [T]) (n := 4000) (g := gM) (pl := true) noCount noExt hsp follows hown (fun ρ => ∃ i, J i ρ) (fun ρ => ((n : Int) - ρ.I 9).toNat) fun ρ ⟨i, j⟩ _ hcs0 hG0 ih => by
    obtain ⟨h9, hi⟩ := hcount j
    by_cases hlt : i < n
    · refine ⟨cGo ++ T.cs, _, CRel_app.2 ⟨fGo j hlt hG0, hcs0⟩, hgo, one (nextS rfl fun ρ' hle' hG' => ?_)⟩
      have jn := next (hle j hle') hlt hG'
      exact ⟨hG ρ' hG', hcs jn (hG ρ' hG'), fun a w' r => ih _ (by rw [(hcount jn).1, h9]; omega) ⟨_, jn⟩ _ a w' (.inl rfl) r⟩
    · obtain rfl : i = n := by omega
      exact ⟨cEnd ++ T.cs, _, CRel_app.2 ⟨fEnd j, hcs0⟩, hend, one (retS (z := v) (fun ρ' _ => hu ρ') rfl)⟩
variable {H : Heap} {nl : Nat} {cs : Cs} {args : List AVal} {xs : List Value} {fn : Func} {c : Code} {σ0 : Sub} {ρ : Env} {w : World}
theorem scanCall (hsp : CallOk Try.prog β sp) (hown : β.own = []) (hf : Try.prog.funcs[f]? = some fn) (hb : fn.body = some c)
    (hin : (run Try.prog [] sp 4000 true f (entry fn c args H nl cs)).map (·.filterMap (sumD gM [T])) = some [.next 0 (.code (.loop b) :: k) [] σ0])
    (hx : AVal.denL ρ args = some xs) (hr : HRel β ρ H nl w) (hc : CRel ρ cs)
    (h0 : ∀ ρ', ρ.Le ρ' → GP.at β.G ρ' → GP.at β.G (σ0.app ρ') ∧ (∃ i, J i (σ0.app ρ')) ∧ CRel (σ0.app ρ') T.cs)
    (loop : ∀ ρ, (∃ i, J i ρ) → ∀ todo a w, todo = .inLoop b :: k ∨ todo = .code (.loop b) :: k → SRel β ρ (T.st todo) a w → Goes Try.prog f (fun x w' => x = v ∧ Framed β.w0 w') todo a w) :
    Calls Try.prog f xs.toArray w fun e w' => e = .returned v ∧ Framed β.w0 w' := by
  refine (calls_sumsD (Q := fun x => x = v) (g := gM) (Ts := [T]) (pl := true) noCount noExt hsp follows hown hf hb hin hx hr hc (one (nextS rfl fun ρ' hle hG => ?_))).mono fun e w' ⟨x, he, hv, hf⟩ => ⟨by rw [he, hv], hf⟩
  obtain ⟨g1, g2, g3⟩ := h0 ρ' hle hG
  exact ⟨g1, g3, fun a w' r => loop _ g2 _ a w' (.inr rfl) r⟩
end
-- HISTORIES IN ROWS
def ksR : List IntKind := [.i64, .i64, .i64, .i64, .i64, .i64, .i64, .i64, .i64, .i64, .i64, .i64, .i64, .i64, .i64, .u64]
def RowAtL (w : World) (b : Nat) (ks : List IntKind) (L : List Int) : Prop := ∃ c fr el, w.heap[b]? = some (.cells c el fr) ∧ rowOf ks L <+: c.toList
def BoxAt (w : World) (b : Nat) (el : TypeId) (v : Value) : Prop := ∃ c fr, w.heap[b]? = some (.cells c el fr) ∧ [v] <+: c.toList ∧ c.size = 1
structure Hs (w : World) (b0 b1 : Nat) (x y : Int) (n : Nat) : Prop where
  h0 : RowAtL w b0 ksR (decL x)
  h1 : RowAtL w b1 [.i64] (decL y)
  g : Good x y n
def hA0 : Nat × ABlk := (0, .arr (.code ksR (.var 5)) ksR 31 (.var 6) (.lit 0) none)
def hA1 : Nat × ABlk := (1, .arr (.code [.i64] (.var 7)) [.i64] 3 (.var 6) (.lit 0) none)
def roH (L : List (Nat × ABlk)) : List (Nat × HB) := L.map fun p => (p.1, (⟨p.2, false⟩ : HB))
def sH : AVal := .slice 0 (.lit 0) (.var 6) (.nv 2)
def sO (n : IT) : AVal := .slice 1 (.lit 0) n (.nv 3)
def gd (x y : IT) : BT := .cmp .eql (.fn 60 x y) (.lit 1)
def csA : Cs := [(.cmp .geq (.var 6) (.lit 1), true), (.cmp .leq (.var 6) (.lit 60), true), (.cmp .leq (.var 6) (.lit 1000000), true), (gd (.var 5) (.var 7), true)]
def at0 : IT := .var 9
def iT (a : IT) : IT := .un 0 (.var 7) (.elem (.lit 0) 1 0 a)
def cell (i : IT) (j : Nat) : IT := .un 0 (.var 5) (.elem (.lit 0) 16 j i)
def inH (i : IT) : Cs := [(.cmp .geq i (.lit 0), true), (.cmp .lss i (.var 6), true)]
def csI : Cs := [(.cmp .geq at0 (.lit 0), true), (.cmp .leq at0 (.var 6), true)] ++ csA
def fI (b : Bool) : Cs := [(.cmp .lss at0 (.var 6), b)]
noncomputable def envH (x y : Int) (n b0 b1 q0 q1 b4 b5 : Nat) (m i : Nat) : Env :=
  ⟨fun j => if j = 5 then x else if j = 6 then n else if j = 7 then y else if j = 8 then m else if j = 10 then i else 0, fun _ => false, fun _ => default, fun _ => undef, fun j => if j = 0 then some b0 else if j = 1 then some b1 else if j = 2 then some q0 else if j = 3 then some q1 else if j = 4 then some b4 else if j = 5 then some b5 else none, FW⟩
theorem GW_env (x y : Int) (n b0 b1 q0 q1 b4 b5 m i : Nat) : GW.at (envH x y n b0 b1 q0 q1 b4 b5 m i) := ⟨rfl, rfl, rfl, rfl, rfl, rfl, rfl⟩
theorem rowRel {ρ : Env} {w : World} {b q : Nat} {ks : List IntKind} {el : TypeId} {x : Int} {n : Nat} (h : RowAtL w b ks (decL x)) (hq : ρ.I q = x) (h6 : ρ.I 6 = (n : Int)) (hl : (decL x).length = n * ks.length) : ∃ o, w.heap[b]? = some o ∧ (ABlk.arr (.code ks (.var q)) ks el (.var 6) (.lit 0) none).rel ρ false o := by
  obtain ⟨c, fr, el', ho, hp⟩ := h
  refine ⟨_, ho, rowOf ks (decL x), c, fr, el', n, 0, rfl, (fun e => by cases e), ?_, rfl, ⟨Nat.zero_le _, ?_⟩, congrArg some h6, rowOf_typed hl, trivial, (fun e => by cases e)⟩
  · show ((IT.var q).den ρ).map (fun x => rowOf ks (decL x)) = _
    rw [varD hq, Option.map_some]
  · rw [List.drop_zero]; exact hp
/-- What such a walk begins with. -/
theorem startH {w : World} {x y : Int} {n b0 b1 q0 q1 b4 b5 m i : Nat} (hs : Hs w b0 b1 x y n) (E : List (Nat × ABlk)) (hE : ∀ p ∈ E, ∃ b o, (envH x y n b0 b1 q0 q1 b4 b5 m i).N p.1 = some b ∧ w.heap[b]? = some o ∧ p.2.rel (envH x y n b0 b1 q0 q1 b4 b5 m i) false o) (hnb : ((hA0 :: hA1 :: E).all fun p => p.2.nb) = true := by rfl) :
    HRel ⟨w, [], GW⟩ (envH x y n b0 b1 q0 q1 b4 b5 m i) (ofP (roH (hA0 :: hA1 :: E))) 10 w := by
  refine HRel.ro (hA0 :: hA1 :: E) (fun p hp => ?_) (fun j hj => ?_) (GW_env ..) hnb
  · simp only [List.mem_cons] at hp
    rcases hp with rfl | rfl | hp
    · obtain ⟨o, h1, h2⟩ := rowRel (ρ := envH x y n b0 b1 q0 q1 b4 b5 m i) (q := 5) (n := n) (el := 31) hs.h0 rfl rfl hs.g.lx
      exact ⟨b0, o, rfl, h1, h2⟩
    · obtain ⟨o, h1, h2⟩ := rowRel (ρ := envH x y n b0 b1 q0 q1 b4 b5 m i) (q := 7) (n := n) (el := 3) hs.h1 rfl rfl (by rw [goodLen hs.g]; simp)
      exact ⟨b1, o, rfl, h1, h2⟩
    · exact hE p hp
  · show (if j = 0 then some b0 else if j = 1 then some b1 else if j = 2 then some q0 else if j = 3 then some q1 else if j = 4 then some b4 else if j = 5 then some b5 else none) = none
    rw [if_neg (by omega), if_neg (by omega), if_neg (by omega), if_neg (by omega), if_neg (by omega), if_neg (by omega)]
structure JH (x y : Int) (n i : Nat) (ρ : Env) : Prop where
  i5 : ρ.I 5 = x
  i6 : ρ.I 6 = (n : Int)
  i7 : ρ.I 7 = y
  i9 : ρ.I 9 = (i : Int)
  le : i ≤ n
  g : Good x y n
section
variable {x y : Int} {n i : Nat} {ρ : Env}
theorem JH.of_le {ρ' : Env} (h : JH x y n i ρ) (g : ρ.Le ρ') : JH x y n i ρ' := ⟨by rw [g.i]; exact h.i5, by rw [g.i]; exact h.i6, by rw [g.i]; exact h.i7, by rw [g.i]; exact h.i9, h.le, h.g⟩
theorem JH.count (h : JH x y n i ρ) : ρ.I 9 = (i : Int) ∧ i ≤ n := ⟨h.i9, h.le⟩
theorem gd_den {tx ty : IT} {xv yv : Int} (hG : GW.at ρ) (h1 : tx.den ρ = some xv) (h2 : ty.den ρ = some yv) (g : ∃ n, Good xv yv n) : (gd tx ty).den ρ = some true := by
  have e : (IT.fn 60 tx ty).den ρ = some 1 := by rw [fnD h1 h2, hG.1, goodF, if_pos g]
  exact eqlT e (litD 1) rfl
theorem good_of {tx ty : IT} {xv yv : Int} (hG : GW.at ρ) (h1 : tx.den ρ = some xv) (h2 : ty.den ρ = some yv) (h : (gd tx ty).den ρ = some true) : ∃ n, Good xv yv n := by
  have e : (IT.fn 60 tx ty).den ρ = some (goodF xv yv) := by rw [fnD h1 h2, hG.1]
  unfold gd at h
  rw [cmpD e (litD 1)] at h
  simp only [intCmp, Option.some.injEq, beq_iff_eq] at h
  unfold goodF at h
  split at h
  · assumption
  · cases h
theorem csA_ok {n : Nat} (h5 : ρ.I 5 = x) (h6 : ρ.I 6 = (n : Int)) (h7 : ρ.I 7 = y) (g : Good x y n) (hG : GW.at ρ) : CRel ρ csA := by
  have := g.n1; have := g.n60
  exact c1 (geqT (varD h6) (litD 1) (by omega)) (c1 (leqT (varD h6) (litD 60) (by omega)) (c1 (leqT (varD h6) (litD _) (by omega)) (c1 (gd_den hG (varD h5) (varD h7) ⟨_, g⟩) c0)))
theorem JH.cs (h : JH x y n i ρ) (hG : GW.at ρ) : CRel ρ csI := by
  have := h.le
  exact c1 (geqT (varD h.i9) (litD 0) (by omega)) (c1 (leqT (varD h.i9) (varD h.i6) (by omega)) (csA_ok h.i5 h.i6 h.i7 h.g hG))
theorem JH.lt (h : JH x y n i ρ) {b : Bool} (hb : decide (i < n) = b) : CRel ρ (fI b) := by
  have e : (BT.cmp .lss at0 (.var 6)).den ρ = some b := by
    rw [show at0 = IT.var 9 from rfl, cmpD (varD h.i9) (varD h.i6)]
    simp only [intCmp, Option.some.injEq]
    rw [← hb, decide_eq_decide]; omega
  exact c1 e c0
theorem JH.iT (h : JH x y n i ρ) {a : IT} {q : Nat} (ha : a.den ρ = some (q : Int)) (hq : q < n) : (Lm.iT a).den ρ = some (q : Int) := by
  have e := elemD (ρ := ρ) (sz := 1) (j := 0) (litD ((0 : Nat) : Int)) ha
  refine (unD (varD h.i7) e).trans ?_
  show some ((decL y).getD (((0 + (q * 1 + 0) : Nat) : Int)).toNat 0) = _
  rw [h.g.y, Int.toNat_natCast, show 0 + (q * 1 + 0) = q by omega, iota_get hq]
theorem JH.cell (h : JH x y n i ρ) {a : IT} {q : Nat} (ha : a.den ρ = some (q : Int)) (j : Nat) : (Lm.cell a j).den ρ = some (cH x q j) := by
  have e := elemD (ρ := ρ) (sz := 16) (j := j) (litD ((0 : Nat) : Int)) ha
  refine (unD (varD h.i5) e).trans ?_
  show some ((decL x).getD (((0 + (q * 16 + j) : Nat) : Int)).toNat 0) = _
  rw [Int.toNat_natCast, Nat.zero_add]; rfl
theorem JH.inH (h : JH x y n i ρ) {a : IT} {q : Nat} (ha : a.den ρ = some (q : Int)) (hq : q < n) : CRel ρ (Lm.inH a) :=
  c1 (geqT ha (litD 0) (by omega)) (c1 (lssT ha (varD h.i6) (by omega)) c0)
end
-- NONE IS REFUSED
def fn55 : AVal := .func (.func 55) [] [.ptr 4 (.lit 0)]
def bx4 : Nat × ABlk := (4, .cells [sH] 22 none)
def T5 : Tpl := ⟨[(0, sO (.var 6)), (1, fn55), (6, sO (.var 6)), (7, .int .i64 (.var 6)), (8, iV 9)], 19, roH [hA0, hA1, bx4], 10, csI, 3⟩
noncomputable def b67 : Code := ((loopsOf (Try.f67.body.getD .ret) []).getD 0 (.ret, [])).1
noncomputable def k67 : List Item := ((loopsOf (Try.f67.body.getD .ret) []).getD 0 (.ret, [])).2
def fR5 (i : IT) : Cs := [(.cmp .geq (cell i 8) (.lit 0), true), (.cmp .neq (cell i 11) (.lit 0), false), (.cmp .eql (cell i 9) (.lit 5), false)]
def go5 : Cs := fI true ++ inH (iT at0) ++ fR5 (iT at0)
def sg5 (t : IT) : Sub := ⟨[(6, .var 6), (9, t), (7, .var 7)], [], [], [], [(1, 1), (3, 3), (4, 4), (0, 0), (2, 2)]⟩
theorem r5_in : (run Try.prog [] (spL []) 4000 true 67 (entry Try.f67 (Try.f67.body.getD .ret) [sO (.var 6), fn55] (ofP (roH [hA0, hA1, bx4])) 10 csA)).map (·.filterMap (sumD gM [T5])) = some [.next 0 (.code (.loop b67) :: k67) [] (sg5 (.lit 0))] := by kernel_rfl
theorem r5_go : (run Try.prog [] (spL []) 4000 true 67 ((⟨T5.tm, T5.nt, T5.H, T5.nl, go5 ++ T5.cs, T5.dep⟩ : Tpl).st (.code b67 :: .inLoop b67 :: k67))).map (·.filterMap (sumD gM [T5])) = some [.next 0 (.inLoop b67 :: k67) [] (sg5 (upI 9))] := by kernel_rfl
theorem r5_end : (run Try.prog [] (spL []) 4000 true 67 ((⟨T5.tm, T5.nt, T5.H, T5.nl, fI false ++ T5.cs, T5.dep⟩ : Tpl).st (.code b67 :: .inLoop b67 :: k67))).map (·.filterMap (sumD gM [T5])) = some [.ret (.int .i64 (.lit (-1))) []] := by kernel_rfl
theorem fR5_ok {x y : Int} {n i : Nat} {ρ : Env} (j : JH x y n i ρ) {a : IT} {q : Nat} (ha : a.den ρ = some (q : Int)) (hq : q < n) : CRel ρ (fR5 a) := by
  have e8 := j.g.en q hq
  have e11 := j.g.er q hq
  have e9 := (j.g.an q hq).1
  have e5 : cH x q 9 ≠ 5 := by rw [e9]; exact apply_kind _ _ _ _ _
  exact c1 (geqT (j.cell ha 8) (litD 0) (by omega)) (c1 (neqF (j.cell ha 11) (litD 0) e11) (c1 (eqlF (j.cell ha 9) (litD 5) e5) c0))
theorem idx55 {w : World} {x y : Int} {n b0 b1 q0 q1 b4 : Nat} (hs : Hs w b0 b1 x y n) (h4 : BoxAt w b4 22 (.slice (some ⟨b0, 0, none⟩) n q0)) :
    Calls Try.prog 67 #[.slice (some ⟨b1, 0, none⟩) n q1, .func (.func 55) #[] #[.pointer (some ⟨b4, 0, none⟩)]] w fun e w' => e = .returned (.int .i64 (-1)) ∧ Framed w w' := by
  have hr := startH (q0 := q0) (q1 := q1) (b4 := b4) (b5 := 0) (m := 0) (i := 0) hs [bx4] fun p hp => by
    rw [List.mem_singleton.1 hp]
    obtain ⟨c, fr, h1, h2, h3⟩ := h4
    exact ⟨b4, _, rfl, h1, _, c, fr, rfl, denL1 (den_slice_of rfl rfl rfl rfl), h2, h3, fun e => by cases e⟩
  refine scanCall (J := JH x y n) (T := T5) (b := b67) (k := k67) (v := .int .i64 (-1)) (noSp0 _) rfl Try.func67 rfl r5_in (denL2 (den_slice_of rfl rfl rfl rfl) rfl) hr (csA_ok rfl rfl rfl hs.g (GW_env ..)) (fun ρ' hle hG => ?_) (scanGo (n := n) (noSp0 _) rfl JH.count JH.of_le (fun j hG => j.cs hG) r5_go r5_end (fun {i ρ} j hi hG => ?_) (fun j => j.lt (decide_eq_false (Nat.lt_irrefl _))) (fun {i ρ} j hi hG => ?_) (fun ρ h => h) (fun _ => rfl))
  · have jn : JH x y n 0 ((sg5 (.lit 0)).app ρ') := ⟨by show ρ'.I 5 = _; rw [hle.i]; rfl, by show ρ'.I 6 = _; rw [hle.i]; rfl, by show ρ'.I 7 = _; rw [hle.i]; rfl, rfl, Nat.zero_le _, hs.g⟩
    exact ⟨hG, ⟨0, jn⟩, jn.cs hG⟩
  · have e := j.iT (a := at0) (varD j.i9) hi
    exact CRel_app.2 ⟨CRel_app.2 ⟨j.lt (decide_eq_true hi), j.inH e hi⟩, fR5_ok j e hi⟩
  · have := j.g.n60
    exact ⟨j.i5, j.i6, j.i7, sbI (t := upI 9) rfl (upD (varD j.i9) (by omega)), hi, j.g⟩
end Lm
end Go.Proofs.Ytpgonpjakllnjaa
