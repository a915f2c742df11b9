/-
  A machine for abstract states over the model (part 16): it runs, and so does the program.
-/
import Derived.Test.YtgiomdniafpjnaaGreatDoorVm15
namespace Go.Vm

section
variable {P : Program} {β : Base}

theorem Goes.one {f : FuncId} {R : Value → World → Prop} {todo todo' : List Item} {a a' : Act} {w w' : World} (h : ∀ cs, Go.step P (lone ((base f).at a todo) cs w) = Stepped.next (lone ((base f).at a' todo') cs w')) (g : Goes P f R todo' a' w') : Goes P f R todo a w :=
  Goes.step (fun cs => Steps.one (h cs)) g

theorem CRel.cons {ρ : Env} {t : BT} {b : Bool} {cs : Cs} (h : t.den ρ = some b) (c : CRel ρ cs) : CRel ρ ((t, b) :: cs) := fun p hp => by
  rcases List.mem_cons.1 hp with rfl | hp
  · exact h
  · exact c p hp

/-- Each that was there is stood for. -/
def Stood (β : Base) (lo : Nat) (L : List SO) : SO → Prop
  | .stop cs => SO.stop cs ∈ L
  | .st S => ∃ Y, SO.st Y ∈ L ∧ Cov β lo S Y
theorem Stood.self {lo : Nat} {L : List SO} {x : SO} (h : x ∈ L) : Stood β lo L x := by
  cases x with
  | stop cs => exact h
  | st S => exact ⟨S, h, Cov.refl β lo S⟩
theorem Stood.trans {lo : Nat} {L M : List SO} (h : ∀ x ∈ L, Stood β lo M x) {x : SO} (g : Stood β lo L x) : Stood β lo M x := by
  cases x with
  | stop cs => exact h _ g
  | st S =>
    obtain ⟨Y, hY, hc⟩ := g
    obtain ⟨Z, hZ, hc'⟩ := h _ hY
    exact ⟨Z, hZ, hc.trans hc'⟩
theorem Stood.mono {lo : Nat} {L M : List SO} (h : ∀ x ∈ L, x ∈ M) {x : SO} (g : Stood β lo L x) : Stood β lo M x := Stood.trans (fun x hx => Stood.self (h x hx)) g
theorem mergeIn_ok {lo : Nat} {S : St} : ∀ {L M : List SO}, mergeIn lo S L = some M → Stood β lo M (.st S) ∧ ∀ x ∈ L, Stood β lo M x
  | [], M, h => by cases h
  | .st X :: r, M, h => by
    simp only [mergeIn] at h
    split at h
    · rename_i Y hY
      cases h
      obtain ⟨h1, h2⟩ := mergeSt_ok (β := β) hY
      refine ⟨⟨Y, List.mem_cons_self, h1⟩, fun x hx => ?_⟩
      rcases List.mem_cons.1 hx with rfl | hx
      · exact ⟨Y, List.mem_cons_self, h2⟩
      · exact Stood.self (List.mem_cons_of_mem _ hx)
    · obtain ⟨M', hM, rfl⟩ := Option.map_eq_some_iff.1 h
      obtain ⟨h1, h2⟩ := mergeIn_ok hM
      refine ⟨h1.mono fun x hx => List.mem_cons_of_mem _ hx, fun x hx => ?_⟩
      rcases List.mem_cons.1 hx with rfl | hx
      · exact Stood.self List.mem_cons_self
      · exact (h2 x hx).mono fun x hx => List.mem_cons_of_mem _ hx
  | .stop cs :: r, M, h => by
    simp only [mergeIn] at h
    obtain ⟨M', hM, rfl⟩ := Option.map_eq_some_iff.1 h
    obtain ⟨h1, h2⟩ := mergeIn_ok hM
    refine ⟨h1.mono fun x hx => List.mem_cons_of_mem _ hx, fun x hx => ?_⟩
    rcases List.mem_cons.1 hx with rfl | hx
    · exact Stood.self List.mem_cons_self
    · exact (h2 x hx).mono fun x hx => List.mem_cons_of_mem _ hx
theorem dedupe_ok {lo : Nat} : ∀ {L acc : List SO}, ∀ x, x ∈ L ∨ x ∈ acc → Stood β lo (dedupe lo L acc) x
  | [], acc, x, h => by
    rcases h with h | h
    · cases h
    · exact Stood.self h
  | .stop cs :: r, acc, x, h => by
    simp only [dedupe]
    refine dedupe_ok (L := r) x ?_
    rcases h with h | h
    · rcases List.mem_cons.1 h with rfl | h
      · exact .inr List.mem_cons_self
      · exact .inl h
    · exact .inr (List.mem_cons_of_mem _ h)
  | .st S :: r, acc, x, h => by
    simp only [dedupe]
    split
    · rename_i acc' hm
      obtain ⟨h1, h2⟩ := mergeIn_ok (β := β) hm
      have key : ∀ y ∈ acc', Stood β lo (dedupe lo r acc') y := fun y hy => dedupe_ok (L := r) y (.inr hy)
      rcases h with h | h
      · rcases List.mem_cons.1 h with rfl | h
        · exact Stood.trans key h1
        · exact dedupe_ok (L := r) x (.inl h)
      · exact Stood.trans key (h2 x h)
    · refine dedupe_ok (L := r) x ?_
      rcases h with h | h
      · rcases List.mem_cons.1 h with rfl | h
        · exact .inr List.mem_cons_self
        · exact .inl h
      · exact .inr (List.mem_cons_of_mem _ h)

theorem soLeaf_stop {L : List SO} {cs : Cs} (h : SO.stop cs ∈ L) : Leaf.stop cs ∈ L.map soLeaf := List.mem_map.2 ⟨_, h, rfl⟩
/-- What ends come to that are thinned. -/
theorem thin_ok {lo : Nat} {ls : List Leaf} {ρ : Env} (h0 : ∀ i, lo ≤ i → ρ.N i = none) (hT : ∀ i, lo ≤ i → ρ.T i = none) (hd : ∀ l ∈ thin lo ls, l.dead ρ) {f : FuncId} {ro : Option Nat} : ∀ l ∈ ls,
    GoodX P β ρ f ro (fun v w2 => ∃ u H' nl' cs' ρ'', Leaf.ret u H' nl' cs' ∈ thin lo ls ∧ ρ.Le ρ'' ∧ u.den ρ'' = some v ∧ HRel β ρ'' H' nl' w2 ∧ CRel ρ'' cs') l := by
  have plain : thin lo ls = ls → ∀ l ∈ ls, GoodX P β ρ f ro (fun v w2 => ∃ u H' nl' cs' ρ'', Leaf.ret u H' nl' cs' ∈ thin lo ls ∧ ρ.Le ρ'' ∧ u.den ρ'' = some v ∧ HRel β ρ'' H' nl' w2 ∧ CRel ρ'' cs') l := fun e l hl => by
    rw [e] at hd ⊢
    have hd := hd l hl
    cases l with
    | ret v H' nl' cs' => exact fun ρ'' w2 x hle hx hr' hcs' => ⟨v, H', nl', cs', ρ'', hl, hle, hx, hr', hcs'⟩
    | pause S' => exact fun ρ'' a2 w2 hle hr' => (hd ρ'' hle hr'.c).elim
    | stop cs' => exact hd
  match ls, plain, hd with
  | [], plain, hd => exact plain rfl
  | [l], plain, hd => exact plain rfl
  | l1 :: l2 :: r, _, hd =>
    intro l hl
    have hst := dedupe_ok (β := β) (lo := lo) (L := (l1 :: l2 :: r).map leafSO) (acc := []) (leafSO l) (.inl (List.mem_map.2 ⟨l, hl, rfl⟩))
    have e : thin lo (l1 :: l2 :: r) = (dedupe lo ((l1 :: l2 :: r).map leafSO) []).map soLeaf := rfl
    rw [e] at hd ⊢
    cases l with
    | stop cs => exact hd _ (soLeaf_stop hst)
    | pause S => exact fun ρ'' a2 w2 hle hr' => ((hd _ (soLeaf_stop hst) : Dead ρ S.cs) ρ'' hle hr'.c).elim
    | ret v H nl cs =>
      intro ρ' w' x hle hx hr hcs
      obtain ⟨Y, hY, hcov⟩ := hst
      have hS : SRel β ρ' { todo := [], tmps := ofL [v] 0 .leaf, nt := 1, H := H, nl := nl, cs := cs } ⟨#[x], []⟩ w' :=
        ⟨rfl, rfl, ofL_ok (xs := [x]) (by simp only [AVal.denL, hx]) (fun j y hj => by simpa using hj) (fun i u h => by simp [Tr.get] at h), hr, hcs⟩
      obtain ⟨ρ3, hle3, hr3⟩ := hcov ρ ρ' _ w' h0 hT hle hS
      have hm : soLeaf (.st Y) ∈ (dedupe lo ((l1 :: l2 :: r).map leafSO) []).map soLeaf := List.mem_map.2 ⟨_, hY, rfl⟩
      cases hg : Y.tmps.get 0 with
      | none =>
        have : soLeaf (.st Y) = .stop Y.cs := by simp only [soLeaf, hg]
        rw [this] at hm
        exact ((hd _ hm : Dead ρ Y.cs) ρ3 hle3 hr3.c).elim
      | some u =>
        have e1 : soLeaf (.st Y) = .ret u Y.H Y.nl Y.cs := by simp only [soLeaf, hg]
        rw [e1] at hm
        obtain ⟨y, hy, g⟩ := hr3.t 0 u hg
        have : y = x := by simpa using g.symm
        subst this
        exact ⟨u, Y.H, Y.nl, Y.cs, ρ3, hm, hle3, hy, hr3.h, hr3.c⟩
theorem putP_ok {nt : Nat} {ρ : Env} : ∀ {ps : List Tmp} {vs : List AVal} {xs : List Value} {t : Tr AVal} {tm : Array Value}, TRel ρ t tm → tm.size = nt → AVal.denL ρ vs = some xs → vs.length = ps.length →
    TRel ρ (putP ps vs nt t) (putV ps xs tm) ∧ (putV ps xs tm).size = nt
  | [], vs, xs, t, tm, h, hn, hx, hl => by cases vs <;> cases xs <;> exact ⟨h, hn⟩
  | p :: ps, [], xs, t, tm, h, hn, hx, hl => by cases hl
  | p :: ps, v :: vs, xs, t, tm, h, hn, hx, hl => by
    simp only [AVal.denL] at hx
    split at hx
    · rename_i y l hy hl'
      cases hx
      have h1 := putT_ok (a := ⟨tm, []⟩) (dst := some p) h hn hy
      exact putP_ok (ps := ps) (vs := vs) h1 (by simp [Act.put, hn]) hl' (by simpa using hl)
    · cases hx
theorem foldl_zip : ∀ (ps : List Tmp) (xs : List Value) (tm : Array Value), (ps.zip xs).foldl (fun tmps (p : Tmp × Value) => tmps.setIfInBounds p.1 p.2) tm = putV ps xs tm
  | [], xs, tm => by cases xs <;> rfl
  | p :: ps, [], tm => rfl
  | p :: ps, x :: xs, tm => foldl_zip ps xs (tm.setIfInBounds p x)
theorem enter_ok {cx : Cx} {ro : Option Nat} {S : St} {L D : Nat} {H1 : Heap} {nl1 : Nat} {ρ : Env} {a : Act} {w : World} {asg bd : Code} {ps : Array Tmp} {f : FuncId} (h : enterX cx S = some (L, D, H1, nl1)) (hrd : RdOk ρ cx.rd ro) (hls : LsOk ρ cx.ls) (r : SRel β ρ S a w) :
    ∃ bL mark w1 ρ1, ρ.Le ρ1 ∧ ρ1.N L = some bL ∧ (Instr.enterLoop f a.tmps ps asg bd ro).run P w = .ok (bL, mark) w1 ∧ HRel β ρ1 H1 nl1 w1 ∧ LOk ρ1 ⟨L, f, S.tmps, S.nt, ps.toList, asg, bd, D⟩ ∧
      DRel ρ1 (match cx.rd with
        | none => D :: S.df
        | some _ => S.df) (mark ++ a.defers) := by
  unfold enterX at h
  split at h
  · rename_i hu
    rw [hu] at hrd
    cases ro with
    | some b => exact hrd.elim
    | none =>
    cases h
    have hr1 := r.h.new (.deferred (some [])) .defd true rfl
    have hle1 : ρ.Le (ρ.put S.nl w.heap.size) := Env.le_put (r.h.fresh _ (Nat.le_refl _))
    generalize hq : ({ state := .ready, pending := none, fn := f, tmps := a.tmps, params := ps, assign := asg, body := bd, defers := w.heap.size } : Loop) = q
    have hnT : (ρ.put S.nl w.heap.size).T (S.nl + 1) = none := r.h.ownN _ (by omega)
    have hnN : (ρ.put S.nl w.heap.size).N (S.nl + 1) = none := hr1.fresh _ (Nat.le_refl _)
    have hr2 := hr1.newLoop q hnT (by rw [← hq]) (by rw [← hq])
    have hsz : (w.heap.push (.deferred (some []))).size = w.heap.size + 1 := by simp
    refine ⟨w.heap.size + 1, _, _, ((ρ.put S.nl w.heap.size).put (S.nl + 1) (w.heap.push (.deferred (some []))).size).putT (S.nl + 1) q, ?_, ?_, run_enterLoop_outer f a.tmps ps asg bd, ?_, ?_, ?_⟩
    rotate_left 2
    · rw [hq]; exact hr2
    · refine ⟨q, Env.putT_same .., by rw [← hq], ?_, by rw [← hq]; exact r.n, by rw [← hq], by rw [← hq], by rw [← hq], ?_⟩
      · rw [← hq]; exact r.t.mono ((hle1.trans (Env.le_put hnN)).trans (Env.le_putT hnT))
      · rw [← hq]
        show ((ρ.put S.nl w.heap.size).put (S.nl + 1) _).N S.nl = _
        rw [Env.put_other _ _ (by omega), Env.put_same]
    · rw [hu]
      refine ⟨w.heap.size, a.defers, ?_, rfl, r.d.mono ((hle1.trans (Env.le_put hnN)).trans (Env.le_putT hnT))⟩
      show ((ρ.put S.nl w.heap.size).put (S.nl + 1) _).N S.nl = _
      rw [Env.put_other _ _ (by omega), Env.put_same]
    · exact (hle1.trans (Env.le_put hnN)).trans (Env.le_putT hnT)
    · show ((ρ.put S.nl w.heap.size).put (S.nl + 1) _).N (S.nl + 1) = _
      rw [Env.put_same, hsz]
  · rename_i t hu
    rw [hu] at hrd
    cases ro with
    | none => exact hrd.elim
    | some b0 =>
    have hb0 : ρ.N t = some b0 := hrd
    split at h
    · rename_i qr p hqr hp
      cases h
      obtain ⟨st, pe⟩ := p
      obtain ⟨hgt, b, lp, hb, hlp, ho⟩ := loopSt_ok hp r.h
      rw [hb0] at hb; cases hb
      obtain ⟨hmem, rfl⟩ := findL_ok hqr
      obtain ⟨lp', h1, _, _, _, _, _, _, h8⟩ := hls qr hmem
      rw [hlp] at h1; cases h1
      generalize hq : ({ state := .ready, pending := none, fn := f, tmps := a.tmps, params := ps, assign := asg, body := bd, defers := lp.defers } : Loop) = q
      have hnT : ρ.T S.nl = none := r.h.ownN _ (Nat.le_refl _)
      have hnN : ρ.N S.nl = none := r.h.fresh _ (Nat.le_refl _)
      have hr2 := r.h.newLoop q hnT (by rw [← hq]) (by rw [← hq])
      have hle := (Env.le_put (b := w.heap.size) hnN).trans (Env.le_putT (r := q) hnT)
      refine ⟨w.heap.size, [], _, (ρ.put S.nl w.heap.size).putT S.nl q, hle, Env.put_same .., ?_, hr2, ?_, ?_⟩
      · unfold Instr.enterLoop
        simp only [Sem.run_bind, run_getLoop ho, run_newObj_alloc, Result.andThen, Sem.run_pure, hq]
        rfl
      · refine ⟨q, Env.putT_same .., by rw [← hq], ?_, by rw [← hq]; exact r.n, by rw [← hq], by rw [← hq], by rw [← hq], ?_⟩
        · have := r.t.mono hle
          rw [← hq] at this ⊢; exact this
        · have := hle.n _ _ h8
          rw [← hq] at this ⊢; exact this
      · rw [hu]; exact r.d.mono hle
    · cases h

theorem runX_sound (hc : NoCount P) {E : Exts} (hE : ExtOk P E) {sp : CallF} (hsp : CallOk P β sp) (hm : P.follows .mixedOrders = true) : ∀ (n : Nat) (cx : Cx) (ro : Option Nat) (pl : PL) (f : FuncId) (S : St) (ls : List Leaf) (ρ : Env) (a : Act) (w : World) (R : Value → World → Prop),
    runX P E sp n cx pl f S = some ls → SRel β ρ S a w → LsOk ρ cx.ls → RdOk ρ cx.rd ro → (∀ l ∈ ls, GoodX P β ρ f ro R l) → GoesX P f ro R S.todo a w := by
  intro n
  induction n with
  | zero => intro cx ro pl f S ls ρ a w R h; simp [runX] at h
  | succ n ih =>
    intro cx ro pl f S ls ρ a w R h r hls hrd hg
    have hfn' : ∀ (cl : List LRec) (ρ : Env), LsOk ρ cl → FnOkX P β ρ (fnX P sp (runX P E sp n { ls := cl } false)) := fun cl ρ hcl g args H nl cs ls' ρ' w' xs hle hrun hxs hr hcs hdead => by
      unfold fnX at hrun
      split at hrun
      · rename_i ls0 hs0
        cases hrun
        exact hsp.1 g args H nl cs ls' ρ' w' xs hs0 hxs hr hcs hdead
      split at hrun
      · rename_i fn hfn
        split at hrun
        · rename_i c hb
          have hfn' : P.funcs[g]? = some fn := by simpa using hfn
          obtain ⟨ls0, hrun0, rfl⟩ := Option.map_eq_some_iff.1 hrun
          refine (calls_of_goes hfn' hb (R := fun v w2 => ∃ u H' nl' cs' ρ'', Leaf.ret u H' nl' cs' ∈ thin nl ls0 ∧ ρ'.Le ρ'' ∧ u.den ρ'' = some v ∧ HRel β ρ'' H' nl' w2 ∧ CRel ρ'' cs') ?_)
          exact ih { ls := cl } none false g (entry fn c args H nl cs) ls0 ρ' _ w' _ hrun0 (entry_ok hxs hr hcs) (hcl.mono hle) trivial (thin_ok (P := P) hr.fresh hr.ownN hdead)
        · cases hrun
      · cases hrun
    have hfn : ∀ (cl : List LRec), LsOk ρ cl → FnOkX P β ρ (fnX P sp (runX P E sp n { ls := cl } false)) := fun cl hcl => hfn' cl ρ hcl
    -- a round
    have hrnd : RndOk P β ρ (rndX cx.ls fun c => runX P E sp n c false) := by
      intro L args H nl cs ls' ρ' w' xs hle hrun hxs hr hcs hdead
      unfold rndX at hrun
      split at hrun
      · rename_i q p hq hp
        obtain ⟨st, pe⟩ := p
        obtain ⟨hgt, b, lp, hb, hlp, ho⟩ := loopSt_ok hp hr
        cases hlen : Nat.beq args.length q.ps.length with
        | false => rw [hlen] at hrun; cases hrun
        | true =>
          rw [hlen] at hrun; simp only [cond_true] at hrun
          obtain ⟨hmem, rfl⟩ := findL_ok hq
          obtain ⟨lp', h1, h2, h3, h4, h5, h6, h7, h8⟩ := (hls q hmem).mono hle
          rw [hlp] at h1; cases h1
          have hsz : xs.toArray.size = lp.params.size := by
            rw [← Array.length_toList (xs := lp.params), h5, ← Nat.eq_of_beq_eq_true hlen]
            simpa using AVal.denL_length hxs
          refine ⟨b, hb, lp.fn, _, lp.assign, lp.body, run_yield (P := P) (r := { lp with state := lsOf st, pending := peOf pe }) ho hsz, ?_⟩
          have hS : SRel β ρ' { todo := [.code q.asg, .beginRound, .code q.body], tmps := putP q.ps args q.nt q.tm, nt := q.nt, H := H, nl := nl, cs := cs }
              ⟨(lp.params.zip xs.toArray).foldl (fun tmps (t, a) => tmps.setIfInBounds t a) lp.tmps, []⟩ w' := by
            obtain ⟨e1, e2⟩ := putP_ok h3 h4 hxs (Nat.eq_of_beq_eq_true hlen)
            have ez : (lp.params.zip xs.toArray).foldl (fun tmps (t, a) => tmps.setIfInBounds t a) lp.tmps = putV q.ps xs lp.tmps := by
              rw [← h5, ← Array.foldl_toList, Array.toList_zip]
              exact foldl_zip _ _ _
            rw [ez]
            exact ⟨rfl, e2, e1, hr, hcs⟩
          have := ih { rd := some q.t, ls := cx.ls } (some b) false q.fn _ ls' ρ' _ w' (fun v w2 => ∃ u H' nl' cs' ρ'', Leaf.ret u H' nl' cs' ∈ ls' ∧ ρ'.Le ρ'' ∧ u.den ρ'' = some v ∧ HRel β ρ'' H' nl' w2 ∧ CRel ρ'' cs') hrun hS (hls.mono hle) hb (fun l hl => by
            have hd := hdead l hl
            cases l with
            | ret v H' nl' cs' => exact fun ρ'' w2 x hle hx hr' hcs' => ⟨v, H', nl', cs', ρ'', hl, hle, hx, hr', hcs'⟩
            | pause S' => exact fun ρ'' a2 w2 hle hr' => (hd ρ'' hle hr'.c).elim
            | stop cs' => exact hd)
          intro c cs
          obtain ⟨v, w2, hK, hs⟩ := this c cs
          refine ⟨v, w2, hK, ?_⟩
          rw [h6, h7, h2]; exact hs
      · cases hrun
    have absurd : ls = [.stop S.cs] → False := fun e => Good.absurd e r hg
    have next : ∀ (todo : List Item), (∀ cs, step P (lone ((baseR f ro).atR a S.todo) cs w) = .next (lone ((baseR f ro).atR a todo) cs w)) → ∀ ls', runX P E sp n cx pl f { S with todo := todo } = some ls' → (∀ l ∈ ls', l ∈ ls) → GoesX P f ro R S.todo a w := by
      intro todo hs ls' hrun hsub
      exact GoesX.one hs (ih cx ro pl f { S with todo := todo } ls' ρ a w R hrun ⟨r.d, r.n, r.t, r.h, r.c⟩ hls hrd (fun l hl => hg l (hsub l hl)))
    have loop : ∀ (b : Code) (k : List Item), (∀ cs, step P (lone ((baseR f ro).atR a S.todo) cs w) = .next (lone ((baseR f ro).atR a (.code b :: .inLoop b :: k)) cs w)) →
        cond (pl.stops b) (some [Leaf.pause S]) (runX P E sp n cx pl f { S with todo := .code b :: .inLoop b :: k }) = some ls → GoesX P f ro R S.todo a w := by
      intro b k hs hrun
      cases hpl : pl.stops b with
      | true =>
        rw [hpl] at hrun
        simp only [cond_true, Option.some.injEq] at hrun
        subst hrun
        exact hg (.pause S) List.mem_cons_self ρ a w (Env.Le.refl ρ) r
      | false =>
        rw [hpl] at hrun
        exact next _ hs ls hrun (fun l hl => hl)
    have hcall : CallOkX P β ρ ⟨fnX P sp (runX P E sp n { ls := cx.ls } false), sp.op⟩ := ⟨hfn cx.ls hls, hsp.2⟩
    have endR : ∀ (u : Nat), cx.rd = some u → ∀ j, Jmp S.todo j → endLeaf u j S = some ls → GoesX P f ro R S.todo a w := by
      intro u hu j hj h
      rw [hu] at hrd
      cases ro with
      | none => exact hrd.elim
      | some b => exact endLeaf_ok h hrd r hg hj
    have leave : ∀ j, Jmp S.todo j → (cx.rd = none → S.todo = [] ∨ ∃ k, S.todo = .code .ret :: k) → leaveX P cx f j S = some ls → GoesX P f ro R S.todo a w := by
      intro j hj hj' h
      unfold leaveX at h
      split at h
      · rename_i u hu; exact endR u hu j hj h
      · rename_i hu
        have hro : ro = none := by
          rw [hu] at hrd
          cases ro with
          | none => rfl
          | some b => exact hrd.elim
        subst hro
        split at h
        · rename_i H hH; exact retLeaf_ok hH h r hg (hj' hu)
        · exact (Good.absurd (Option.some.inj h).symm r hg).elim
    simp only [runX] at h
    split at h
    · rename_i ht; exact leave 0 (.inl ⟨ht, rfl⟩) (fun _ => .inl ht) h
    · rename_i k ht; exact leave 1 (.inr (.inl ⟨k, ht, rfl⟩)) (fun _ => .inr ⟨k, ht⟩) h
    · rename_i k ht; exact next k (fun cs => by rw [ht]; exact stepR_skip) ls h (fun l hl => hl)
    · rename_i l0 k ht; exact next k (fun cs => by rw [ht]; exact stepR_label) ls h (fun l hl => hl)
    · rename_i x y k ht; exact next _ (fun cs => by rw [ht]; exact stepR_seq) ls h (fun l hl => hl)
    · rename_i c x y k ht
      split at h
      · rename_i b hb
        have he := den_litb (evOf_ok r.t c _ hb)
        refine next _ (fun cs => ?_) ls h (fun l hl => hl)
        rw [ht, stepR_cond he]
        cases b <;> rfl
      · rename_i t _ hb
        obtain ⟨b, hev, hbt⟩ := den_bool (evOf_ok r.t c _ hb)
        split at h
        · rename_i b' hl
          have hbb := lookB_ok hl r.c
          rw [hbt] at hbb; cases hbb
          refine next _ (fun cs => ?_) ls h (fun l hl => hl)
          rw [ht, stepR_cond hev]
          cases b <;> rfl
        obtain ⟨lx, ly, hx, hy, rfl⟩ := appendO_some h
        cases b with
        | true =>
          refine GoesX.one (fun cs => ?_) (ih cx ro pl f { S with todo := .code x :: k, cs := (t, true) :: S.cs } lx ρ a w R hx ⟨r.d, r.n, r.t, r.h, r.c.cons hbt⟩ hls hrd (fun l hl => hg l (List.mem_append.2 (.inl hl))))
          rw [ht, stepR_cond hev]; rfl
        | false =>
          refine GoesX.one (fun cs => ?_) (ih cx ro pl f { S with todo := .code y :: k, cs := (t, false) :: S.cs } ly ρ a w R hy ⟨r.d, r.n, r.t, r.h, r.c.cons hbt⟩ hls hrd (fun l hl => hg l (List.mem_append.2 (.inr hl))))
          rw [ht, stepR_cond hev]; rfl
      · exact (absurd (Option.some.inj h).symm).elim
    · rename_i id b k ht; exact next _ (fun cs => by rw [ht]; exact stepR_block) ls h (fun l hl => hl)
    · rename_i b k ht; exact next _ (fun cs => by rw [ht]; exact step_lone_go (by simp [stepG, stepG.exec, Frame.atR])) ls h (fun l hl => hl)
    · rename_i b k ht; exact loop b k (fun cs => by rw [ht]; exact stepR_loop) h
    · rename_i b k ht; exact loop b k (fun cs => by rw [ht]; exact stepR_inLoop) h
    · rename_i id k ht
      split at h
      · rename_i k' hk; exact next _ (fun cs => by rw [ht]; exact stepR_exit hk) ls h (fun l hl => hl)
      · rename_i hk
        split at h
        · rename_i u hu
          exact endR u hu (2 * id + 2) (.inr (.inr (.inl ⟨id, k, ht, rfl, hk⟩))) h
        · cases h
    · rename_i id k ht
      split at h
      · rename_i k' hk; exact next _ (fun cs => by rw [ht]; exact stepR_goto hk) ls h (fun l hl => hl)
      · rename_i hk
        split at h
        · rename_i u hu
          exact endR u hu (2 * id + 3) (.inr (.inr (.inr ⟨id, k, ht, rfl, hk⟩))) h
        · cases h
    · rename_i id k ht; exact next _ (fun cs => by rw [ht]; exact stepR_inBlock) ls h (fun l hl => hl)
    · rename_i b k ht; exact next _ (fun cs => by rw [ht]; exact step_lone_go (by simp [stepG, stepG.exec, Frame.atR])) ls h (fun l hl => hl)
    · rename_i id ops k ht; exact next _ (fun cs => by rw [ht]; exact stepR_region) ls h (fun l hl => hl)
    · rename_i id ops k ht
      split at h
      · rename_i so hso
        cases hns : Region.noSelect ops with
        | false => rw [hns] at h; cases h
        | true =>
          rw [hns] at h; simp only [cond_true] at h
          rw [ht]
          refine GoesX.code (n := 0) (wpIn_region_any hm (AnyG.wp (C := fun _ _ => True) _ _ _ _ ?_))
          refine regRun_ok hc hE hcall hrnd hns n ops.size _ S [] so ρ a _ (fun _ _ => True) hso (Env.Le.refl ρ) ⟨r.d, r.n, r.t, r.h.drew, r.c⟩ trivial ⟨fun _ _ _ _ _ _ _ _ _ _ => trivial, fun _ _ _ _ _ => trivial, fun _ _ _ _ => trivial⟩ (fun x hx => ?_) (fun S' hS' ρ' a' w' hle hr' => ?_)
          · have hst := dedupe_ok (β := β) (lo := S.nl) (L := so) (acc := []) x (.inl hx)
            cases x with
            | st S' => trivial
            | stop cs =>
              obtain ⟨rx, hrx, hsub⟩ := eachO_some h _ hst
              cases hrx; exact hg _ (hsub _ List.mem_cons_self)
          · obtain ⟨Y, hY, hcov⟩ := dedupe_ok (β := β) (lo := S.nl) (L := so) (acc := []) _ (.inl hS')
            obtain ⟨ρ2, hle2, hr2⟩ := hcov ρ ρ' a' w' r.h.fresh r.h.ownN hle hr'
            obtain ⟨rx, hrx, hsub⟩ := eachO_some h _ hY
            exact ih cx ro pl f { Y with todo := k } rx ρ2 a' w' R hrx ⟨hr2.d, hr2.n, hr2.t, hr2.h, hr2.c⟩ (hls.mono hle2) (hrd.mono hle2) (fun l hl => (hg l (hsub l hl)).mono hle2)
      · cases h
    · rename_i ops k ht; exact next _ (fun cs => by rw [ht]; exact stepR_region_end) ls h (fun l hl => hl)
    · rename_i ops i rest k ht
      split at h
      · cases h
      · rename_i o ho
        have ho' : ops[i]? = some o := by simpa using ho
        obtain ⟨g1, g2, g3⟩ := guard_ok (ops := ops) (o := o) r.t
        split at h
        · rename_i hgd
          cases hpo : pl.ops o.op with
          | true =>
            rw [hpo] at h
            simp only [cond_true, Option.some.injEq] at h
            subst h
            exact hg (.pause S) List.mem_cons_self ρ a w (Env.Le.refl ρ) r
          | false =>
          rw [hpo] at h
          simp only [cond_false] at h
          split at h
          · rename_i d k0 u m hen
            have hd := enumOf_ok hen
            obtain ⟨x, hx, _⟩ := r.t d _ hd
            simp only [AVal.den] at hx
            obtain ⟨z, hz, _⟩ := map_some hx
            split at h
            · rename_i j hj
              have hzj := lookI_ok hj r.c hz
              subst hzj
              exact ih cx ro pl f (setI S d k0 u j) ls ρ a w R h (setI_ok r hd hz) hls hrd hg
            · obtain ⟨lx, ly, hx, hy, rfl⟩ := appendO_some h
              by_cases hj : ∃ j : Nat, j < m ∧ z = j
              · obtain ⟨j, hjm, rfl⟩ := hj
                obtain ⟨rx, hrx, hsub⟩ := eachO_some hx j (List.mem_range.2 hjm)
                exact ih cx ro pl f (setI S d k0 u j) rx ρ a w R hrx (setI_ok r hd hz) hls hrd (fun l hl => hg l (List.mem_append.2 (.inl (hsub l hl))))
              · cases hy
                refine (hg (.stop (noneOf u m ++ S.cs)) (List.mem_append.2 (.inr List.mem_cons_self)) ρ (Env.Le.refl ρ) (fun p hp => ?_)).elim
                rcases List.mem_append.1 hp with hp | hp
                · exact noneOf_ok hz (fun j hjm e => hj ⟨j, hjm, e⟩) p hp
                · exact r.c p hp
          split at h
          · rename_i so hso
            rw [ht]
            refine OpG.goes ho' (stepOp_ok hc hE hcall hrnd ho' (g1 hgd) hso r (fun x hx => ?_) (fun S' hS' _ ρ' a' w' hle hr' => ?_))
            · obtain ⟨rx, hrx, hsub⟩ := eachO_some h x hx
              cases x with
              | st S' => trivial
              | stop cs => cases hrx; exact hg _ (hsub _ List.mem_cons_self)
            · obtain ⟨rx, hrx, hsub⟩ := eachO_some h _ hS'
              exact ih cx ro pl f { S' with todo := .inRegion ops rest :: k } rx ρ' a' w' R hrx ⟨hr'.d, hr'.n, hr'.t, hr'.h, hr'.c⟩ (hls.mono hle) (hrd.mono hle) (fun l hl => (hg l (hsub l hl)).mono hle)
          · cases h
        · rename_i hgd
          rw [ht]
          refine GoesX.unwanted ho' (g2 hgd) ?_
          exact ih cx ro pl f _ ls ρ _ w R h ⟨by rw [put_defers]; exact r.d, by rw [put_size]; exact r.n, putT_ok r.t r.n undef_den, r.h, r.c⟩ hls hrd hg
        · rename_i t d hgd
          obtain ⟨b, hb⟩ := setB_ok r (g3 t d hgd)
          split at h
          · rename_i b' hl
            have hbb := lookB_ok hl r.c
            obtain ⟨y, hy, _⟩ := r.t d _ (g3 t d hgd)
            have hb' : SRel β ρ (setB S t d b') a w := by
              have := hb.c _ List.mem_cons_self
              rw [hbb] at this; cases this; exact hb
            exact ih cx ro pl f (setB S t d b') ls ρ a w R h hb' hls hrd hg
          obtain ⟨lx, ly, hx, hy, rfl⟩ := appendO_some h
          cases b with
          | true => exact ih cx ro pl f (setB S t d true) lx ρ a w R hx hb hls hrd (fun l hl => hg l (List.mem_append.2 (.inl hl)))
          | false => exact ih cx ro pl f (setB S t d false) ly ρ a w R hy hb hls hrd (fun l hl => hg l (List.mem_append.2 (.inr hl)))
        · exact (absurd (Option.some.inj h).symm).elim
    · -- a round begins
      rename_i k ht
      split at h
      · rename_i u hu
        split at h
        · rename_i pe hp
          obtain ⟨hgt, b, q, hb, hq, ho⟩ := loopSt_ok hp r.h
          rw [hu] at hrd
          cases ro with
          | none => exact hrd.elim
          | some b' =>
            have hb' : ρ.N u = some b' := hrd
            rw [hb] at hb'; cases hb'
            rw [ht]
            refine GoesX.begin (run_beginRound ho rfl) (ih cx (some b) pl f { S with todo := k, H := S.H.set u ⟨.loop u 1 pe, true⟩ } ls ρ a _ R h ⟨r.d, r.n, r.t, loop_turn hgt hb hq r.h 1 pe, r.c⟩ hls (by rw [hu]; exact hb) hg)
        · exact (absurd (Option.some.inj h).symm).elim
      · exact (absurd (Option.some.inj h).symm).elim
    · -- a loop over a function
      rename_i g ps asg bd k ht
      cases hrf : pl.rf with
      | true =>
        rw [hrf] at h
        simp only [cond_true, Option.some.injEq] at h
        subst h
        exact hg (.pause S) List.mem_cons_self ρ a w (Env.Le.refl ρ) r
      | false =>
      rw [hrf] at h
      simp only [cond_false] at h
      split at h
      · rename_i gf x y L D H1 nl1 hev hen
        cases hbd : hasBody P gf with
        | false => rw [hbd] at h; cases h
        | true =>
        rw [hbd] at h; simp only [cond_true] at h
        obtain ⟨xs, ys, hfg, hxs, hys⟩ := den_func (evOf_ok r.t g _ hev)
        obtain ⟨bL, mark, w1, ρ1, hle1, hNL, hent, hrel, hlo, hdf⟩ := enter_ok (asg := asg) (bd := bd) (ps := ps) (f := f) hen hrd hls r
        split at h
        · rename_i ls1 hls1
          rw [ht]
          have hdl : AVal.denL ρ1 (x ++ (.yld L :: y)) = some (xs ++ (.func (.yield bL) #[] #[] :: ys)) := by
            refine AVal.denL_append (AVal.denL_mono hle1 _ hxs) ?_
            simp only [AVal.denL, AVal.den, hNL, Option.map_some, AVal.denL_mono hle1 _ hys]
          have hcl : LsOk ρ1 (⟨L, f, S.tmps, S.nt, ps.toList, asg, bd, D⟩ :: cx.ls) := fun q hq => by
            rcases List.mem_cons.1 hq with rfl | hq
            · exact hlo
            · exact (hls q hq).mono hle1
          have hcalls := hfn' _ ρ1 hcl gf (x ++ (.yld L :: y)) H1 nl1 S.cs ls1 ρ1 w1 _ (Env.Le.refl ρ1) hls1 hdl hrel (fun p hp => BT.den_mono hle1 (r.c p hp)) (fun l hl => by
            obtain ⟨rx, hrx, hsub⟩ := eachO_some h l hl
            cases l with
            | ret v H' nl' cs' => trivial
            | pause S' => cases hrx; exact Dead.mono hle1 (hg _ (hsub _ List.mem_cons_self))
            | stop cs' => cases hrx; exact Dead.mono hle1 (hg _ (hsub _ List.mem_cons_self)))
          have hres : (resolve a.eval (rangeCall g bL) 0).run P w1 = .ok { target := .fn (.func gf) ys.toArray, args := xs.toArray ++ #[.func (.yield bL) #[] #[]] } w1 := by
            simp only [resolve, hfg]
            simp [Deferred.ofValue, Act.eval]
          have hinv : (invoke (.fn (.func gf) ys.toArray) (xs.toArray ++ #[.func (.yield bL) #[] #[]])).run P w1 = .ok (.enter gf (xs ++ (.func (.yield bL) #[] #[] :: ys)).toArray) w1 := by
            simp only [invoke, callFunc_run hc hbd]
            congr 2
            apply Array.toList_inj.1; simp
          refine GoesX.rangeFunc hent hres hinv hcalls (fun v w3 ⟨u, H2, nl2, cs2, ρ2, hmem, hle2, hu, hr2, hc2⟩ => ?_)
          obtain ⟨rx, hrx, hsub⟩ := eachO_some h _ hmem
          have hle : ρ.Le ρ2 := hle1.trans hle2
          simp only [aftX] at hrx
          split at hrx
          · rename_i st pe hst
            obtain ⟨hgt, b, q, hb, hq, ho⟩ := loopSt_ok hst hr2
            rw [hle2.n _ _ hNL] at hb; cases hb
            cases hst1 : Nat.beq st 1 with
            | true => rw [hst1] at hrx; cases hrx; exact (Dead.mono hle (hg _ (hsub _ List.mem_cons_self)) ρ2 (Env.Le.refl ρ2) hc2).elim
            | false =>
              rw [hst1] at hrx; simp only [cond_false] at hrx
              have hnb : lsOf st ≠ .busy := by
                cases st with
                | zero => simp [lsOf]
                | succ st => cases st with
                  | zero => cases hst1
                  | succ st => cases st with
                    | zero => simp [lsOf]
                    | succ st => simp [lsOf]
              refine ⟨peOf pe, _, run_endLoop ho hnb, ?_⟩
              refine ih cx ro pl f _ rx ρ2 _ _ R hrx ⟨?_, r.n, r.t.mono hle, hr2.lose hgt rfl (hle2.n _ _ hNL) rfl rfl rfl rfl, hc2⟩ (hls.mono hle) (hrd.mono hle) (fun l hl => (hg l (hsub l hl)).mono hle)
              exact DRel.mono hle2 hdf
          · cases hrx; exact (Dead.mono hle (hg _ (hsub _ List.mem_cons_self)) ρ2 (Env.Le.refl ρ2) hc2).elim
        · cases h
      · exact (absurd (Option.some.inj h).symm).elim
    · exact (absurd (Option.some.inj h).symm).elim

/-- A walk of a function. -/
theorem run_sound (hc : NoCount P) {E : Exts} (hE : ExtOk P E) {sp : CallF} (hsp : CallOk P β sp) (hm : P.follows .mixedOrders = true) (n : Nat) (pl : PL) (f : FuncId) (S : St) (ls : List Leaf) (ρ : Env) (a : Act) (w : World) (R : Value → World → Prop)
    (h : run P E sp n pl f S = some ls) (r : SRel β ρ S a w) (hg : ∀ l ∈ ls, Good P β ρ f R l) : Goes P f R S.todo a w :=
  runX_sound hc hE hsp hm n {} none pl f S ls ρ a w R h r (fun _ h => by cases h) trivial (fun l hl => (hg l hl).x)

/-- A call of a function, gone through by the machine. -/
theorem run_calls (hc : NoCount P) {E : Exts} (hE : ExtOk P E) {sp : CallF} (hsp : CallOk P β sp) (hm : P.follows .mixedOrders = true) {n : Nat} {f : FuncId} {fn : Func} {c : Code} {args : List AVal} {xs : List Value} {H : Heap} {nl : Nat} {cs : Cs} {ls : List Leaf} {ρ : Env} {w : World} {R : Value → World → Prop}
    (hf : P.funcs[f]? = some fn) (hb : fn.body = some c) (hrun : run P E sp n false f (entry fn c args H nl cs) = some ls) (hx : AVal.denL ρ args = some xs) (hr : HRel β ρ H nl w) (hcs : CRel ρ cs) (hg : ∀ l ∈ ls, Good P β ρ f R l) :
    Calls P f xs.toArray w (fun e w' => ∃ v, e = .returned v ∧ R v w') :=
  calls_of_goes hf hb (run_sound hc hE hsp hm n false f _ ls ρ _ w R hrun (entry_ok hx hr hcs) hg)

def noSp : CallF := { fn := fun _ _ _ _ _ => none }
theorem noSp_ok : CallOk P β noSp := ⟨(fun _ _ _ _ _ _ _ _ _ h => by cases h), noOp_ok⟩
theorem noExt : ExtOk P [] := fun _ _ h => by cases h

/-- Nothing is known of memory. -/
theorem HRel.start (w : World) (ρ : Env) (h : ∀ i, ρ.N i = none) (hT : ∀ i, ρ.T i = none := by exact fun _ => rfl) : HRel (.plain w) ρ .leaf 0 w :=
  ⟨(fun l k hl => by simp [Tr.get] at hl), (fun l l' k k' hl => by simp [Tr.get] at hl), (fun l k b hl => by simp [Tr.get] at hl), fun i _ => h i, fun i _ => hT i, Nat.le_refl _, fun _ _ _ => rfl, rfl, rfl, rfl, trivial, BigAt.none fun l k hl => by simp [Tr.get] at hl⟩
theorem HRel.startG (w : World) (ρ : Env) {G : (Nat → Int) → (Nat → Bool) → (Nat → ByteArray) → (Nat → Value) → (Nat → Int → Int → Int) → Prop} (h : ∀ i, ρ.N i = none) (hG : G ρ.I ρ.B ρ.S ρ.V ρ.F) (hT : ∀ i, ρ.T i = none := by exact fun _ => rfl) : HRel ⟨w, noO, G⟩ ρ .leaf 0 w :=
  ⟨(fun l k hl => by simp [Tr.get] at hl), (fun l l' k k' hl => by simp [Tr.get] at hl), (fun l k b hl => by simp [Tr.get] at hl), fun i _ => h i, fun i _ => hT i, Nat.le_refl _, fun _ _ _ => rfl, rfl, rfl, rfl, hG, BigAt.none fun l k hl => by simp [Tr.get] at hl⟩

end
end Go.Vm
