/-
  A machine for abstract states over the model (part 20): loops by what holds at their heads.
-/
import Derived.Test.YtgiomdniafpjnaaGreatDoorVm19
import Derived.Laws.BitsLemmas
import Derived.Laws.Bits64
section
namespace Go.Vm

-- A HEAD OF A LOOP
structure Tpl where
  tm : List (Nat × AVal)
  nt : Nat
  H : List (Nat × HB)
  nl : Nat
  cs : Cs
  dep : Nat
def ofP {α : Type} : List (Nat × α) → Tr α
  | [] => .leaf
  | (i, x) :: r => (ofP r).set i x
theorem ofP_mem {α : Type} : ∀ {l : List (Nat × α)} {i : Nat} {x : α}, (ofP l).get i = some x → (i, x) ∈ l
  | [], i, x, h => by simp [ofP, Tr.get] at h
  | (j, y) :: r, i, x, h => by
    rcases Tr.get_set h with ⟨rfl, rfl⟩ | ⟨_, h⟩
    · exact List.mem_cons_self
    · exact List.mem_cons_of_mem _ (ofP_mem h)
def Tpl.st (T : Tpl) (todo : List Item) : St := { todo := todo, tmps := ofP T.tm, nt := T.nt, H := ofP T.H, nl := T.nl, cs := T.cs }

/-- A row that is only read: two names of it may be one. -/
def roB (H : List (Nat × HB)) (i : Nat) : Bool := match (ofP H).get i with
  | some ⟨.arr _ _ _ _ _ _, false⟩ => true
  | _ => false
def fresh2 (H : List (Nat × HB)) (l : List (Nat × Nat)) : Bool :=
  match l with
  | [] => true
  | (i, j) :: r => r.all (fun q => !Nat.beq j q.2 || (roB H i && roB H q.1)) && fresh2 H r
theorem fresh2_inj {H : List (Nat × HB)} : ∀ {l : List (Nat × Nat)} {i i' j : Nat}, fresh2 H l = true → (i, j) ∈ l → (i', j) ∈ l → i = i' ∨ (roB H i = true ∧ roB H i' = true)
  | (a, b) :: r, i, i', j, h, h1, h2 => by
    simp only [fresh2, Bool.and_eq_true, List.all_eq_true] at h
    rcases List.mem_cons.1 h1 with e1 | m1
    · rcases List.mem_cons.1 h2 with e2 | m2
      · cases e1; cases e2; exact .inl rfl
      · cases e1
        have := h.1 _ m2
        simp only [Nat.beq_refl, Bool.not_true, Bool.false_or, Bool.and_eq_true] at this
        exact .inr this
    · rcases List.mem_cons.1 h2 with e2 | m2
      · cases e2
        have := h.1 _ m1
        simp only [Nat.beq_refl, Bool.not_true, Bool.false_or, Bool.and_eq_true] at this
        exact .inr ⟨this.2, this.1⟩
      · exact fresh2_inj h.2 m1 m2
theorem fresh2_rw {H : List (Nat × HB)} {l : List (Nat × Nat)} {i i' j : Nat} {k : HB} (h : fresh2 H l = true) (hg : (ofP H).get i = some k) (hk : k.rw = true ∨ ∃ a c r, k = ⟨.big a c, r⟩) (h1 : (i, j) ∈ l) (h2 : (i', j) ∈ l) : i = i' := by
  rcases fresh2_inj h h1 h2 with h3 | ⟨h3, _⟩
  · exact h3
  · exfalso
    unfold roB at h3
    rw [hg] at h3
    rcases hk with hk | ⟨a, c, r, rfl⟩
    · obtain ⟨k1, k2⟩ := k
      simp only at hk; subst hk
      cases k1 <;> cases h3
    · cases h3

def matchSt (T : Tpl) (σ : Sub) (S : St) : Bool :=
  Nat.beq T.nt S.nt && T.tm.all (fun p => match S.tmps.get p.1 with
    | some v => cA σ p.2 v
    | none => false) && T.H.all (fun p => match lookN σ.N p.1 with
    | some j => match S.H.get j with
      | some k => cHB σ p.2 k
      | none => false
    | none => false) && fresh2 T.H σ.N && σ.N.all (fun p => Nat.blt p.1 T.nl) && Nat.ble T.nl 1000000007 && S.df.isEmpty

abbrev GP := (Nat → Int) → (Nat → Bool) → (Nat → ByteArray) → (Nat → Value) → (Nat → Int → Int → Int) → Prop
def GP.at (J : GP) (ρ : Env) : Prop := J ρ.I ρ.B ρ.S ρ.V ρ.F
theorem GP.mono {J : GP} {ρ ρ' : Env} (h : ρ.Le ρ') (j : J.at ρ) : J.at ρ' := by
  unfold GP.at at *; rw [h.i, h.b, h.s, h.v, h.f]; exact j
theorem GP.mono' {J : GP} {ρ ρ' : Env} (h : ρ.Le ρ') (j : J.at ρ') : J.at ρ := by
  unfold GP.at at *; rw [h.i, h.b, h.s, h.v, h.f] at j; exact j

theorem match_ok {T : Tpl} {σ : Sub} {S : St} {β : Base} {ρ : Env} {a : Act} {w : World} (h : matchSt T σ S = true) (hG : GP.at β.G (σ.app ρ)) (hcs : CRel (σ.app ρ) T.cs) (r : SRel β ρ S a w) (todo : List Item) :
    SRel β (σ.app ρ) (T.st todo) a w := by
  simp only [matchSt, Bool.and_eq_true, List.all_eq_true] at h
  obtain ⟨⟨⟨⟨⟨⟨h1, h2⟩, h3⟩, h4⟩, h5⟩, h6⟩, hdf⟩ := h
  have hd : DRel (σ.app ρ) [] a.defers := by
    have := r.d
    rw [List.isEmpty_iff.1 hdf] at this; exact this
  have h6 := Nat.le_of_ble_eq_true h6
  have hlk : ∀ l, lookN σ.N l = lk σ.N l := fun l => by
    cases hn : σ.N with
    | nil => rfl
    | cons p r =>
      have h7 := nat_blt_lt (h5 p (by rw [hn]; exact List.mem_cons_self))
      have h8 : Nat.beq p.1 1000000007 = false := by
        cases hb : Nat.beq p.1 1000000007 with
        | false => rfl
        | true => have := Nat.eq_of_beq_eq_true hb; omega
      obtain ⟨p1, p2⟩ := p
      simp only at h8
      simp only [lookN, h8, cond_false]
  have look : ∀ l k, (ofP T.H).get l = some k → ∃ j k', lk σ.N l = some j ∧ S.H.get j = some k' ∧ cHB σ k k' = true := fun l k hl => by
    have := h3 _ (ofP_mem hl)
    rw [hlk] at this
    split at this
    · rename_i j hj
      split at this
      · rename_i k' hk; exact ⟨j, k', hj, hk, this⟩
      · cases this
    · cases this
  have hN : ∀ l j, lk σ.N l = some j → (σ.app ρ).N l = ρ.N j := fun l j hl => by simp only [Sub.app, hlk, hl]
  refine ⟨hd, r.n.trans (Nat.eq_of_beq_eq_true h1).symm, fun i v hi => ?_, ⟨fun l k hl => ?_, fun l l' k k' hl hl' hr he => ?_, fun l k b hl hr hb => ?_, fun i hi => ?_, fun i hi => ?_, r.h.size, r.h.frame, r.h.tape, r.h.os, r.h.out, hG, ?_⟩, hcs⟩
  · have := h2 _ (ofP_mem hi)
    split at this
    · rename_i u hu
      obtain ⟨x, hx, g⟩ := r.t i u hu
      exact ⟨x, cA_ok _ _ this hx, g⟩
    · cases this
  · obtain ⟨j, k', hj, hk', hc⟩ := look l k hl
    obtain ⟨b, o, hb, ho, hk⟩ := r.h.blk j k' hk'
    simp only [cHB, Bool.and_eq_true] at hc
    refine ⟨b, o, by rw [hN l j hj]; exact hb, ho, cK_ok hc.2 (fun hrw => ?_) hk⟩
    have := hc.1; rw [hrw] at this; exact this
  · obtain ⟨j, k1, hj, hk1, hc⟩ := look l k hl
    obtain ⟨j', k2, hj', hk2, _⟩ := look l' k' hl'
    rw [hN l j hj, hN l' j' hj'] at he
    simp only [cHB, Bool.and_eq_true] at hc
    have hrw := hc.1; rw [hr] at hrw
    obtain rfl := r.h.inj j j' k1 k2 hk1 hk2 hrw he
    exact fresh2_rw h4 hl (.inl hr) (lk_mem hj) (lk_mem hj')
  · obtain ⟨j, k1, hj, hk1, hc⟩ := look l k hl
    rw [hN l j hj] at hb
    simp only [cHB, Bool.and_eq_true] at hc
    have hrw := hc.1; rw [hr] at hrw
    exact r.h.own j k1 b hk1 hrw hb
  · simp only [Sub.app, hlk]
    cases hl : lk σ.N i with
    | none => rfl
    | some j =>
      have h6 := nat_blt_lt (h5 _ (lk_mem hl))
      have h7 : T.nl ≤ i := hi
      simp only at h6
      omega
  · simp only [Sub.app, hlk]
    cases hl : lk σ.N i with
    | none => rfl
    | some j =>
      have h6 := nat_blt_lt (h5 _ (lk_mem hl))
      have h7 : T.nl ≤ i := hi
      simp only at h6
      omega
  · obtain ⟨Fp, hB⟩ := r.h.big
    have bigs : ∀ l k c rw, (ofP T.H).get l = some ⟨.big k c, rw⟩ → ∃ j c' rw', lk σ.N l = some j ∧ S.H.get j = some ⟨.big k c', rw'⟩ ∧ (rw = true → rw' = true) ∧ ∀ x, c'.den ρ = some x → c.den (σ.app ρ) = some x := fun l k c rw hl => by
      obtain ⟨j, hb', hj, hg, hc⟩ := look l _ hl
      obtain ⟨k', r'⟩ := hb'
      simp only [cHB, Bool.and_eq_true] at hc
      obtain ⟨q1, q2⟩ := hc
      obtain ⟨c', rfl, hd⟩ := cK_big q2
      exact ⟨j, c', r', hj, hg, fun hr => by rw [hr] at q1; exact q1, fun x hx => hd x hx⟩
    refine ⟨_, hB.move (fun l => (lk σ.N l).getD 0) (fun l k c rw hl => ?_) (fun _ _ _ _ _ _ _ => rfl) (fun l l' k c rw h' hl hl' hne => ?_)⟩
    · obtain ⟨j, c', rw', hj, hg, h8, hd⟩ := bigs l k c rw hl
      exact ⟨c', rw', by rw [hj]; exact hg, h8, by rw [hj]; exact hN l j hj, hd⟩
    · obtain ⟨j, c', rw', hj, hg, _, _⟩ := bigs l k c rw hl
      obtain ⟨j', hb2, hj', hg', _⟩ := look l' h' hl'
      have hjj : j ≠ j' := fun e => by subst e; exact hne (fresh2_rw h4 hl (.inr ⟨_, _, _, rfl⟩) (lk_mem hj) (lk_mem hj'))
      refine ⟨fun y hy => ?_, fun _ => by rw [hj, hj']; exact hjj⟩
      rw [hN l' j' hj']
      rw [hj] at hy
      exact (hB.apart _ _ _ _ _ _ hg hg' hjj y hy).1

section
variable (g : Gen)
def fTm (T : List (Nat × AVal)) (S : St) (σ : Sub) : Sub :=
  match T with
  | [] => σ
  | (i, p) :: r => fTm r S (match S.tmps.get i with
    | some v => fA g p v σ
    | none => σ)
def fH (T : List (Nat × HB)) (S : St) (σ : Sub) : Sub :=
  match T with
  | [] => σ
  | (i, p) :: r => fH r S (match lk σ.N i with
    | some j => match S.H.get j with
      | some k => fK g p.k k.k σ
      | none => σ
    | none => σ)
def findSub (T : Tpl) (S : St) : Sub := fH g T.H S (fTm g T.tm S ⟨[], [], [], [], []⟩)
end

def lenL {α : Type} : List α → Nat
  | [] => 0
  | _ :: r => lenL r + 1
def tryT (g : Gen) : List Tpl → Nat → St → Option (Nat × Sub)
  | [], _, _ => none
  | T :: r, q, S =>
    let σ := findSub g T S
    cond (Nat.beq (lenL S.todo) T.dep && matchSt T σ S) (some (q, σ)) (tryT g r (q + 1) S)
theorem tryT_ok {g : Gen} : ∀ {Ts : List Tpl} {n q : Nat} {σ : Sub} {S : St}, tryT g Ts n S = some (q, σ) → ∃ T, n ≤ q ∧ Ts[q - n]? = some T ∧ matchSt T σ S = true
  | T :: r, n, q, σ, S, h => by
    simp only [tryT] at h
    cases hb : (Nat.beq (lenL S.todo) T.dep && matchSt T (findSub g T S) S) with
    | true =>
      rw [hb] at h; cases h
      simp only [Bool.and_eq_true] at hb
      exact ⟨T, Nat.le_refl _, by simp, hb.2⟩
    | false =>
      rw [hb] at h
      obtain ⟨T', h1, h2, h3⟩ := tryT_ok (Ts := r) h
      refine ⟨T', by omega, ?_, h3⟩
      rw [show q - n = (q - (n + 1)) + 1 by omega]; simpa using h2

inductive LS where
  | ret (v : AVal) (cs : Cs)
  | next (q : Nat) (todo : List Item) (cs : Cs) (σ : Sub)
  /-- where the machine stood: it must be shown that it never comes so -/
  | stop (cs : Cs)
  | bad
def sumL (g : Gen) (Ts : List Tpl) : Leaf → Option LS
  | .stop cs => cond (dead cs) none (some (.stop cs))
  | .ret v _ _ cs => cond (dead cs) none (some (.ret v cs))
  | .pause S => cond (dead S.cs) none (match tryT g Ts 0 S with
    | some (q, σ) => some (.next q S.todo S.cs σ)
    | none => some .bad)

/-- What an end, told in short, is good for: it answers so; or it is at that head, where one goes on so. -/
def SumGood (P : Program) (β : Base) (f : FuncId) (Q : Value → Prop) (Ts : List Tpl) (ρ : Env) : LS → Prop
  | .ret v cs => ∀ ρ', ρ.Le ρ' → CRel ρ' cs → ∀ x, v.den ρ' = some x → Q x
  | .next q todo cs σ => ∀ ρ', ρ.Le ρ' → CRel ρ' cs → ∀ T, Ts[q]? = some T → GP.at β.G ρ' → GP.at β.G (σ.app ρ') ∧ CRel (σ.app ρ') T.cs ∧
      ∀ a w, SRel β (σ.app ρ') (T.st todo) a w → Goes P f (fun v w' => Q v ∧ Framed β.w0 w') todo a w
  | .stop cs => Dead ρ cs
  | .bad => False
theorem sum_good {P : Program} {β : Base} {f : FuncId} {Q : Value → Prop} {g : Gen} {Ts : List Tpl} {ρ : Env} (hown : β.own = noO) {l : Leaf} (h : ∀ s, sumL g Ts l = some s → SumGood P β f Q Ts ρ s) :
    Good P β ρ f (fun v w' => Q v ∧ Framed β.w0 w') l := by
  cases l with
  | stop cs =>
    cases hd : dead cs with
    | true => exact dead_ok hd
    | false => exact h (.stop cs) (by simp [sumL, hd])
  | ret v H nl cs =>
    intro ρ' w' x hle hx hr hc
    cases hd : dead cs with
    | true => exact (dead_ok (ρ := ρ') hd ρ' (Env.Le.refl ρ') hc).elim
    | false =>
      refine ⟨h (.ret v cs) (by simp [sumL, hd]) ρ' hle hc x hx, ?_⟩
      exact ⟨hr.size, fun b hb => hr.frame b hb (by rw [hown]; exact id), hr.tape, hr.os, hr.out⟩
  | pause S =>
    intro ρ' a w hle hr
    cases hd : dead S.cs with
    | true => exact (dead_ok (ρ := ρ') hd ρ' (Env.Le.refl ρ') hr.c).elim
    | false =>
      cases ht : tryT g Ts 0 S with
      | none => exact (h .bad (by simp [sumL, hd, ht])).elim
      | some p =>
        obtain ⟨q, σ⟩ := p
        obtain ⟨T, _, hT, hm⟩ := tryT_ok ht
        have hs := h (.next q S.todo S.cs σ) (by simp [sumL, hd, ht]) ρ' hle hr.c T (by simpa using hT) hr.h.g
        exact hs.2.2 a w (match_ok hm hs.1 hs.2.1 hr S.todo)

section
variable {P : Program} {β : Base} {f : FuncId} {Q : Value → Prop}
theorem sums_all {g : Gen} {Ts : List Tpl} {ls : List Leaf} {sums : List LS} {ρ : Env} (hown : β.own = noO) (h : ls.filterMap (sumL g Ts) = sums) (hs : ∀ s ∈ sums, SumGood P β f Q Ts ρ s) : ∀ l ∈ ls, Good P β ρ f (fun v w' => Q v ∧ Framed β.w0 w') l :=
  fun _ hl => sum_good hown fun s e => hs s (h ▸ List.mem_filterMap.2 ⟨_, hl, e⟩)

/-- A round of a loop, told in short, is good for the whole loop. -/
theorem loop_goes (hc : NoCount P) {E : Exts} (hE : ExtOk P E) {sp : CallF} (hsp : CallOk P β sp) (hm : P.follows .mixedOrders = true) (hown : β.own = noO) {g : Gen} {pl : PL} {Ts : List Tpl} {T : Tpl} {b : Code} {k : List Item} {n : Nat} {sums : List LS}
    (hrun : (run P E sp n pl f (T.st (.code b :: .inLoop b :: k))).map (·.filterMap (sumL g Ts)) = some sums) (J : GP) (μ : Env → Nat)
    (hs : ∀ ρ, J.at ρ → CRel ρ T.cs → GP.at β.G ρ → (∀ ρ', μ ρ' < μ ρ → J.at ρ' → ∀ todo a w, todo = .inLoop b :: k ∨ todo = .code (.loop b) :: k → SRel β ρ' (T.st todo) a w → Goes P f (fun v w' => Q v ∧ Framed β.w0 w') todo a w) → ∀ s ∈ sums, SumGood P β f Q Ts ρ s) :
    ∀ ρ, J.at ρ → ∀ todo a w, todo = .inLoop b :: k ∨ todo = .code (.loop b) :: k → SRel β ρ (T.st todo) a w → Goes P f (fun v w' => Q v ∧ Framed β.w0 w') todo a w := by
  obtain ⟨ls, hls, hsum⟩ := Option.map_eq_some_iff.1 hrun
  suffices H : ∀ N ρ, μ ρ = N → J.at ρ → ∀ todo a w, todo = .inLoop b :: k ∨ todo = .code (.loop b) :: k → SRel β ρ (T.st todo) a w → Goes P f (fun v w' => Q v ∧ Framed β.w0 w') todo a w from fun ρ => H _ ρ rfl
  intro N
  induction N using Nat.strongRecOn with
  | _ N ih =>
    intro ρ hN hJ todo a w htd r
    have key : Goes P f (fun v w' => Q v ∧ Framed β.w0 w') (.code b :: .inLoop b :: k) a w := by
      refine run_sound hc hE hsp hm n pl f _ ls ρ a w _ hls ⟨r.d, r.n, r.t, r.h, r.c⟩ (sums_all hown hsum (hs ρ hJ r.c r.h.g fun ρ' hlt hJ' todo' a' w' ht' r' => ?_))
      exact ih (μ ρ') (by omega) ρ' rfl hJ' todo' a' w' ht' r'
    rcases htd with rfl | rfl
    · exact Goes.one (fun cs => step_inLoop) key
    · exact Goes.one (fun cs => step_loop) key

/-- A call, told in short. -/
theorem calls_sums (hc : NoCount P) {E : Exts} (hE : ExtOk P E) {sp : CallF} (hsp : CallOk P β sp) (hm : P.follows .mixedOrders = true) (hown : β.own = noO) {g : Gen} {pl : PL} {Ts : List Tpl} {n : Nat} {fn : Func} {c : Code} {args : List AVal} {xs : List Value} {H : Heap} {nl : Nat} {cs : Cs} {ρ : Env} {w : World} {sums : List LS}
    (hf : P.funcs[f]? = some fn) (hb : fn.body = some c) (hrun : (run P E sp n pl f (entry fn c args H nl cs)).map (·.filterMap (sumL g Ts)) = some sums) (hx : AVal.denL ρ args = some xs) (hr : HRel β ρ H nl w) (hcs : CRel ρ cs)
    (hs : ∀ s ∈ sums, SumGood P β f Q Ts ρ s) : Calls P f xs.toArray w (fun e w' => ∃ v, e = .returned v ∧ Q v ∧ Framed β.w0 w') := by
  obtain ⟨ls, hls, hsum⟩ := Option.map_eq_some_iff.1 hrun
  exact calls_of_goes hf hb (run_sound hc hE hsp hm n pl f _ ls ρ _ w _ hls (entry_ok hx hr hcs) (sums_all hown hsum hs))
end

/-- All the heads of loops in a body, with what comes behind them. -/
def loopsOf : Code → List Item → List (Code × List Item)
  | .seq a b, k => loopsOf a (.code b :: k) ++ loopsOf b k
  | .cond _ a b, k => loopsOf a k ++ loopsOf b k
  | .block id b, k => loopsOf b (.inBlock id :: k)
  | .scope b, k => loopsOf b (.inScope b :: k)
  | .loop b, k => (b, k) :: loopsOf b (.inLoop b :: k)
  | _, _ => []

end Go.Vm
end

/-
  A machine for abstract states over the model (part 21): what is known of functions, with memory; rows that came in.
-/
section
namespace Go.Vm

abbrev SpG := List AVal → Heap → Nat → Cs → Option (List Leaf)
def SpGOk (P : Program) (β : Base) (g : FuncId) (F : SpG) : Prop := ∀ args H nl cs ls ρ w xs, F args H nl cs = some ls → AVal.denL ρ args = some xs → HRel β ρ H nl w → CRel ρ cs →
  Calls P g xs.toArray w (fun e w' => ∃ v, e = .returned v ∧ ∃ u H' nl' cs' ρ', Leaf.ret u H' nl' cs' ∈ ls ∧ ρ.Le ρ' ∧ u.den ρ' = some v ∧ HRel β ρ' H' nl' w' ∧ CRel ρ' cs')
/-- Functions, and operations. -/
def spLH (L : List (FuncId × SpG)) (hk : OpF) : CallF := ⟨fun g args H nl cs => (match lk L g with
  | some F => F args H nl cs
  | none => none), hk⟩
def spL (L : List (FuncId × SpG)) : CallF := spLH L noOp
theorem spLH_ok {P : Program} {β : Base} {L : List (FuncId × SpG)} {hk : OpF} (h : ∀ p ∈ L, SpGOk P β p.1 p.2) (g : HookOk P β hk) : CallOk P β (spLH L hk) := by
  refine ⟨?_, g⟩
  intro g args H nl cs ls ρ w xs hr hx hh hc _
  simp only [spLH] at hr
  split at hr
  · rename_i F hF
    exact h _ (lk_mem hF) args H nl cs ls ρ w xs hr hx hh hc
  · cases hr
theorem spL_ok {P : Program} {β : Base} {L : List (FuncId × SpG)} (h : ∀ p ∈ L, SpGOk P β p.1 p.2) : CallOk P β (spL L) := spLH_ok h noOp_ok
/-- What answers out of its arguments alone. -/
def spA (F : SpecF) : SpG := fun args H nl cs => (F args).map fun alts => alts.map fun u => Leaf.ret u.1 H nl (u.2 ++ cs)
theorem spA_ok {P : Program} {β : Base} {g : FuncId} {F : SpecF} (h : SpecOk P g F) : SpGOk P β g (spA F) := by
  intro args H nl cs ls ρ w xs hr hx hh hc
  obtain ⟨alts, ha, rfl⟩ := Option.map_eq_some_iff.1 hr
  refine (h args alts ρ w xs ha hx).mono fun e w' ⟨v, hv, hf, u, hu, hd, hcu⟩ => ⟨v, hv, u.1, H, nl, u.2 ++ cs, ρ, List.mem_map.2 ⟨u, hu, rfl⟩, Env.Le.refl ρ, hd, hh.framed hf, fun q hq => ?_⟩
  rcases List.mem_append.1 hq with hq | hq
  · exact hcu q hq
  · exact hc q hq
/-- A value, and memory as it was. -/
theorem spV_ok {P : Program} {β : Base} {g : FuncId} {xs : List Value} {ρ : Env} {w : World} {H : Heap} {nl : Nat} {cs : Cs} {u : AVal} {x : Value}
    (h : Calls P g xs.toArray w (fun e w' => e = .returned x ∧ Framed w w')) (hu : u.den ρ = some x) (hh : HRel β ρ H nl w) (hc : CRel ρ cs) :
    Calls P g xs.toArray w (fun e w' => ∃ v, e = .returned v ∧ ∃ u' H' nl' cs' ρ', Leaf.ret u' H' nl' cs' ∈ [Leaf.ret u H nl cs] ∧ ρ.Le ρ' ∧ u'.den ρ' = some v ∧ HRel β ρ' H' nl' w' ∧ CRel ρ' cs') :=
  h.mono fun _ _ ⟨he, hf⟩ => ⟨x, he, u, H, nl, cs, ρ, List.mem_cons_self, Env.Le.refl ρ, hu, hh.framed hf, hc⟩

/-- No argument, true. -/
def spTrue : SpG := fun args H nl cs => match args with
  | [] => some [.ret (.bool (.lit true)) H nl cs]
  | _ => none
theorem spTrue_ok {P : Program} {β : Base} {g : FuncId} (h : ∀ w, Calls P g #[] w (fun e w' => e = .returned (.bool true) ∧ Framed w w')) : SpGOk P β g spTrue := by
  intro args H nl cs ls ρ w xs hr hx hh hc
  unfold spTrue at hr
  split at hr
  · cases hr; cases hx
    exact spV_ok (h w) rfl hh hc
  · cases hr
/-- One number, two numbers: a number under a function's name. -/
def spI1 (k : Nat) : SpG := fun args H nl cs => match args with
  | [.int .i64 a] => some [.ret (.int .i64 (.fn k a (.lit 0))) H nl cs]
  | _ => none
def spI2 (k : Nat) : SpG := fun args H nl cs => match args with
  | [.int .i64 a, .int .i64 b] => some [.ret (.int .i64 (.fn k a b)) H nl cs]
  | _ => none
theorem spI1_ok {P : Program} {β : Base} {g : FuncId} {k : Nat} {f : Int → Int} (h : ∀ w x, Calls P g #[.int .i64 x] w (fun e w' => e = .returned (.int .i64 (f x)) ∧ Framed w w')) (hG : ∀ I B S V F, β.G I B S V F → ∀ x, F k x 0 = f x) : SpGOk P β g (spI1 k) := by
  intro args H nl cs ls ρ w xs hr hx hh hc
  unfold spI1 at hr
  split at hr
  · cases hr
    simp only [AVal.denL, AVal.den] at hx
    rename_i a
    cases ha : a.den ρ with
    | none => rw [ha] at hx; cases hx
    | some y =>
      rw [ha] at hx; cases hx
      exact spV_ok (h w y) (by simp only [AVal.den, IT.den, ha, hG _ _ _ _ _ hh.g]; rfl) hh hc
  · cases hr
theorem spI2_ok {P : Program} {β : Base} {g : FuncId} {k : Nat} {f : Int → Int → Int} (h : ∀ w x y, Calls P g #[.int .i64 x, .int .i64 y] w (fun e w' => e = .returned (.int .i64 (f x y)) ∧ Framed w w')) (hG : ∀ I B S V F, β.G I B S V F → F k = f) : SpGOk P β g (spI2 k) := by
  intro args H nl cs ls ρ w xs hr hx hh hc
  unfold spI2 at hr
  split at hr
  · cases hr
    simp only [AVal.denL, AVal.den] at hx
    rename_i a b
    cases ha : a.den ρ with
    | none => rw [ha] at hx; cases hx
    | some y =>
      cases hb : b.den ρ with
      | none => rw [ha, hb] at hx; cases hx
      | some z =>
        rw [ha, hb] at hx; cases hx
        exact spV_ok (h w y z) (by simp only [AVal.den, IT.den, ha, hb, hG _ _ _ _ _ hh.g]; rfl) hh hc
  · cases hr

-- ROWS THAT CAME IN
structure RowAt (w : World) (b o : Nat) (ks : List IntKind) (m : Nat) (v : Value) : Prop where
  row : ∃ c fr el xs, w.heap[b]? = some (.cells c el fr) ∧ aggCells v = some xs ∧ o ≤ c.size ∧ xs <+: c.toList.drop o ∧ Typed ks m xs
theorem RowAt.framed {w w' : World} {b o : Nat} {ks : List IntKind} {m : Nat} {v : Value} (h : RowAt w b o ks m v) (f : Framed w w') : RowAt w' b o ks m v := by
  obtain ⟨c, fr, el, xs, h1, h2⟩ := h.row
  exact ⟨c, fr, el, xs, by rw [f.frame b (Array.getElem?_eq_some_iff.1 h1).1]; exact h1, h2⟩
theorem RowAt.rel {w : World} {b o : Nat} {ks : List IntKind} {m : Nat} {v : Value} (h : RowAt w b o ks m v) {ρ : Env} {a : Nat} {n off : IT} (hv : ρ.V a = v) (hn : n.den ρ = some (m : Int)) (ho : off.den ρ = some (o : Int)) (el : TypeId) :
    ∃ ob, w.heap[b]? = some ob ∧ (ABlk.arr (.var a) ks el n off none).rel ρ false ob := by
  obtain ⟨c, fr, el', xs, h1, h2, h3, h4, h5⟩ := h.row
  exact ⟨_, h1, xs, c, fr, el', m, o, rfl, (fun h => by cases h), by simp only [AT.den, hv, h2], ho, ⟨h3, h4⟩, hn, h5, trivial, (fun h => by cases h)⟩
/-- One row, whose block is named 0, and nothing else. -/
theorem HRel.row {w : World} {ρ : Env} {b o : Nat} {ks : List IntKind} {m : Nat} {a : Nat} {n off : IT} {el : TypeId} {G : (Nat → Int) → (Nat → Bool) → (Nat → ByteArray) → (Nat → Value) → (Nat → Int → Int → Int) → Prop}
    (h : RowAt w b o ks m (ρ.V a)) (hn : n.den ρ = some (m : Int)) (ho : off.den ρ = some (o : Int)) (hN : ∀ i, ρ.N i = if i = 0 then some b else none) (hG : G ρ.I ρ.B ρ.S ρ.V ρ.F) (hTT : ∀ i, ρ.T i = none := by exact fun _ => rfl) :
    HRel ⟨w, noO, G⟩ ρ (ofP [(0, ⟨.arr (.var a) ks el n off none, false⟩)]) 1 w := by
  have one : ∀ l k, (ofP [(0, (⟨.arr (.var a) ks el n off none, false⟩ : HB))]).get l = some k → l = 0 ∧ k = ⟨.arr (.var a) ks el n off none, false⟩ := fun l k hl => by
    have := ofP_mem hl
    rcases List.mem_cons.1 this with e | h
    · cases e; exact ⟨rfl, rfl⟩
    · cases h
  refine ⟨fun l k hl => ?_, fun l l' k k' hl _ hr _ => ?_, fun l k b' hl hr => ?_, fun i hi => ?_, fun i _ => hTT i, Nat.le_refl _, fun _ _ _ => rfl, rfl, rfl, rfl, hG, BigAt.none fun l k hl => by obtain ⟨_, rfl⟩ := one l k hl; rfl⟩
  · obtain ⟨rfl, rfl⟩ := one l k hl
    obtain ⟨ob, h1, h2⟩ := h.rel rfl hn ho el
    exact ⟨b, ob, by rw [hN]; rfl, h1, h2⟩
  · obtain ⟨_, rfl⟩ := one l k hl; cases hr
  · obtain ⟨_, rfl⟩ := one l k hl; cases hr
  · rw [hN, if_neg (by omega)]

/-- An argument that is a row as it came in: how many. -/
def rowArg (H : Heap) (x : AVal) (a : Nat) (ks : List IntKind) : Option IT :=
  match x with
  | .slice l o n _ => match H.get l with
    | some ⟨.arr (.var a') ks' _ n' o' _, _⟩ => cond (Nat.beq a a' && decide (ks = ks') && IT.beq n n' && IT.beq o o') (some n) none
    | _ => none
  | _ => none
theorem rowArg_ok {β : Base} {ρ : Env} {H : Heap} {nl : Nat} {w : World} {x : AVal} {xv : Value} {a : Nat} {ks : List IntKind} {n : IT} (h : rowArg H x a ks = some n) (hx : x.den ρ = some xv) (hr : HRel β ρ H nl w) :
    ∃ b o m cap : Nat, xv = .slice (some ⟨b, o, none⟩) m cap ∧ n.den ρ = some (m : Int) ∧ RowAt w b o ks m (ρ.V a) := by
  unfold rowArg at h
  split at h
  · rename_i l o n1 c
    split at h
    · rename_i a' ks' e n' o' cp rw hg
      cases hb : (Nat.beq a a' && decide (ks = ks') && IT.beq n1 n' && IT.beq o o') with
      | false => rw [hb] at h; cases h
      | true =>
        rw [hb] at h; cases h
        simp only [Bool.and_eq_true, decide_eq_true_eq] at hb
        obtain ⟨⟨⟨h1, rfl⟩, h2⟩, h3⟩ := hb
        have h1 := Nat.eq_of_beq_eq_true h1
        have h2 := IT.beq_eq h2
        have h3 := IT.beq_eq h3
        subst h1; subst h2; subst h3
        obtain ⟨b, o1, m, cap, rfl, hN, ho, hn, _⟩ := den_slice hx
        obtain ⟨b', ob, hb', hob, xs, c1, fr, el, m', st, rfl, _, hd, hst, ⟨h4, h5⟩, hn', hty, _, _⟩ := hr.blk l _ hg
        rw [hN] at hb'; cases hb'
        have e1 : m' = m := by have := hn'.symm.trans hn; exact Int.ofNat.inj (Option.some.inj this)
        have e2 : st = o1 := by have := hst.symm.trans ho; exact Int.ofNat.inj (Option.some.inj this)
        subst e1; subst e2
        exact ⟨b, st, m', cap, rfl, hn, c1, fr, el, xs, hob, hd, h4, h5, hty⟩
    · cases h
  · cases h

-- CONDITIONS, ONE BY ONE
theorem CRel_cons {ρ : Env} {t : BT} {b : Bool} {cs : Cs} : CRel ρ ((t, b) :: cs) ↔ t.den ρ = some b ∧ CRel ρ cs :=
  ⟨fun h => ⟨h _ List.mem_cons_self, fun p hp => h p (List.mem_cons_of_mem _ hp)⟩, fun h => h.2.cons h.1⟩
theorem CRel_nil {ρ : Env} : CRel ρ [] ↔ True := ⟨fun _ => trivial, fun _ _ h => by cases h⟩

end Go.Vm
end
