/-
  A machine for abstract states over the model (part 22): calls at one known state; a long walk cut into short ones.
-/
import Derived.Test.YtgiomdniafpjnaaGreatDoorVm21
section
namespace Go.Vm

def optB {α : Type} (f : α → α → Bool) : Option α → Option α → Bool
  | none, none => true
  | some a, some b => f a b
  | _, _ => false
theorem optB_eq {α : Type} {f : α → α → Bool} (hf : ∀ {a b}, f a b = true → a = b) : ∀ {a b : Option α}, optB f a b = true → a = b
  | none, none, _ => rfl
  | some _, some _, h => by rw [hf h]
  | none, some _, h => by cases h
  | some _, none, h => by cases h
def prB (a b : Nat × Nat) : Bool := Nat.beq a.1 b.1 && Nat.beq a.2 b.2
theorem prB_eq {a b : Nat × Nat} (h : prB a b = true) : a = b := by
  simp only [prB, Bool.and_eq_true] at h
  exact Prod.ext (Nat.eq_of_beq_eq_true h.1) (Nat.eq_of_beq_eq_true h.2)
def esB : List (AVal × AVal × Nat) → List (AVal × AVal × Nat) → Bool
  | [], [] => true
  | (a, b, n) :: r, (a', b', n') :: r' => AVal.beq a a' && AVal.beq b b' && Nat.beq n n' && esB r r'
  | _, _ => false
theorem esB_eq : ∀ {a b : List (AVal × AVal × Nat)}, esB a b = true → a = b
  | [], [], _ => rfl
  | (a, b, n) :: r, (a', b', n') :: r', h => by
    simp only [esB, Bool.and_eq_true] at h
    obtain ⟨⟨⟨h1, h2⟩, h3⟩, h4⟩ := h
    rw [AVal.beq_eq _ _ h1, AVal.beq_eq _ _ h2, Nat.eq_of_beq_eq_true h3, esB_eq h4]
  | [], _ :: _, h => by cases h
  | _ :: _, [], h => by cases h
def ABlk.beq : ABlk → ABlk → Bool
  | .arr t ks e n o cp, .arr t' ks' e' n' o' cp' => AT.beq t t' && decide (ks = ks') && Nat.beq e e' && IT.beq n n' && IT.beq o o' && optB IT.beq cp cp'
  | .cells v e t, .cells v' e' t' => AVal.beqL v v' && Nat.beq e e' && optB prB t t'
  | .map es c, .map es' c' => esB es es' && Nat.beq c c'
  | _, _ => false
theorem ABlk.beq_eq {a b : ABlk} (h : ABlk.beq a b = true) : a = b := by
  cases a <;> cases b <;> simp only [ABlk.beq, Bool.and_eq_true, decide_eq_true_eq, Bool.false_eq_true] at h
  · obtain ⟨⟨⟨⟨⟨h1, h2⟩, h3⟩, h4⟩, h5⟩, h6⟩ := h
    rw [AT.beq_eq h1, h2, Nat.eq_of_beq_eq_true h3, IT.beq_eq h4, IT.beq_eq h5, optB_eq IT.beq_eq h6]
  · obtain ⟨⟨h1, h2⟩, h3⟩ := h
    rw [AVal.beqL_eq _ _ h1, Nat.eq_of_beq_eq_true h2, optB_eq prB_eq h3]
  · rw [esB_eq h.1, Nat.eq_of_beq_eq_true h.2]
def HB.beq (a b : HB) : Bool := cond a.rw b.rw (!b.rw) && ABlk.beq a.k b.k
theorem HB.beq_eq {a b : HB} (h : HB.beq a b = true) : a = b := by
  obtain ⟨k, r⟩ := a
  obtain ⟨k', r'⟩ := b
  simp only [HB.beq, Bool.and_eq_true] at h
  rw [ABlk.beq_eq h.2]
  cases r <;> cases r' <;> first | rfl | (cases h.1)
/-- All these are there. -/
def hasB (l : List (Nat × HB)) (H : Heap) : Bool := l.all fun p => match H.get p.1 with
  | some y => HB.beq y p.2
  | none => false
theorem hasB_get {l : List (Nat × HB)} {H : Heap} (h : hasB l H = true) {i : Nat} {k : HB} (hk : (ofP l).get i = some k) : H.get i = some k := by
  have h1 := List.all_eq_true.1 h _ (ofP_mem hk)
  simp only at h1
  split at h1
  · rename_i y hy
    rw [hy, HB.beq_eq h1]
  · cases h1
theorem HRel.sub {β : Base} {ρ : Env} {H H2 : Heap} {nl : Nat} {w : World} (h : HRel β ρ H nl w) (hs : ∀ l k, H2.get l = some k → H.get l = some k) : HRel β ρ H2 nl w :=
  ⟨fun l k hl => h.blk l k (hs l k hl), fun l l' k k' hl hl' => h.inj l l' k k' (hs l k hl) (hs l' k' hl'), fun l k b hl => h.own l k b (hs l k hl), h.fresh, h.ownN, h.size, h.frame, h.tape, h.os, h.out, h.g, h.big.imp fun _ hB => hB.sub hs⟩

/-- A call at one state, and what comes of it. -/
structure Clo where
  g : FuncId
  args : List AVal
  h : List (Nat × HB)
  nl : Nat
  u : AVal
  h' : List (Nat × HB)
  nl' : Nat
def Clo.at (x : Clo) (g : FuncId) (args : List AVal) (H : Heap) (nl : Nat) (cs : Cs) : Bool := Nat.beq g x.g && Nat.beq nl x.nl && List.isEmpty cs && AVal.beqL args x.args && hasB x.h H
def Clo.ends (x : Clo) : List Leaf → Bool
  | [.ret u H nl []] => Nat.beq nl x.nl' && AVal.beq u x.u && hasB x.h' H
  | _ => false
theorem Clo.ends_eq {x : Clo} {ls : List Leaf} (h : x.ends ls = true) : ∃ H, ls = [.ret x.u H x.nl' []] ∧ hasB x.h' H = true := by
  unfold Clo.ends at h
  split at h
  · simp only [Bool.and_eq_true] at h
    rw [Nat.eq_of_beq_eq_true h.1.1, AVal.beq_eq _ _ h.1.2]
    exact ⟨_, rfl, h.2⟩
  · cases h
def spCf : List Clo → FuncId → List AVal → Heap → Nat → Cs → Option (List Leaf)
  | [], _, _, _, _, _ => none
  | x :: r, g, args, H, nl, cs => cond (x.at g args H nl cs) (some [.ret x.u (ofP x.h') x.nl' []]) (spCf r g args H nl cs)
def spC (L : List Clo) : CallF := { fn := spCf L }
def CloOk (P : Program) (β : Base) (x : Clo) : Prop := ∀ ρ w xs, AVal.denL ρ x.args = some xs → HRel β ρ (ofP x.h) x.nl w →
  Calls P x.g xs.toArray w (fun e w' => ∃ v, e = .returned v ∧ ∃ ρ', ρ.Le ρ' ∧ x.u.den ρ' = some v ∧ HRel β ρ' (ofP x.h') x.nl' w')
theorem spCf_ok {P : Program} {β : Base} : ∀ {L : List Clo}, (∀ x ∈ L, CloOk P β x) → FnOk P β (spCf L)
  | [], _ => fun _ _ _ _ _ _ _ _ _ h => by cases h
  | x :: r, hL => by
    intro g args H nl cs ls ρ w xs h hx hr hc hd
    simp only [spCf] at h
    cases hb : x.at g args H nl cs with
    | false =>
      rw [hb] at h
      exact spCf_ok (fun y hy => hL y (List.mem_cons_of_mem _ hy)) g args H nl cs ls ρ w xs h hx hr hc hd
    | true =>
      rw [hb] at h
      simp only [cond_true, Option.some.injEq] at h
      simp only [Clo.at, Bool.and_eq_true] at hb
      obtain ⟨⟨⟨⟨b1, b2⟩, b3⟩, b4⟩, b5⟩ := hb
      obtain rfl := Nat.eq_of_beq_eq_true b1
      obtain rfl := Nat.eq_of_beq_eq_true b2
      obtain rfl := AVal.beqL_eq _ _ b4
      have hcs : cs = [] := List.isEmpty_iff.1 b3
      subst hcs
      refine (hL x List.mem_cons_self ρ w xs hx (hr.sub fun _ _ h => hasB_get b5 h)).mono fun e w' ⟨v, hv, ρ', hle, hu, hr'⟩ => ⟨v, hv, x.u, ofP x.h', x.nl', [], ρ', ?_, hle, hu, hr', fun _ hq => by cases hq⟩
      rw [← h]; exact List.mem_cons_self
theorem spC_ok {P : Program} {β : Base} {L : List Clo} (h : ∀ x ∈ L, CloOk P β x) : CallOk P β (spC L) := ⟨spCf_ok h, noOp_ok⟩
theorem clo_of_run {P : Program} {β : Base} (hc : NoCount P) {E : Exts} (hE : ExtOk P E) {sp : CallF} (hsp : CallOk P β sp) (hm : P.follows .mixedOrders = true) {x : Clo} {n : Nat} {fn : Func} {c : Code} (hf : P.funcs[x.g]? = some fn) (hb : fn.body = some c)
    (hrun : (run P E sp n false x.g (entry fn c x.args (ofP x.h) x.nl [])).map x.ends = some true) : CloOk P β x := by
  intro ρ w xs hx hr
  obtain ⟨ls, hls, he⟩ := Option.map_eq_some_iff.1 hrun
  obtain ⟨H, rfl, hb2⟩ := Clo.ends_eq he
  refine run_calls hc hE hsp hm hf hb hls hx hr (fun _ h => by cases h) (R := fun v w' => ∃ ρ', ρ.Le ρ' ∧ x.u.den ρ' = some v ∧ HRel β ρ' (ofP x.h') x.nl' w') (fun l hl => ?_)
  obtain rfl := List.mem_singleton.1 hl
  exact fun ρ' w' v hle hv hr' _ => ⟨ρ', hle, hv, hr'.sub fun _ _ h => hasB_get hb2 h⟩
end Go.Vm
end

/-
  A machine for abstract states over the model (part 23): ends told in short, with their memory: an answer is matched against a template, as a loop's head is.
-/
section
namespace Go.Vm

/-- Where a walk answers, as a state: the answer is its one value. -/
def retSt (v : AVal) (H : Heap) (nl : Nat) (cs : Cs) : St := ⟨[], ofP [(0, v)], 1, H, nl, cs, []⟩
inductive LM where
  | done (q : Nat) (cs : Cs) (σ : Sub)
  | next (q : Nat) (todo : List Item) (cs : Cs) (σ : Sub)
  | stop (cs : Cs)
  | bad
def sumM (g : Gen) (Rs Ts : List Tpl) : Leaf → Option LM
  | .stop cs => cond (dead cs) none (some (.stop cs))
  | .ret v H nl cs => cond (dead cs) none (match tryT g Rs 0 (retSt v H nl cs) with
    | some (q, σ) => some (.done q cs σ)
    | none => some .bad)
  | .pause S => cond (dead S.cs) none (match tryT g Ts 0 S with
    | some (q, σ) => some (.next q S.todo S.cs σ)
    | none => some .bad)
def MGood (P : Program) (β : Base) (f : FuncId) (R : Value → World → Prop) (Rs Ts : List Tpl) (ρ : Env) : LM → Prop
  | .done q cs σ => ∀ ρ', ρ.Le ρ' → CRel ρ' cs → ∀ T, Rs[q]? = some T → GP.at β.G ρ' → GP.at β.G (σ.app ρ') ∧ CRel (σ.app ρ') T.cs ∧
      ∀ x w', SRel β (σ.app ρ') (T.st []) ⟨#[x], []⟩ w' → R x w'
  | .next q todo cs σ => ∀ ρ', ρ.Le ρ' → CRel ρ' cs → ∀ T, Ts[q]? = some T → GP.at β.G ρ' → GP.at β.G (σ.app ρ') ∧ CRel (σ.app ρ') T.cs ∧
      ∀ a w, SRel β (σ.app ρ') (T.st todo) a w → Goes P f R todo a w
  | .stop cs => Dead ρ cs
  | .bad => False
section
variable {P : Program} {β : Base} {f : FuncId} {R : Value → World → Prop}
theorem m_good {g : Gen} {Rs Ts : List Tpl} {ρ : Env} (hown : β.own = noO) {l : Leaf} (h : ∀ s, sumM g Rs Ts l = some s → MGood P β f R Rs Ts ρ s) : Good P β ρ f R l := by
  cases l with
  | stop cs =>
    cases hd : dead cs with
    | true => exact dead_ok hd
    | false => exact h (.stop cs) (by simp [sumM, hd])
  | ret v H nl cs =>
    intro ρ' w' x hle hx hr hc
    cases hd : dead cs with
    | true => exact (dead_ok (ρ := ρ') hd ρ' (Env.Le.refl ρ') hc).elim
    | false =>
      cases ht : tryT g Rs 0 (retSt v H nl cs) with
      | none => exact (h .bad (by simp [sumM, hd, ht])).elim
      | some p =>
        obtain ⟨q, σ⟩ := p
        obtain ⟨T, _, hT, hm⟩ := tryT_ok ht
        have hs := h (.done q cs σ) (by simp [sumM, hd, ht]) ρ' hle hc T (by simpa using hT) hr.g
        have hS : SRel β ρ' (retSt v H nl cs) ⟨#[x], []⟩ w' := ⟨rfl, rfl, fun i u hu => by
          have := ofP_mem hu
          simp only [List.mem_singleton, Prod.mk.injEq] at this
          obtain ⟨rfl, rfl⟩ := this
          exact ⟨x, hx, rfl⟩, hr, hc⟩
        exact hs.2.2 x w' (match_ok hm hs.1 hs.2.1 hS [])
  | pause S =>
    intro ρ' a w hle hr
    cases hd : dead S.cs with
    | true => exact (dead_ok (ρ := ρ') hd ρ' (Env.Le.refl ρ') hr.c).elim
    | false =>
      cases ht : tryT g Ts 0 S with
      | none => exact (h .bad (by simp [sumM, hd, ht])).elim
      | some p =>
        obtain ⟨q, σ⟩ := p
        obtain ⟨T, _, hT, hm⟩ := tryT_ok ht
        have hs := h (.next q S.todo S.cs σ) (by simp [sumM, hd, ht]) ρ' hle hr.c T (by simpa using hT) hr.h.g
        exact hs.2.2 a w (match_ok hm hs.1 hs.2.1 hr S.todo)
theorem m_all {g : Gen} {Rs Ts : List Tpl} {ls : List Leaf} {sums : List LM} {ρ : Env} (hown : β.own = noO) (h : ls.filterMap (sumM g Rs Ts) = sums) (hs : ∀ s ∈ sums, MGood P β f R Rs Ts ρ s) : ∀ l ∈ ls, Good P β ρ f R l :=
  fun _ hl => m_good hown fun s e => hs s (h ▸ List.mem_filterMap.2 ⟨_, hl, e⟩)

/-- A round of a loop, told in short, is good for the whole loop. -/
theorem loop_goesM (hc : NoCount P) {E : Exts} (hE : ExtOk P E) {sp : CallF} (hsp : CallOk P β sp) (hm : P.follows .mixedOrders = true) (hown : β.own = noO) {g : Gen} {pl : PL} {Rs Ts : List Tpl} {T : Tpl} {b : Code} {k : List Item} {n : Nat} {sums : List LM}
    (hrun : (run P E sp n pl f (T.st (.code b :: .inLoop b :: k))).map (·.filterMap (sumM g Rs Ts)) = some sums) (J : GP) (μ : Env → Nat)
    (hs : ∀ ρ, J.at ρ → CRel ρ T.cs → GP.at β.G ρ → (∀ ρ', μ ρ' < μ ρ → J.at ρ' → ∀ todo a w, todo = .inLoop b :: k ∨ todo = .code (.loop b) :: k → SRel β ρ' (T.st todo) a w → Goes P f R todo a w) → ∀ s ∈ sums, MGood P β f R Rs Ts ρ s) :
    ∀ ρ, J.at ρ → ∀ todo a w, todo = .inLoop b :: k ∨ todo = .code (.loop b) :: k → SRel β ρ (T.st todo) a w → Goes P f R todo a w := by
  obtain ⟨ls, hls, hsum⟩ := Option.map_eq_some_iff.1 hrun
  suffices H : ∀ N ρ, μ ρ = N → J.at ρ → ∀ todo a w, todo = .inLoop b :: k ∨ todo = .code (.loop b) :: k → SRel β ρ (T.st todo) a w → Goes P f R todo a w from fun ρ => H _ ρ rfl
  intro N
  induction N using Nat.strongRecOn with
  | _ N ih =>
    intro ρ hN hJ todo a w htd r
    have key : Goes P f R (.code b :: .inLoop b :: k) a w := by
      refine run_sound hc hE hsp hm n pl f _ ls ρ a w _ hls ⟨r.d, r.n, r.t, r.h, r.c⟩ (m_all hown hsum (hs ρ hJ r.c r.h.g fun ρ' hlt hJ' todo' a' w' ht' r' => ?_))
      exact ih (μ ρ') (by omega) ρ' rfl hJ' todo' a' w' ht' r'
    rcases htd with rfl | rfl
    · exact Goes.one (fun cs => step_inLoop) key
    · exact Goes.one (fun cs => step_loop) key

/-- A call, told in short. -/
theorem calls_sumsM (hc : NoCount P) {E : Exts} (hE : ExtOk P E) {sp : CallF} (hsp : CallOk P β sp) (hm : P.follows .mixedOrders = true) (hown : β.own = noO) {g : Gen} {pl : PL} {Rs Ts : List Tpl} {n : Nat} {fn : Func} {c : Code} {args : List AVal} {xs : List Value} {H : Heap} {nl : Nat} {cs : Cs} {ρ : Env} {w : World} {sums : List LM}
    (hf : P.funcs[f]? = some fn) (hb : fn.body = some c) (hrun : (run P E sp n pl f (entry fn c args H nl cs)).map (·.filterMap (sumM g Rs Ts)) = some sums) (hx : AVal.denL ρ args = some xs) (hr : HRel β ρ H nl w) (hcs : CRel ρ cs)
    (hs : ∀ s ∈ sums, MGood P β f R Rs Ts ρ s) : Calls P f xs.toArray w (fun e w' => ∃ v, e = .returned v ∧ R v w') := by
  obtain ⟨ls, hls, hsum⟩ := Option.map_eq_some_iff.1 hrun
  exact calls_of_goes hf hb (run_sound hc hE hsp hm n pl f _ ls ρ _ w _ hls (entry_ok hx hr hcs) (m_all hown hsum hs))
end
end Go.Vm
end

/-
  A machine for abstract states over the model (part 24): a block that a call has laid is taken over.
-/
section
namespace Go.Vm

theorem HRel.adopt {β : Base} {ρ : Env} {H : Heap} {nl : Nat} {w w' : World} (h : HRel β ρ H nl w) (f : Framed w w') {b : Nat} {o : Obj} (hb : w.heap.size ≤ b) (ho : w'.heap[b]? = some o) {k : ABlk} {rw : Bool} (hk : k.rel (ρ.put nl b) rw o) (hnb : k.nb = true := by rfl) :
    HRel β (ρ.put nl b) (H.set nl ⟨k, rw⟩) (nl + 1) w' := by
  have hle : ρ.Le (ρ.put nl b) := Env.le_put (h.fresh nl (Nat.le_refl _))
  have hf := h.framed f
  have hn := hf.num b
  have hne : ∀ l k' c, H.get l = some k' → ρ.N l = some c → c ≠ b := fun l k' c hl hc => by
    have := h.lt hl hc; omega
  refine ⟨fun l k' hl => ?_, fun l l' k1 k2 hl hl' hr he => ?_, fun l k' b' hl hr hb' => ?_, hn.fresh, hn.ownN, hn.size, fun b' hb' hf' => hn.frame b' hb' hf', hn.tape, hn.os, hn.out, hn.g, h.num b |>.big.imp fun Fp hB => hB.set hnb (Env.put_same ..) (fun l k c rw hl _ hy => ?_) (fun y _ hy => f.frame y hy)⟩
  · rcases Tr.get_set hl with ⟨rfl, rfl⟩ | ⟨hne', hl⟩
    · exact ⟨b, o, Env.put_same .., ho, hk⟩
    · exact hn.blk l k' hl
  · rcases Tr.get_set hl with ⟨e1, e2⟩ | ⟨hne1, g1⟩
    · rcases Tr.get_set hl' with ⟨e3, e4⟩ | ⟨hne2, g2⟩
      · rw [e1, e3]
      · obtain ⟨c, o', hc, _⟩ := h.blk l' k2 g2
        rw [e1, Env.put_same, Env.put_other ρ _ hne2, hc] at he
        injection he with he
        exact absurd he.symm (hne l' k2 c g2 hc)
    · rcases Tr.get_set hl' with ⟨e3, e4⟩ | ⟨hne2, g2⟩
      · obtain ⟨c, o', hc, _⟩ := h.blk l k1 g1
        rw [e3, Env.put_same, Env.put_other ρ _ hne1, hc] at he
        injection he with he
        exact absurd he (hne l k1 c g1 hc)
      · exact hn.inj l l' k1 k2 g1 g2 hr he
  · rcases Tr.get_set hl with ⟨rfl, rfl⟩ | ⟨hne', hl⟩
    · rw [Env.put_same] at hb'; cases hb'
      exact .inl (Nat.le_trans h.size hb)
    · exact hn.own l k' b' hl hr hb'
  · obtain ⟨_, _, _, _, e3, _⟩ := hB.ok _ _ _ _ hl
    exact absurd (fam_lt e3 hy) (by omega)
end Go.Vm
end
