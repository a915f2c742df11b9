/-
  A machine for abstract states over the model (part 22): calls at one known state; a long walk cut into short ones.
-/
import Derived.Test.YtpgonpjakllnjaaVm21
section
section
namespace Go.Vm

def optB {α : Type} (f : α → α → Bool) : Option α → Option α → Bool
  | none, none => true
  | some a, some b => f a b
  | _, _ => false
theorem optB_eq {α : Type} {f : α → α → Bool} (hf : ∀ {a b}, f a b = true → a = b) : ∀ {a b : Option α}, optB f a b = true → a = b
  | none, none, _ => rfl
  | some _, some _, h => by rw [hf h]
  | none, some _, h => by cases h
  | some _, none, h => by cases h
def prB (a b : Nat × Nat) : Bool := Nat.beq a.1 b.1 && Nat.beq a.2 b.2
theorem prB_eq {a b : Nat × Nat} (h : prB a b = true) : a = b := by
  simp only [prB, Bool.and_eq_true] at h
  exact Prod.ext (Nat.eq_of_beq_eq_true h.1) (Nat.eq_of_beq_eq_true h.2)
def esB : List (AVal × AVal × Nat) → List (AVal × AVal × Nat) → Bool
  | [], [] => true
  | (a, b, n) :: r, (a', b', n') :: r' => AVal.beq a a' && AVal.beq b b' && Nat.beq n n' && esB r r'
  | _, _ => false
theorem esB_eq : ∀ {a b : List (AVal × AVal × Nat)}, esB a b = true → a = b
  | [], [], _ => rfl
  | (a, b, n) :: r, (a', b', n') :: r', h => by
    simp only [esB, Bool.and_eq_true] at h
    obtain ⟨⟨⟨h1, h2⟩, h3⟩, h4⟩ := h
    rw [AVal.beq_eq _ _ h1, AVal.beq_eq _ _ h2, Nat.eq_of_beq_eq_true h3, esB_eq h4]
  | [], _ :: _, h => by cases h
  | _ :: _, [], h => by cases h
def ABlk.beq : ABlk → ABlk → Bool
  | .arr t ks e n o cp, .arr t' ks' e' n' o' cp' => AT.beq t t' && decide (ks = ks') && Nat.beq e e' && IT.beq n n' && IT.beq o o' && optB IT.beq cp cp'
  | .cells v e t, .cells v' e' t' => AVal.beqL v v' && Nat.beq e e' && optB prB t t'
  | .map es c, .map es' c' => esB es es' && Nat.beq c c'
  | _, _ => false
theorem ABlk.beq_eq {a b : ABlk} (h : ABlk.beq a b = true) : a = b := by
  cases a <;> cases b <;> simp only [ABlk.beq, Bool.and_eq_true, decide_eq_true_eq, Bool.false_eq_true] at h
  · obtain ⟨⟨⟨⟨⟨h1, h2⟩, h3⟩, h4⟩, h5⟩, h6⟩ := h
    rw [AT.beq_eq h1, h2, Nat.eq_of_beq_eq_true h3, IT.beq_eq h4, IT.beq_eq h5, optB_eq IT.beq_eq h6]
  · obtain ⟨⟨h1, h2⟩, h3⟩ := h
    rw [AVal.beqL_eq _ _ h1, Nat.eq_of_beq_eq_true h2, optB_eq prB_eq h3]
  · rw [esB_eq h.1, Nat.eq_of_beq_eq_true h.2]
def HB.beq (a b : HB) : Bool := cond a.rw b.rw (!b.rw) && ABlk.beq a.k b.k
theorem HB.beq_eq {a b : HB} (h : HB.beq a b = true) : a = b := by
  obtain ⟨k, r⟩ := a
  obtain ⟨k', r'⟩ := b
  simp only [HB.beq, Bool.and_eq_true] at h
  rw [ABlk.beq_eq h.2]
  cases r <;> cases r' <;> first | rfl | (cases h.1)
/-- All these are there. -/
def hasB (l : List (Nat × HB)) (H : Heap) : Bool := l.all fun p => match H.get p.1 with
  | some y => HB.beq y p.2
  | none => false
theorem HRel.sub {β : Base} {ρ : Env} {H H2 : Heap} {nl : Nat} {w : World} (h : HRel β ρ H nl w) (hs : ∀ l k, H2.get l = some k → H.get l = some k) : HRel β ρ H2 nl w :=
  ⟨fun l k hl => h.blk l k (hs l k hl), fun l l' k k' hl hl' => h.inj l l' k k' (hs l k hl) (hs l' k' hl'), fun l k b hl => h.own l k b (hs l k hl), h.fresh, h.ownN, h.size, h.frame, h.tape, h.os, h.out, h.g, h.big.imp fun _ hB => hB.sub hs⟩
/-- A call at one state, and what comes of it. -/
structure Clo where
  g : FuncId
  args : List AVal
  h : List (Nat × HB)
  nl : Nat
  u : AVal
  h' : List (Nat × HB)
  nl' : Nat
def Clo.at (x : Clo) (g : FuncId) (args : List AVal) (H : Heap) (nl : Nat) (cs : Cs) : Bool := Nat.beq g x.g && Nat.beq nl x.nl && List.isEmpty cs && AVal.beqL args x.args && hasB x.h H
def Clo.ends (x : Clo) : List Leaf → Bool
  | [.ret u H nl []] => Nat.beq nl x.nl' && AVal.beq u x.u && hasB x.h' H
  | _ => false
end Go.Vm
end

/-
  A machine for abstract states over the model (part 23): ends told in short, with their memory: an answer is matched against a template, as a loop's head is.
-/
section
namespace Go.Vm

/-- Where a walk answers, as a state: the answer is its one value. -/
def retSt (v : AVal) (H : Heap) (nl : Nat) (cs : Cs) : St := ⟨[], ofP [(0, v)], 1, H, nl, cs⟩
inductive LM where
  | done (q : Nat) (cs : Cs) (σ : Sub)
  | next (q : Nat) (todo : List Item) (cs : Cs) (σ : Sub)
  | stop (cs : Cs)
  | bad
section
variable {P : Program} {β : Base} {f : FuncId} {R : Value → World → Prop}
end
end Go.Vm
end

/-
  A machine for abstract states over the model (part 24): a block that a call has laid is taken over.
-/
section
namespace Go.Vm

theorem HRel.adopt {β : Base} {ρ : Env} {H : Heap} {nl : Nat} {w w' : World} (h : HRel β ρ H nl w) (f : Framed w w') {b : Nat} {o : Obj} (hb : w.heap.size ≤ b) (ho : w'.heap[b]? = some o) {k : ABlk} {rw : Bool} (hk : k.rel (ρ.put nl b) rw o) (hnb : k.nb = true := by rfl) :
    HRel β (ρ.put nl b) (H.set nl ⟨k, rw⟩) (nl + 1) w' := by
  have hle : ρ.Le (ρ.put nl b) := Env.le_put (h.fresh nl (Nat.le_refl _))
  have hf := h.framed f
  have hn := hf.num b
  have hne : ∀ l k' c, H.get l = some k' → ρ.N l = some c → c ≠ b := fun l k' c hl hc => by
    have := h.lt hl hc; omega
  refine ⟨fun l k' hl => ?_, fun l l' k1 k2 hl hl' hr he => ?_, fun l k' b' hl hr hb' => ?_, hn.fresh, hn.ownN, hn.size, fun b' hb' hf' => hn.frame b' hb' hf', hn.tape, hn.os, hn.out, hn.g, h.num b |>.big.imp fun Fp hB => hB.set hnb (Env.put_same ..) (fun l k c rw hl _ hy => ?_) (fun y _ hy => f.frame y hy)⟩
  · rcases Tr.get_set hl with ⟨rfl, rfl⟩ | ⟨hne', hl⟩
    · exact ⟨b, o, Env.put_same .., ho, hk⟩
    · exact hn.blk l k' hl
  · rcases Tr.get_set hl with ⟨e1, e2⟩ | ⟨hne1, g1⟩
    · rcases Tr.get_set hl' with ⟨e3, e4⟩ | ⟨hne2, g2⟩
      · rw [e1, e3]
      · obtain ⟨c, o', hc, _⟩ := h.blk l' k2 g2
        rw [e1, Env.put_same, Env.put_other ρ _ hne2, hc] at he
        injection he with he
        exact absurd he.symm (hne l' k2 c g2 hc)
    · rcases Tr.get_set hl' with ⟨e3, e4⟩ | ⟨hne2, g2⟩
      · obtain ⟨c, o', hc, _⟩ := h.blk l k1 g1
        rw [e3, Env.put_same, Env.put_other ρ _ hne1, hc] at he
        injection he with he
        exact absurd he (hne l k1 c g1 hc)
      · exact hn.inj l l' k1 k2 g1 g2 hr he
  · rcases Tr.get_set hl with ⟨rfl, rfl⟩ | ⟨hne', hl⟩
    · rw [Env.put_same] at hb'; cases hb'
      exact .inl (Nat.le_trans h.size hb)
    · exact hn.own l k' b' hl hr hb'
  · obtain ⟨_, _, _, _, e3, _⟩ := hB.ok _ _ _ _ hl
    exact absurd (fam_lt e3 hy) (by omega)
end Go.Vm
end
end

/-
  A machine for abstract states over the model (part 25): rows that a call hands out.
-/
section
section
namespace Go.Vm

/-- A row of numbers that a call has laid and hands out, of so many elements. -/
structure RowOut (w w' : World) (x : Value) (e : TypeId) (ks : List IntKind) (L : List Int) (m : Nat) : Prop where
  fr : Framed w w'
  len : L.length = m * ks.length
  row : ∃ b cap c f, x = .slice (some ⟨b, 0, none⟩) m cap ∧ w.heap.size ≤ b ∧ w'.heap[b]? = some (.cells c e f) ∧ rowOf ks L <+: c.toList ∧ c.size = cap * ks.length ∧ FrOk f c.size
theorem framed_base {β : Base} {ρ : Env} {H : Heap} {nl : Nat} {w' : World} (hown : β.own = []) (h : HRel β ρ H nl w') : Framed β.w0 w' :=
  ⟨h.size, fun b hb => h.frame b hb (fun l hl => by rw [hown] at hl; cases hl), h.tape, h.os, h.out⟩
theorem row_out {β : Base} {ρ : Env} {H : Heap} {nl : Nat} {w' : World} {x : Value} {l j : Nat} {nT c : IT} {e : TypeId} {ks : List IntKind} {L : List Int} {m : Nat} (hown : β.own = []) (h : HRel β ρ H nl w') (hl : H.get l = some ⟨.arr (.code ks c) ks e nT (.lit 0) (some (.nv j)), true⟩)
    (hx : (AVal.slice l (.lit 0) nT (.nv j)).den ρ = some x) (hn : nT.den ρ = some (m : Int)) (hc : c.den ρ = some (encL L)) : RowOut β.w0 w' x e ks L m := by
  obtain ⟨b, o, n, cap, rfl, hN, hoff, hlen, hcap⟩ := den_slice hx
  obtain rfl : o = 0 := by have := Option.some.inj hoff; exact (Int.ofNat.inj this).symm
  obtain rfl : n = m := by have := hlen.symm.trans hn; exact Int.ofNat.inj (Option.some.inj this)
  obtain ⟨b', ob, hb', hob, xs, c0, fr, el, m', st, rfl, hel, hd, hst, ⟨hstc, hp⟩, hn', hty, hroom, hf⟩ := h.blk l _ hl
  rw [hN] at hb'; cases hb'
  obtain rfl : st = 0 := by have := Option.some.inj hst; exact (Int.ofNat.inj this).symm
  have hel := (hel rfl)
  subst hel
  obtain ⟨N0, hN0, hroom⟩ := hroom
  have hc' : cap = N0 := by have := hN0.symm.trans hcap; exact (Int.ofNat.inj (Option.some.inj this)).symm
  subst hc'
  have hmm : m' = n := by have := hn'.symm.trans hlen; exact Int.ofNat.inj (Option.some.inj this)
  subst hmm
  simp only [AT.den, hc, Option.map_some, Option.some.injEq, decL_encL] at hd
  subst hd
  rw [Nat.sub_zero] at hroom
  rw [List.drop_zero] at hp
  refine ⟨framed_base hown h, by have := hty.1; rwa [rowOf_length] at this, b, cap, c0, fr, rfl, ?_, hob, hp, hroom, hf rfl⟩
  rcases h.own l _ b hl rfl hN with h1 | ⟨l', hl', _⟩
  · exact h1
  · rw [hown] at hl'; cases hl'
theorem row_in {β : Base} {ρ : Env} {H : Heap} {nl : Nat} {w w' : World} {x : Value} {nT c : IT} {e : TypeId} {ks : List IntKind} {L : List Int} {m : Nat} (h : HRel β ρ H nl w) (r : RowOut w w' x e ks L m) (hn : nT.den ρ = some (m : Int)) (hc : c.den ρ = some (encL L)) :
    ∃ ρ', ρ.Le ρ' ∧ (AVal.slice (nl + 1) (.lit 0) nT (.nv nl)).den ρ' = some x ∧ HRel β ρ' (H.set (nl + 1) ⟨.arr (.code ks c) ks e nT (.lit 0) (some (.nv nl)), true⟩) (nl + 2) w' := by
  obtain ⟨b, cap, c0, f, rfl, hb, hob, hp, hcs, hf⟩ := r.row
  have h1 := h.num cap
  have hle1 : ρ.Le (ρ.put nl cap) := Env.le_put (h.fresh nl (Nat.le_refl _))
  have hle2 : (ρ.put nl cap).Le ((ρ.put nl cap).put (nl + 1) b) := Env.le_put (h1.fresh _ (Nat.le_refl _))
  have hcapd : (IT.nv nl).den ((ρ.put nl cap).put (nl + 1) b) = some (cap : Int) := by
    have : ((ρ.put nl cap).put (nl + 1) b).N nl = some cap := hle2.n _ _ (Env.put_same ..)
    simp only [IT.den, this]; rfl
  have hrel : (ABlk.arr (.code ks c) ks e nT (.lit 0) (some (.nv nl))).rel ((ρ.put nl cap).put (nl + 1) b) true (.cells c0 e f) := by
    refine ⟨rowOf ks L, c0, f, e, m, 0, rfl, fun _ => rfl, ?_, rfl, ⟨Nat.zero_le _, by rw [List.drop_zero]; exact hp⟩, IT.den_mono (hle1.trans hle2) hn, rowOf_typed r.len, ⟨cap, hcapd, by rw [Nat.sub_zero]; exact hcs⟩, fun _ => hf⟩
    simp only [AT.den, IT.den_mono (hle1.trans hle2) hc, Option.map_some, decL_encL]
  refine ⟨_, hle1.trans hle2, ?_, h1.adopt r.fr hb hob hrel⟩
  have e1 : natOf (nT.den ((ρ.put nl cap).put (nl + 1) b)) = some m := by rw [IT.den_mono (hle1.trans hle2) hn]; rfl
  have e2 : natOf ((IT.nv nl).den ((ρ.put nl cap).put (nl + 1) b)) = some cap := by rw [hcapd]; rfl
  have e0 : natOf ((IT.lit 0).den ((ρ.put nl cap).put (nl + 1) b)) = some 0 := rfl
  have e3 : ((ρ.put nl cap).put (nl + 1) b).N (nl + 1) = some b := Env.put_same ..
  simp only [AVal.den, e0, e1, e2, e3]
-- NAMES THAT A SUBSTITUTION LEAVES
section
variable {σ : Sub} {ρ : Env}
end
end Go.Vm
end

/-
  A machine for abstract states over the model (part 26): rows of texts that a call hands out.
-/
section
namespace Go.Vm

structure TextsOut (w w' : World) (x : Value) (e : TypeId) (L : List ByteArray) : Prop where
  fr : Framed w w'
  row : ∃ b cap c f, x = .slice (some ⟨b, 0, none⟩) L.length cap ∧ w.heap.size ≤ b ∧ w'.heap[b]? = some (.cells c e f) ∧ L.map Value.string <+: c.toList ∧ c.size = cap ∧ FrOk f c.size
end Go.Vm
end

/-
  A machine for abstract states over the model (part 27): loops of a callee that writes blocks of its caller.
-/
section
namespace Go.Vm

theorem match_okO {T : Tpl} {σ : Sub} {S : St} {β : Base} {ρ : Env} {a : Act} {w : World} (h : matchSt T σ S = true) (hown : ∀ l ∈ β.own, lk σ.N l = some l) (hG : GP.at β.G (σ.app ρ)) (hcs : CRel (σ.app ρ) T.cs) (r : SRel β ρ S a w) (todo : List Item) :
    SRel β (σ.app ρ) (T.st todo) a w := by
  simp only [matchSt, Bool.and_eq_true, List.all_eq_true] at h
  obtain ⟨⟨⟨⟨⟨h1, h2⟩, h3⟩, h4⟩, h5⟩, h6⟩ := h
  have h6 := Nat.le_of_ble_eq_true h6
  have hlk : ∀ l, lookN σ.N l = lk σ.N l := fun l => by
    cases hn : σ.N with
    | nil => rfl
    | cons p r =>
      have h7 := nat_blt_lt (h5 p (by rw [hn]; exact List.mem_cons_self))
      have h8 : Nat.beq p.1 1000000007 = false := by
        cases hb : Nat.beq p.1 1000000007 with
        | false => rfl
        | true => have := Nat.eq_of_beq_eq_true hb; omega
      obtain ⟨p1, p2⟩ := p
      simp only at h8
      simp only [lookN, h8, cond_false]
  have look : ∀ l k, (ofP T.H).get l = some k → ∃ j k', lk σ.N l = some j ∧ S.H.get j = some k' ∧ cHB σ k k' = true := fun l k hl => by
    have := h3 _ (ofP_mem hl)
    rw [hlk] at this
    split at this
    · rename_i j hj
      split at this
      · rename_i k' hk; exact ⟨j, k', hj, hk, this⟩
      · cases this
    · cases this
  have hN : ∀ l j, lk σ.N l = some j → (σ.app ρ).N l = ρ.N j := fun l j hl => by simp only [Sub.app, hlk, hl]
  refine ⟨r.d, r.n.trans (Nat.eq_of_beq_eq_true h1).symm, fun i v hi => ?_, ⟨fun l k hl => ?_, fun l l' k k' hl hl' hr he => ?_, fun l k b hl hr hb => ?_, fun i hi => ?_, fun l hl => nat_blt_lt (h5 _ (lk_mem (hown l hl))), r.h.size, fun b hb hf => r.h.frame b hb (fun l hl => by rw [← hN l l (hown l hl)]; exact hf l hl), r.h.tape, r.h.os, r.h.out, hG, ?_⟩, hcs⟩
  · have := h2 _ (ofP_mem hi)
    split at this
    · rename_i u hu
      obtain ⟨x, hx, g⟩ := r.t i u hu
      exact ⟨x, cA_ok _ _ this hx, g⟩
    · cases this
  · obtain ⟨j, k', hj, hk', hc⟩ := look l k hl
    obtain ⟨b, o, hb, ho, hk⟩ := r.h.blk j k' hk'
    simp only [cHB, Bool.and_eq_true] at hc
    refine ⟨b, o, by rw [hN l j hj]; exact hb, ho, cK_ok hc.2 (fun hrw => ?_) hk⟩
    have := hc.1; rw [hrw] at this; exact this
  · obtain ⟨j, k1, hj, hk1, hc⟩ := look l k hl
    obtain ⟨j', k2, hj', hk2, _⟩ := look l' k' hl'
    rw [hN l j hj, hN l' j' hj'] at he
    simp only [cHB, Bool.and_eq_true] at hc
    have hrw := hc.1; rw [hr] at hrw
    obtain rfl := r.h.inj j j' k1 k2 hk1 hk2 hrw he
    exact fresh2_rw h4 hl (.inl hr) (lk_mem hj) (lk_mem hj')
  · obtain ⟨j, k1, hj, hk1, hc⟩ := look l k hl
    rw [hN l j hj] at hb
    simp only [cHB, Bool.and_eq_true] at hc
    have hrw := hc.1; rw [hr] at hrw
    rcases r.h.own j k1 b hk1 hrw hb with h6 | ⟨l', hl', hb'⟩
    · exact .inl h6
    · exact .inr ⟨l', hl', by rw [hN l' l' (hown l' hl')]; exact hb'⟩
  · simp only [Sub.app, hlk]
    cases hl : lk σ.N i with
    | none => rfl
    | some j =>
      have h6 := nat_blt_lt (h5 _ (lk_mem hl))
      have h7 : T.nl ≤ i := hi
      simp only at h6
      omega
  · obtain ⟨Fp, hB⟩ := r.h.big
    have bigs : ∀ l k c rw, (ofP T.H).get l = some ⟨.big k c, rw⟩ → ∃ j c' rw', lk σ.N l = some j ∧ S.H.get j = some ⟨.big k c', rw'⟩ ∧ (rw = true → rw' = true) ∧ ∀ x, c'.den ρ = some x → c.den (σ.app ρ) = some x := fun l k c rw hl => by
      obtain ⟨j, hb', hj, hg, hc⟩ := look l _ hl
      obtain ⟨k', r'⟩ := hb'
      simp only [cHB, Bool.and_eq_true] at hc
      obtain ⟨q1, q2⟩ := hc
      obtain ⟨c', rfl, hd⟩ := cK_big q2
      exact ⟨j, c', r', hj, hg, fun hr => by rw [hr] at q1; exact q1, fun x hx => hd x hx⟩
    refine ⟨_, hB.move (fun l => (lk σ.N l).getD 0) (fun l k c rw hl => ?_) (fun _ _ _ _ _ _ _ => rfl) (fun l l' k c rw h' hl hl' hne => ?_)⟩
    · obtain ⟨j, c', rw', hj, hg, h8, hd⟩ := bigs l k c rw hl
      exact ⟨c', rw', by rw [hj]; exact hg, h8, by rw [hj]; exact hN l j hj, hd⟩
    · obtain ⟨j, c', rw', hj, hg, _, _⟩ := bigs l k c rw hl
      obtain ⟨j', hb2, hj', hg', _⟩ := look l' h' hl'
      have hjj : j ≠ j' := fun e => by subst e; exact hne (fresh2_rw h4 hl (.inr ⟨_, _, _, rfl⟩) (lk_mem hj) (lk_mem hj'))
      refine ⟨fun y hy => ?_, fun _ => by rw [hj, hj']; exact hjj⟩
      rw [hN l' j' hj']
      rw [hj] at hy
      exact (hB.apart _ _ _ _ _ _ hg hg' hjj y hy).1
section
variable (g : Gen)
/-- The labels of L keep their names. -/
def sub0 (L : List Nat) : Sub := ⟨[], [], [], [], L.map fun l => (l, l)⟩
def findSubO (L : List Nat) (T : Tpl) (S : St) : Sub := fH g T.H S (fTm g T.tm S (sub0 L))
end
def tryTO (g : Gen) (L : List Nat) : List Tpl → Nat → St → Option (Nat × Sub)
  | [], _, _ => none
  | T :: r, q, S =>
    let σ := findSubO g L T S
    cond (Nat.beq (lenL S.todo) T.dep && matchSt T σ S) (some (q, σ)) (tryTO g L r (q + 1) S)
theorem tryTO_ok {g : Gen} {L : List Nat} : ∀ {Ts : List Tpl} {n q : Nat} {σ : Sub} {S : St}, tryTO g L Ts n S = some (q, σ) → ∃ T, n ≤ q ∧ Ts[q - n]? = some T ∧ matchSt T σ S = true
  | T :: r, n, q, σ, S, h => by
    simp only [tryTO] at h
    cases hb : (Nat.beq (lenL S.todo) T.dep && matchSt T (findSubO g L T S) S) with
    | true =>
      rw [hb] at h; cases h
      simp only [Bool.and_eq_true] at hb
      exact ⟨T, Nat.le_refl _, by simp, hb.2⟩
    | false =>
      rw [hb] at h
      obtain ⟨T', h1, h2, h3⟩ := tryTO_ok (Ts := r) h
      refine ⟨T', by omega, ?_, h3⟩
      rw [show q - n = (q - (n + 1)) + 1 by omega]; simpa using h2
def sumMO (g : Gen) (L : List Nat) (Rs Ts : List Tpl) : Leaf → Option LM
  | .stop cs => cond (dead cs) none (some (.stop cs))
  | .ret v H nl cs => cond (dead cs) none (match tryTO g L Rs 0 (retSt v H nl cs) with
    | some (q, σ) => some (.done q cs σ)
    | none => some .bad)
  | .pause S => cond (dead S.cs) none (match tryTO g L Ts 0 S with
    | some (q, σ) => some (.next q S.todo S.cs σ)
    | none => some .bad)
def MGoodO (P : Program) (β : Base) (f : FuncId) (R : Value → World → Prop) (Rs Ts : List Tpl) (ρ : Env) : LM → Prop
  | .done q cs σ => (∀ l ∈ β.own, lk σ.N l = some l) ∧ ∀ ρ', ρ.Le ρ' → CRel ρ' cs → ∀ T, Rs[q]? = some T → GP.at β.G ρ' → GP.at β.G (σ.app ρ') ∧ CRel (σ.app ρ') T.cs ∧
      ∀ x w', SRel β (σ.app ρ') (T.st []) ⟨#[x], []⟩ w' → R x w'
  | .next q todo cs σ => (∀ l ∈ β.own, lk σ.N l = some l) ∧ ∀ ρ', ρ.Le ρ' → CRel ρ' cs → ∀ T, Ts[q]? = some T → GP.at β.G ρ' → GP.at β.G (σ.app ρ') ∧ CRel (σ.app ρ') T.cs ∧
      ∀ a w, SRel β (σ.app ρ') (T.st todo) a w → Goes P f R todo a w
  | .stop cs => Dead ρ cs
  | .bad => False
section
variable {P : Program} {β : Base} {f : FuncId} {R : Value → World → Prop}
theorem m_goodO {g : Gen} {L : List Nat} {Rs Ts : List Tpl} {ρ : Env} {l : Leaf} (h : ∀ s, sumMO g L Rs Ts l = some s → MGoodO P β f R Rs Ts ρ s) : Good P β ρ f R l := by
  cases l with
  | stop cs =>
    cases hd : dead cs with
    | true => exact dead_ok hd
    | false => exact h (.stop cs) (by simp [sumMO, hd])
  | ret v H nl cs =>
    intro ρ' w' x hle hx hr hc
    cases hd : dead cs with
    | true => exact (dead_ok (ρ := ρ') hd ρ' (Env.Le.refl ρ') hc).elim
    | false =>
      cases ht : tryTO g L Rs 0 (retSt v H nl cs) with
      | none => exact (h .bad (by simp [sumMO, hd, ht])).elim
      | some p =>
        obtain ⟨q, σ⟩ := p
        obtain ⟨T, _, hT, hm⟩ := tryTO_ok ht
        have hs := h (.done q cs σ) (by simp [sumMO, hd, ht])
        have hs0 := hs.1
        have hs := hs.2 ρ' hle hc T (by simpa using hT) hr.g
        have hS : SRel β ρ' (retSt v H nl cs) ⟨#[x], []⟩ w' := ⟨rfl, rfl, fun i u hu => by
          have := ofP_mem hu
          simp only [List.mem_singleton, Prod.mk.injEq] at this
          obtain ⟨rfl, rfl⟩ := this
          exact ⟨x, hx, rfl⟩, hr, hc⟩
        exact hs.2.2 x w' (match_okO hm hs0 hs.1 hs.2.1 hS [])
  | pause S =>
    intro ρ' a w hle hr
    cases hd : dead S.cs with
    | true => exact (dead_ok (ρ := ρ') hd ρ' (Env.Le.refl ρ') hr.c).elim
    | false =>
      cases ht : tryTO g L Ts 0 S with
      | none => exact (h .bad (by simp [sumMO, hd, ht])).elim
      | some p =>
        obtain ⟨q, σ⟩ := p
        obtain ⟨T, _, hT, hm⟩ := tryTO_ok ht
        have hs := h (.next q S.todo S.cs σ) (by simp [sumMO, hd, ht])
        have hs0 := hs.1
        have hs := hs.2 ρ' hle hr.c T (by simpa using hT) hr.h.g
        exact hs.2.2 a w (match_okO hm hs0 hs.1 hs.2.1 hr S.todo)
theorem m_allO {g : Gen} {L : List Nat} {Rs Ts : List Tpl} {ls : List Leaf} {sums : List LM} {ρ : Env} (h : ls.filterMap (sumMO g L Rs Ts) = sums) (hs : ∀ s ∈ sums, MGoodO P β f R Rs Ts ρ s) : ∀ l ∈ ls, Good P β ρ f R l :=
  fun _ hl => m_goodO fun s e => hs s (h ▸ List.mem_filterMap.2 ⟨_, hl, e⟩)
/-- The same, told by answers alone; where each round is run under what is known there. -/
theorem loop_goesS (hc : NoCount P) {E : Exts} (hE : ExtOk P E) {sp : CallF} (hsp : CallOk P β sp) (hm : P.follows .mixedOrders = true) (hown : β.own = []) {Q : Value → Prop} {g : Gen} {pl : PL} {Ts : List Tpl} {T : Tpl} {b : Code} {k : List Item} {n : Nat} (J : Env → Prop) (μ : Env → Nat)
    (hs : ∀ ρ, J ρ → (∃ w, HRel β ρ (ofP T.H) T.nl w) → CRel ρ T.cs → GP.at β.G ρ → (∀ ρ', μ ρ' < μ ρ → J ρ' → ∀ todo a w, todo = .inLoop b :: k ∨ todo = .code (.loop b) :: k → SRel β ρ' (T.st todo) a w → Goes P f (fun v w' => Q v ∧ Framed β.w0 w') todo a w) →
      ∃ cs' sums, CRel ρ cs' ∧ (run P E sp n pl f ((⟨T.tm, T.nt, T.H, T.nl, cs', T.dep⟩ : Tpl).st (.code b :: .inLoop b :: k))).map (·.filterMap (sumL g Ts)) = some sums ∧ ∀ s ∈ sums, SumGood P β f Q Ts ρ s) :
    ∀ ρ, J ρ → ∀ todo a w, todo = .inLoop b :: k ∨ todo = .code (.loop b) :: k → SRel β ρ (T.st todo) a w → Goes P f (fun v w' => Q v ∧ Framed β.w0 w') todo a w := by
  suffices H : ∀ N ρ, μ ρ = N → J ρ → ∀ todo a w, todo = .inLoop b :: k ∨ todo = .code (.loop b) :: k → SRel β ρ (T.st todo) a w → Goes P f (fun v w' => Q v ∧ Framed β.w0 w') todo a w from fun ρ => H _ ρ rfl
  intro N
  induction N using Nat.strongRecOn with
  | _ N ih =>
    intro ρ hN hJ todo a w htd r
    obtain ⟨cs', sums, hcs', hrun, hss⟩ := hs ρ hJ ⟨w, r.h⟩ r.c r.h.g fun ρ' hlt hJ' todo' a' w' ht' r' => ih (μ ρ') (by omega) ρ' rfl hJ' todo' a' w' ht' r'
    obtain ⟨ls, hls, hsum⟩ := Option.map_eq_some_iff.1 hrun
    have key : Goes P f (fun v w' => Q v ∧ Framed β.w0 w') (.code b :: .inLoop b :: k) a w := run_sound hc hE hsp hm n pl f _ ls ρ a w _ hls ⟨r.d, r.n, r.t, r.h, hcs'⟩ (sums_all hown hsum hss)
    rcases htd with rfl | rfl
    · exact Goes.one (fun cs => step_inLoop) key
    · exact Goes.one (fun cs => step_loop) key
/-- A call, told in short. -/
theorem calls_sumsO (hc : NoCount P) {E : Exts} (hE : ExtOk P E) {sp : CallF} (hsp : CallOk P β sp) (hm : P.follows .mixedOrders = true) {g : Gen} {L : List Nat} {pl : PL} {Rs Ts : List Tpl} {n : Nat} {fn : Func} {c : Code} {args : List AVal} {xs : List Value} {H : Heap} {nl : Nat} {cs : Cs} {ρ : Env} {w : World} {sums : List LM}
    (hf : P.funcs[f]? = some fn) (hb : fn.body = some c) (hrun : (run P E sp n pl f (entry fn c args H nl cs)).map (·.filterMap (sumMO g L Rs Ts)) = some sums) (hx : AVal.denL ρ args = some xs) (hr : HRel β ρ H nl w) (hcs : CRel ρ cs)
    (hs : ∀ s ∈ sums, MGoodO P β f R Rs Ts ρ s) : Calls P f xs.toArray w (fun e w' => ∃ v, e = .returned v ∧ R v w') := by
  obtain ⟨ls, hls, hsum⟩ := Option.map_eq_some_iff.1 hrun
  exact calls_of_goes hf hb (run_sound hc hE hsp hm n pl f _ ls ρ _ w _ hls (entry_ok hx hr hcs) (m_allO hsum hs))
end
end Go.Vm
end
end
