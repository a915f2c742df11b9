/-
  A machine for abstract states over the model (part 25): rows that a call hands out.
-/
import Derived.Test.YtgiomdniafpjnaaGreatDoorVm24
section
namespace Go.Vm

/-- A row of numbers that a call has laid and hands out, of so many elements. -/
structure RowOut (w w' : World) (x : Value) (e : TypeId) (ks : List IntKind) (L : List Int) (m : Nat) : Prop where
  fr : Framed w w'
  len : L.length = m * ks.length
  row : ∃ b cap c f, x = .slice (some ⟨b, 0, none⟩) m cap ∧ w.heap.size ≤ b ∧ w'.heap[b]? = some (.cells c e f) ∧ rowOf ks L <+: c.toList ∧ c.size = cap * ks.length ∧ FrOk f c.size
theorem framed_base {β : Base} {ρ : Env} {H : Heap} {nl : Nat} {w' : World} (hown : β.own = noO) (h : HRel β ρ H nl w') : Framed β.w0 w' :=
  ⟨h.size, fun b hb => h.frame b hb (by rw [hown]; exact id), h.tape, h.os, h.out⟩
theorem row_out {β : Base} {ρ : Env} {H : Heap} {nl : Nat} {w' : World} {x : Value} {l j : Nat} {nT c : IT} {e : TypeId} {ks : List IntKind} {L : List Int} {m : Nat} (hown : β.own = noO) (h : HRel β ρ H nl w') (hl : H.get l = some ⟨.arr (.code ks c) ks e nT (.lit 0) (some (.nv j)), true⟩)
    (hx : (AVal.slice l (.lit 0) nT (.nv j)).den ρ = some x) (hn : nT.den ρ = some (m : Int)) (hc : c.den ρ = some (encL L)) : RowOut β.w0 w' x e ks L m := by
  obtain ⟨b, o, n, cap, rfl, hN, hoff, hlen, hcap⟩ := den_slice hx
  obtain rfl : o = 0 := by have := Option.some.inj hoff; exact (Int.ofNat.inj this).symm
  obtain rfl : n = m := by have := hlen.symm.trans hn; exact Int.ofNat.inj (Option.some.inj this)
  obtain ⟨b', ob, hb', hob, xs, c0, fr, el, m', st, rfl, hel, hd, hst, ⟨hstc, hp⟩, hn', hty, hroom, hf⟩ := h.blk l _ hl
  rw [hN] at hb'; cases hb'
  obtain rfl : st = 0 := by have := Option.some.inj hst; exact (Int.ofNat.inj this).symm
  have hel := (hel rfl)
  subst hel
  obtain ⟨N0, hN0, hroom⟩ := hroom
  have hc' : cap = N0 := by have := hN0.symm.trans hcap; exact (Int.ofNat.inj (Option.some.inj this)).symm
  subst hc'
  have hmm : m' = n := by have := hn'.symm.trans hlen; exact Int.ofNat.inj (Option.some.inj this)
  subst hmm
  simp only [AT.den, hc, Option.map_some, Option.some.injEq, decL_encL] at hd
  subst hd
  rw [Nat.sub_zero] at hroom
  rw [List.drop_zero] at hp
  refine ⟨framed_base hown h, by have := hty.1; rwa [rowOf_length] at this, b, cap, c0, fr, rfl, ?_, hob, hp, hroom, hf rfl⟩
  rcases h.own l _ b hl rfl hN with h1 | h1
  · exact h1
  · rw [hown] at h1; cases h1
theorem row_in {β : Base} {ρ : Env} {H : Heap} {nl : Nat} {w w' : World} {x : Value} {nT c : IT} {e : TypeId} {ks : List IntKind} {L : List Int} {m : Nat} (h : HRel β ρ H nl w) (r : RowOut w w' x e ks L m) (hn : nT.den ρ = some (m : Int)) (hc : c.den ρ = some (encL L)) :
    ∃ ρ', ρ.Le ρ' ∧ (AVal.slice (nl + 1) (.lit 0) nT (.nv nl)).den ρ' = some x ∧ HRel β ρ' (H.set (nl + 1) ⟨.arr (.code ks c) ks e nT (.lit 0) (some (.nv nl)), true⟩) (nl + 2) w' := by
  obtain ⟨b, cap, c0, f, rfl, hb, hob, hp, hcs, hf⟩ := r.row
  have h1 := h.num cap
  have hle1 : ρ.Le (ρ.put nl cap) := Env.le_put (h.fresh nl (Nat.le_refl _))
  have hle2 : (ρ.put nl cap).Le ((ρ.put nl cap).put (nl + 1) b) := Env.le_put (h1.fresh _ (Nat.le_refl _))
  have hcapd : (IT.nv nl).den ((ρ.put nl cap).put (nl + 1) b) = some (cap : Int) := by
    have : ((ρ.put nl cap).put (nl + 1) b).N nl = some cap := hle2.n _ _ (Env.put_same ..)
    simp only [IT.den, this]; rfl
  have hrel : (ABlk.arr (.code ks c) ks e nT (.lit 0) (some (.nv nl))).rel ((ρ.put nl cap).put (nl + 1) b) true (.cells c0 e f) := by
    refine ⟨rowOf ks L, c0, f, e, m, 0, rfl, fun _ => rfl, ?_, rfl, ⟨Nat.zero_le _, by rw [List.drop_zero]; exact hp⟩, IT.den_mono (hle1.trans hle2) hn, rowOf_typed r.len, ⟨cap, hcapd, by rw [Nat.sub_zero]; exact hcs⟩, fun _ => hf⟩
    simp only [AT.den, IT.den_mono (hle1.trans hle2) hc, Option.map_some, decL_encL]
  refine ⟨_, hle1.trans hle2, ?_, h1.adopt r.fr hb hob hrel⟩
  have e1 : natOf (nT.den ((ρ.put nl cap).put (nl + 1) b)) = some m := by rw [IT.den_mono (hle1.trans hle2) hn]; rfl
  have e2 : natOf ((IT.nv nl).den ((ρ.put nl cap).put (nl + 1) b)) = some cap := by rw [hcapd]; rfl
  have e0 : natOf ((IT.lit 0).den ((ρ.put nl cap).put (nl + 1) b)) = some 0 := rfl
  have e3 : ((ρ.put nl cap).put (nl + 1) b).N (nl + 1) = some b := Env.put_same ..
  simp only [AVal.den, e0, e1, e2, e3]

/-- A row as a call hands it out: nil if it has no element. -/
def RowOr (w w' : World) (x : Value) (e : TypeId) (ks : List IntKind) (L : List Int) (m : Nat) : Prop := (m = 0 ∧ x = .slice none 0 0 ∧ Framed w w') ∨ (0 < m ∧ RowOut w w' x e ks L m)
-- NAMES THAT A SUBSTITUTION LEAVES
section
variable {σ : Sub} {ρ : Env}
theorem app_I {k : Nat} (h : lk σ.I k = none) : (σ.app ρ).I k = ρ.I k := by simp only [Sub.app, h]
theorem app_V {k : Nat} (h : lk σ.V k = none) : (σ.app ρ).V k = ρ.V k := by simp only [Sub.app, h]
theorem app_S {k : Nat} (h : lk σ.S k = none) : (σ.app ρ).S k = ρ.S k := by simp only [Sub.app, h]; cases Nat.blt k 1000000 <;> rfl
theorem codN_ge (k : Nat) (x y : Int) : Nat.blt (codN k x y) 1000000 = false := by
  rw [Bool.eq_false_iff]
  intro hb
  have := Nat.le_of_ble_eq_true hb
  unfold codN at this; omega
theorem app_cod (k : Nat) (x y : Int) : (σ.app ρ).S (codN k x y) = ρ.S (codN k x y) := by simp only [Sub.app, codN_ge, cond_false]
end
end Go.Vm
end

/-
  A machine for abstract states over the model (part 26): rows of texts that a call hands out.
-/
section
namespace Go.Vm

structure TextsOut (w w' : World) (x : Value) (e : TypeId) (L : List ByteArray) : Prop where
  fr : Framed w w'
  row : ∃ b cap c f, x = .slice (some ⟨b, 0, none⟩) L.length cap ∧ w.heap.size ≤ b ∧ w'.heap[b]? = some (.cells c e f) ∧ L.map Value.string <+: c.toList ∧ c.size = cap ∧ FrOk f c.size
theorem texts_in {β : Base} {ρ : Env} {H : Heap} {nl : Nat} {w w' : World} {x : Value} {nT c : IT} {e : TypeId} {L : List ByteArray} {X : Int} (h : HRel β ρ H nl w) (r : TextsOut w w' x e L) (hn : nT.den ρ = some (L.length : Int)) (hc : c.den ρ = some X) (hX : strsOf X = L.map Value.string) :
    ∃ ρ', ρ.Le ρ' ∧ (AVal.slice (nl + 1) (.lit 0) nT (.nv nl)).den ρ' = some x ∧ HRel β ρ' (H.set (nl + 1) ⟨.srow c e nT (some (.nv nl)), true⟩) (nl + 2) w' := by
  obtain ⟨b, cap, c0, f, rfl, hb, hob, hp, hcs, hf⟩ := r.row
  have h1 := h.num cap
  have hle1 : ρ.Le (ρ.put nl cap) := Env.le_put (h.fresh nl (Nat.le_refl _))
  have hle2 : (ρ.put nl cap).Le ((ρ.put nl cap).put (nl + 1) b) := Env.le_put (h1.fresh _ (Nat.le_refl _))
  have hcapd : (IT.nv nl).den ((ρ.put nl cap).put (nl + 1) b) = some (cap : Int) := by
    have : ((ρ.put nl cap).put (nl + 1) b).N nl = some cap := hle2.n _ _ (Env.put_same ..)
    simp only [IT.den, this]; rfl
  have hlen : (decL X).length = L.length := by
    have := congrArg List.length hX
    simpa [strsOf] using this
  have hrel : (ABlk.srow c e nT (some (.nv nl))).rel ((ρ.put nl cap).put (nl + 1) b) true (.cells c0 e f) := by
    refine ⟨X, c0, f, e, rfl, fun _ => rfl, IT.den_mono (hle1.trans hle2) hc, hX ▸ hp, ?_, ⟨cap, hcapd, by rw [Nat.mul_one]; exact hcs⟩, fun _ => hf⟩
    rw [hlen]; exact IT.den_mono (hle1.trans hle2) hn
  refine ⟨_, hle1.trans hle2, ?_, h1.adopt r.fr hb hob hrel⟩
  have e1 : natOf (nT.den ((ρ.put nl cap).put (nl + 1) b)) = some L.length := by rw [IT.den_mono (hle1.trans hle2) hn]; rfl
  have e2 : natOf ((IT.nv nl).den ((ρ.put nl cap).put (nl + 1) b)) = some cap := by rw [hcapd]; rfl
  have e0 : natOf ((IT.lit 0).den ((ρ.put nl cap).put (nl + 1) b)) = some 0 := rfl
  have e3 : ((ρ.put nl cap).put (nl + 1) b).N (nl + 1) = some b := Env.put_same ..
  simp only [AVal.den, e0, e1, e2, e3]
theorem texts_out {β : Base} {ρ : Env} {H : Heap} {nl : Nat} {w' : World} {x : Value} {l j : Nat} {nT c : IT} {e : TypeId} {L : List ByteArray} {X : Int} (hown : β.own = noO) (h : HRel β ρ H nl w') (hl : H.get l = some ⟨.srow c e nT (some (.nv j)), true⟩)
    (hx : (AVal.slice l (.lit 0) nT (.nv j)).den ρ = some x) (hc : c.den ρ = some X) (hX : strsOf X = L.map Value.string) : TextsOut β.w0 w' x e L := by
  obtain ⟨b, o, n, cap, rfl, hN, hoff, hlen, hcap⟩ := den_slice hx
  obtain rfl : o = 0 := by have := Option.some.inj hoff; exact (Int.ofNat.inj this).symm
  obtain ⟨b', ob, hb', hob, X', c0, fr, el, rfl, hel, hd, hp, hn', hroom, hf⟩ := h.blk l _ hl
  rw [hN] at hb'; cases hb'
  have hel := hel rfl
  subst hel
  obtain rfl : X' = X := by have := hd.symm.trans hc; exact Option.some.inj this
  have hLl : (decL X').length = L.length := by
    have := congrArg List.length hX
    simpa [strsOf] using this
  have hnn : n = L.length := by
    have := hn'.symm.trans hlen
    have := Int.ofNat.inj (Option.some.inj this)
    omega
  subst hnn
  obtain ⟨N0, hN0, hroom⟩ := hroom
  have hc' : cap = N0 := by have := hN0.symm.trans hcap; exact (Int.ofNat.inj (Option.some.inj this)).symm
  subst hc'
  refine ⟨framed_base hown h, b, cap, c0, fr, rfl, ?_, hob, hX ▸ hp, by rw [hroom, Nat.mul_one], hf rfl⟩
  rcases h.own l _ b hl rfl hN with h1 | h1
  · exact h1
  · rw [hown] at h1; cases h1
theorem text_out1 {β : Base} {ρ : Env} {H : Heap} {nl : Nat} {w' : World} {x : Value} {l : Nat} {e : TypeId} {s : ST} (hown : β.own = noO) (h : HRel β ρ H nl w') (hl : H.get l = some ⟨.cells [.str s] e none, true⟩)
    (hx : (AVal.slice l (.lit 0) (.lit 1) (.lit 1)).den ρ = some x) : TextsOut β.w0 w' x e [s.den ρ] := by
  obtain ⟨b, o, n, cap, rfl, hN, hoff, hlen, hcap⟩ := den_slice hx
  obtain rfl : o = 0 := by have := Option.some.inj hoff; exact (Int.ofNat.inj this).symm
  obtain rfl : n = 1 := by have := Option.some.inj hlen; exact (Int.ofNat.inj this).symm
  obtain rfl : cap = 1 := by have := Option.some.inj hcap; exact (Int.ofNat.inj this).symm
  obtain ⟨b', ob, hb', hob, xs, c0, fr, ho, hd, hp, ht, hf⟩ := h.blk l _ hl
  rw [hN] at hb'; cases hb'
  subst ho
  simp only [AVal.denL, AVal.den, Option.some.injEq] at hd
  subst hd
  refine ⟨framed_base hown h, b, 1, c0, fr, rfl, ?_, hob, hp, ?_, hf rfl⟩
  · rcases h.own l _ b hl rfl hN with h1 | h1
    · exact h1
    · rw [hown] at h1; cases h1
  · simpa [tailOk] using ht
end Go.Vm
end

/-
  A machine for abstract states over the model (part 27): loops of a callee that writes blocks of its caller.
-/
section
namespace Go.Vm

theorem match_okO {T : Tpl} {σ : Sub} {S : St} {β : Base} {ρ : Env} {a : Act} {w : World} (h : matchSt T σ S = true) (_ : True) (hG : GP.at β.G (σ.app ρ)) (hcs : CRel (σ.app ρ) T.cs) (r : SRel β ρ S a w) (todo : List Item) :
    SRel β (σ.app ρ) (T.st todo) a w := by
  simp only [matchSt, Bool.and_eq_true, List.all_eq_true] at h
  obtain ⟨⟨⟨⟨⟨⟨h1, h2⟩, h3⟩, h4⟩, h5⟩, h6⟩, hdf⟩ := h
  have hd : DRel (σ.app ρ) [] a.defers := by
    have := r.d
    rw [List.isEmpty_iff.1 hdf] at this; exact this
  have h6 := Nat.le_of_ble_eq_true h6
  have hlk : ∀ l, lookN σ.N l = lk σ.N l := fun l => by
    cases hn : σ.N with
    | nil => rfl
    | cons p r =>
      have h7 := nat_blt_lt (h5 p (by rw [hn]; exact List.mem_cons_self))
      have h8 : Nat.beq p.1 1000000007 = false := by
        cases hb : Nat.beq p.1 1000000007 with
        | false => rfl
        | true => have := Nat.eq_of_beq_eq_true hb; omega
      obtain ⟨p1, p2⟩ := p
      simp only at h8
      simp only [lookN, h8, cond_false]
  have look : ∀ l k, (ofP T.H).get l = some k → ∃ j k', lk σ.N l = some j ∧ S.H.get j = some k' ∧ cHB σ k k' = true := fun l k hl => by
    have := h3 _ (ofP_mem hl)
    rw [hlk] at this
    split at this
    · rename_i j hj
      split at this
      · rename_i k' hk; exact ⟨j, k', hj, hk, this⟩
      · cases this
    · cases this
  have hN : ∀ l j, lk σ.N l = some j → (σ.app ρ).N l = ρ.N j := fun l j hl => by simp only [Sub.app, hlk, hl]
  refine ⟨hd, r.n.trans (Nat.eq_of_beq_eq_true h1).symm, fun i v hi => ?_, ⟨fun l k hl => ?_, fun l l' k k' hl hl' hr he => ?_, fun l k b hl hr hb => ?_, fun i hi => ?_, fun i hi => ?_, r.h.size, r.h.frame, r.h.tape, r.h.os, r.h.out, hG, ?_⟩, hcs⟩
  · have := h2 _ (ofP_mem hi)
    split at this
    · rename_i u hu
      obtain ⟨x, hx, g⟩ := r.t i u hu
      exact ⟨x, cA_ok _ _ this hx, g⟩
    · cases this
  · obtain ⟨j, k', hj, hk', hc⟩ := look l k hl
    obtain ⟨b, o, hb, ho, hk⟩ := r.h.blk j k' hk'
    simp only [cHB, Bool.and_eq_true] at hc
    refine ⟨b, o, by rw [hN l j hj]; exact hb, ho, cK_ok hc.2 (fun hrw => ?_) hk⟩
    have := hc.1; rw [hrw] at this; exact this
  · obtain ⟨j, k1, hj, hk1, hc⟩ := look l k hl
    obtain ⟨j', k2, hj', hk2, _⟩ := look l' k' hl'
    rw [hN l j hj, hN l' j' hj'] at he
    simp only [cHB, Bool.and_eq_true] at hc
    have hrw := hc.1; rw [hr] at hrw
    obtain rfl := r.h.inj j j' k1 k2 hk1 hk2 hrw he
    exact fresh2_rw h4 hl (.inl hr) (lk_mem hj) (lk_mem hj')
  · obtain ⟨j, k1, hj, hk1, hc⟩ := look l k hl
    rw [hN l j hj] at hb
    simp only [cHB, Bool.and_eq_true] at hc
    have hrw := hc.1; rw [hr] at hrw
    exact r.h.own j k1 b hk1 hrw hb
  · simp only [Sub.app, hlk]
    cases hl : lk σ.N i with
    | none => rfl
    | some j =>
      have h6 := nat_blt_lt (h5 _ (lk_mem hl))
      have h7 : T.nl ≤ i := hi
      simp only at h6
      omega
  · simp only [Sub.app, hlk]
    cases hl : lk σ.N i with
    | none => rfl
    | some j =>
      have h6 := nat_blt_lt (h5 _ (lk_mem hl))
      have h7 : T.nl ≤ i := hi
      simp only at h6
      omega
  · obtain ⟨Fp, hB⟩ := r.h.big
    have bigs : ∀ l k c rw, (ofP T.H).get l = some ⟨.big k c, rw⟩ → ∃ j c' rw', lk σ.N l = some j ∧ S.H.get j = some ⟨.big k c', rw'⟩ ∧ (rw = true → rw' = true) ∧ ∀ x, c'.den ρ = some x → c.den (σ.app ρ) = some x := fun l k c rw hl => by
      obtain ⟨j, hb', hj, hg, hc⟩ := look l _ hl
      obtain ⟨k', r'⟩ := hb'
      simp only [cHB, Bool.and_eq_true] at hc
      obtain ⟨q1, q2⟩ := hc
      obtain ⟨c', rfl, hd⟩ := cK_big q2
      exact ⟨j, c', r', hj, hg, fun hr => by rw [hr] at q1; exact q1, fun x hx => hd x hx⟩
    refine ⟨_, hB.move (fun l => (lk σ.N l).getD 0) (fun l k c rw hl => ?_) (fun _ _ _ _ _ _ _ => rfl) (fun l l' k c rw h' hl hl' hne => ?_)⟩
    · obtain ⟨j, c', rw', hj, hg, h8, hd⟩ := bigs l k c rw hl
      exact ⟨c', rw', by rw [hj]; exact hg, h8, by rw [hj]; exact hN l j hj, hd⟩
    · obtain ⟨j, c', rw', hj, hg, _, _⟩ := bigs l k c rw hl
      obtain ⟨j', hb2, hj', hg', _⟩ := look l' h' hl'
      have hjj : j ≠ j' := fun e => by subst e; exact hne (fresh2_rw h4 hl (.inr ⟨_, _, _, rfl⟩) (lk_mem hj) (lk_mem hj'))
      refine ⟨fun y hy => ?_, fun _ => by rw [hj, hj']; exact hjj⟩
      rw [hN l' j' hj']
      rw [hj] at hy
      exact (hB.apart _ _ _ _ _ _ hg hg' hjj y hy).1

section
variable (g : Gen)
/-- The labels of L keep their names. -/
def sub0 (L : List Nat) : Sub := ⟨[], [], [], [], L.map fun l => (l, l)⟩
def findSubO (L : List Nat) (T : Tpl) (S : St) : Sub := fH g T.H S (fTm g T.tm S (sub0 L))
end
def tryTO (g : Gen) (L : List Nat) : List Tpl → Nat → St → Option (Nat × Sub)
  | [], _, _ => none
  | T :: r, q, S =>
    let σ := findSubO g L T S
    cond (Nat.beq (lenL S.todo) T.dep && matchSt T σ S) (some (q, σ)) (tryTO g L r (q + 1) S)
theorem tryTO_ok {g : Gen} {L : List Nat} : ∀ {Ts : List Tpl} {n q : Nat} {σ : Sub} {S : St}, tryTO g L Ts n S = some (q, σ) → ∃ T, n ≤ q ∧ Ts[q - n]? = some T ∧ matchSt T σ S = true
  | T :: r, n, q, σ, S, h => by
    simp only [tryTO] at h
    cases hb : (Nat.beq (lenL S.todo) T.dep && matchSt T (findSubO g L T S) S) with
    | true =>
      rw [hb] at h; cases h
      simp only [Bool.and_eq_true] at hb
      exact ⟨T, Nat.le_refl _, by simp, hb.2⟩
    | false =>
      rw [hb] at h
      obtain ⟨T', h1, h2, h3⟩ := tryTO_ok (Ts := r) h
      refine ⟨T', by omega, ?_, h3⟩
      rw [show q - n = (q - (n + 1)) + 1 by omega]; simpa using h2
def sumMO (g : Gen) (L : List Nat) (Rs Ts : List Tpl) : Leaf → Option LM
  | .stop cs => cond (dead cs) none (some (.stop cs))
  | .ret v H nl cs => cond (dead cs) none (match tryTO g L Rs 0 (retSt v H nl cs) with
    | some (q, σ) => some (.done q cs σ)
    | none => some .bad)
  | .pause S => cond (dead S.cs) none (match tryTO g L Ts 0 S with
    | some (q, σ) => some (.next q S.todo S.cs σ)
    | none => some .bad)
def MGoodO (P : Program) (β : Base) (f : FuncId) (R : Value → World → Prop) (Rs Ts : List Tpl) (ρ : Env) : LM → Prop
  | .done q cs σ => True ∧ ∀ ρ', ρ.Le ρ' → CRel ρ' cs → ∀ T, Rs[q]? = some T → GP.at β.G ρ' → GP.at β.G (σ.app ρ') ∧ CRel (σ.app ρ') T.cs ∧
      ∀ x w', SRel β (σ.app ρ') (T.st []) ⟨#[x], []⟩ w' → R x w'
  | .next q todo cs σ => True ∧ ∀ ρ', ρ.Le ρ' → CRel ρ' cs → ∀ T, Ts[q]? = some T → GP.at β.G ρ' → GP.at β.G (σ.app ρ') ∧ CRel (σ.app ρ') T.cs ∧
      ∀ a w, SRel β (σ.app ρ') (T.st todo) a w → Goes P f R todo a w
  | .stop cs => Dead ρ cs
  | .bad => False
section
variable {P : Program} {β : Base} {f : FuncId} {R : Value → World → Prop}
theorem m_goodO {g : Gen} {L : List Nat} {Rs Ts : List Tpl} {ρ : Env} {l : Leaf} (h : ∀ s, sumMO g L Rs Ts l = some s → MGoodO P β f R Rs Ts ρ s) : Good P β ρ f R l := by
  cases l with
  | stop cs =>
    cases hd : dead cs with
    | true => exact dead_ok hd
    | false => exact h (.stop cs) (by simp [sumMO, hd])
  | ret v H nl cs =>
    intro ρ' w' x hle hx hr hc
    cases hd : dead cs with
    | true => exact (dead_ok (ρ := ρ') hd ρ' (Env.Le.refl ρ') hc).elim
    | false =>
      cases ht : tryTO g L Rs 0 (retSt v H nl cs) with
      | none => exact (h .bad (by simp [sumMO, hd, ht])).elim
      | some p =>
        obtain ⟨q, σ⟩ := p
        obtain ⟨T, _, hT, hm⟩ := tryTO_ok ht
        have hs := h (.done q cs σ) (by simp [sumMO, hd, ht])
        have hs0 := hs.1
        have hs := hs.2 ρ' hle hc T (by simpa using hT) hr.g
        have hS : SRel β ρ' (retSt v H nl cs) ⟨#[x], []⟩ w' := ⟨rfl, rfl, fun i u hu => by
          have := ofP_mem hu
          simp only [List.mem_singleton, Prod.mk.injEq] at this
          obtain ⟨rfl, rfl⟩ := this
          exact ⟨x, hx, rfl⟩, hr, hc⟩
        exact hs.2.2 x w' (match_okO hm hs0 hs.1 hs.2.1 hS [])
  | pause S =>
    intro ρ' a w hle hr
    cases hd : dead S.cs with
    | true => exact (dead_ok (ρ := ρ') hd ρ' (Env.Le.refl ρ') hr.c).elim
    | false =>
      cases ht : tryTO g L Ts 0 S with
      | none => exact (h .bad (by simp [sumMO, hd, ht])).elim
      | some p =>
        obtain ⟨q, σ⟩ := p
        obtain ⟨T, _, hT, hm⟩ := tryTO_ok ht
        have hs := h (.next q S.todo S.cs σ) (by simp [sumMO, hd, ht])
        have hs0 := hs.1
        have hs := hs.2 ρ' hle hr.c T (by simpa using hT) hr.h.g
        exact hs.2.2 a w (match_okO hm hs0 hs.1 hs.2.1 hr S.todo)
theorem m_allO {g : Gen} {L : List Nat} {Rs Ts : List Tpl} {ls : List Leaf} {sums : List LM} {ρ : Env} (h : ls.filterMap (sumMO g L Rs Ts) = sums) (hs : ∀ s ∈ sums, MGoodO P β f R Rs Ts ρ s) : ∀ l ∈ ls, Good P β ρ f R l :=
  fun _ hl => m_goodO fun s e => hs s (h ▸ List.mem_filterMap.2 ⟨_, hl, e⟩)

/-- A round of a loop, told in short, is good for the whole loop. -/
theorem loop_goesO (hc : NoCount P) {E : Exts} (hE : ExtOk P E) {sp : CallF} (hsp : CallOk P β sp) (hm : P.follows .mixedOrders = true) {g : Gen} {L : List Nat} {pl : PL} {Rs Ts : List Tpl} {T : Tpl} {b : Code} {k : List Item} {n : Nat} {sums : List LM}
    (hrun : (run P E sp n pl f (T.st (.code b :: .inLoop b :: k))).map (·.filterMap (sumMO g L Rs Ts)) = some sums) (J : Env → Prop) (μ : Env → Nat)
    (hs : ∀ ρ, J ρ → CRel ρ T.cs → GP.at β.G ρ → (∀ ρ', μ ρ' < μ ρ → J ρ' → ∀ todo a w, todo = .inLoop b :: k ∨ todo = .code (.loop b) :: k → SRel β ρ' (T.st todo) a w → Goes P f R todo a w) → ∀ s ∈ sums, MGoodO P β f R Rs Ts ρ s) :
    ∀ ρ, J ρ → ∀ todo a w, todo = .inLoop b :: k ∨ todo = .code (.loop b) :: k → SRel β ρ (T.st todo) a w → Goes P f R todo a w := by
  obtain ⟨ls, hls, hsum⟩ := Option.map_eq_some_iff.1 hrun
  suffices H : ∀ N ρ, μ ρ = N → J ρ → ∀ todo a w, todo = .inLoop b :: k ∨ todo = .code (.loop b) :: k → SRel β ρ (T.st todo) a w → Goes P f R todo a w from fun ρ => H _ ρ rfl
  intro N
  induction N using Nat.strongRecOn with
  | _ N ih =>
    intro ρ hN hJ todo a w htd r
    have key : Goes P f R (.code b :: .inLoop b :: k) a w := by
      refine run_sound hc hE hsp hm n pl f _ ls ρ a w _ hls ⟨r.d, r.n, r.t, r.h, r.c⟩ (m_allO hsum (hs ρ hJ r.c r.h.g fun ρ' hlt hJ' todo' a' w' ht' r' => ?_))
      exact ih (μ ρ') (by omega) ρ' rfl hJ' todo' a' w' ht' r'
    rcases htd with rfl | rfl
    · exact Goes.one (fun cs => step_inLoop) key
    · exact Goes.one (fun cs => step_loop) key

/-- The same, where each round is run under what is known there. -/
theorem loop_goesW (hc : NoCount P) {E : Exts} (hE : ExtOk P E) {sp : CallF} (hsp : CallOk P β sp) (hm : P.follows .mixedOrders = true) {g : Gen} {L : List Nat} {pl : PL} {Rs Ts : List Tpl} {T : Tpl} {b : Code} {k : List Item} {n : Nat} (J : Env → Prop) (μ : Env → Nat)
    (hs : ∀ ρ, J ρ → CRel ρ T.cs → GP.at β.G ρ → (∀ ρ', μ ρ' < μ ρ → J ρ' → ∀ todo a w, todo = .inLoop b :: k ∨ todo = .code (.loop b) :: k → SRel β ρ' (T.st todo) a w → Goes P f R todo a w) →
      ∃ cs' sums, CRel ρ cs' ∧ (run P E sp n pl f ((⟨T.tm, T.nt, T.H, T.nl, cs', T.dep⟩ : Tpl).st (.code b :: .inLoop b :: k))).map (·.filterMap (sumMO g L Rs Ts)) = some sums ∧ ∀ s ∈ sums, MGoodO P β f R Rs Ts ρ s) :
    ∀ ρ, J ρ → ∀ todo a w, todo = .inLoop b :: k ∨ todo = .code (.loop b) :: k → SRel β ρ (T.st todo) a w → Goes P f R todo a w := by
  suffices H : ∀ N ρ, μ ρ = N → J ρ → ∀ todo a w, todo = .inLoop b :: k ∨ todo = .code (.loop b) :: k → SRel β ρ (T.st todo) a w → Goes P f R todo a w from fun ρ => H _ ρ rfl
  intro N
  induction N using Nat.strongRecOn with
  | _ N ih =>
    intro ρ hN hJ todo a w htd r
    obtain ⟨cs', sums, hcs', hrun, hss⟩ := hs ρ hJ r.c r.h.g fun ρ' hlt hJ' todo' a' w' ht' r' => ih (μ ρ') (by omega) ρ' rfl hJ' todo' a' w' ht' r'
    obtain ⟨ls, hls, hsum⟩ := Option.map_eq_some_iff.1 hrun
    have key : Goes P f R (.code b :: .inLoop b :: k) a w := run_sound hc hE hsp hm n pl f _ ls ρ a w _ hls ⟨r.d, r.n, r.t, r.h, hcs'⟩ (m_allO hsum hss)
    rcases htd with rfl | rfl
    · exact Goes.one (fun cs => step_inLoop) key
    · exact Goes.one (fun cs => step_loop) key

/-- The same, told by answers alone; where each round is run under what is known there. -/
theorem loop_goesS (hc : NoCount P) {E : Exts} (hE : ExtOk P E) {sp : CallF} (hsp : CallOk P β sp) (hm : P.follows .mixedOrders = true) (hown : β.own = noO) {Q : Value → Prop} {g : Gen} {pl : PL} {Ts : List Tpl} {T : Tpl} {b : Code} {k : List Item} {n : Nat} (J : Env → Prop) (μ : Env → Nat)
    (hs : ∀ ρ, J ρ → (∃ w, HRel β ρ (ofP T.H) T.nl w) → CRel ρ T.cs → GP.at β.G ρ → (∀ ρ', μ ρ' < μ ρ → J ρ' → ∀ todo a w, todo = .inLoop b :: k ∨ todo = .code (.loop b) :: k → SRel β ρ' (T.st todo) a w → Goes P f (fun v w' => Q v ∧ Framed β.w0 w') todo a w) →
      ∃ cs' sums, CRel ρ cs' ∧ (run P E sp n pl f ((⟨T.tm, T.nt, T.H, T.nl, cs', T.dep⟩ : Tpl).st (.code b :: .inLoop b :: k))).map (·.filterMap (sumL g Ts)) = some sums ∧ ∀ s ∈ sums, SumGood P β f Q Ts ρ s) :
    ∀ ρ, J ρ → ∀ todo a w, todo = .inLoop b :: k ∨ todo = .code (.loop b) :: k → SRel β ρ (T.st todo) a w → Goes P f (fun v w' => Q v ∧ Framed β.w0 w') todo a w := by
  suffices H : ∀ N ρ, μ ρ = N → J ρ → ∀ todo a w, todo = .inLoop b :: k ∨ todo = .code (.loop b) :: k → SRel β ρ (T.st todo) a w → Goes P f (fun v w' => Q v ∧ Framed β.w0 w') todo a w from fun ρ => H _ ρ rfl
  intro N
  induction N using Nat.strongRecOn with
  | _ N ih =>
    intro ρ hN hJ todo a w htd r
    obtain ⟨cs', sums, hcs', hrun, hss⟩ := hs ρ hJ ⟨w, r.h⟩ r.c r.h.g fun ρ' hlt hJ' todo' a' w' ht' r' => ih (μ ρ') (by omega) ρ' rfl hJ' todo' a' w' ht' r'
    obtain ⟨ls, hls, hsum⟩ := Option.map_eq_some_iff.1 hrun
    have key : Goes P f (fun v w' => Q v ∧ Framed β.w0 w') (.code b :: .inLoop b :: k) a w := run_sound hc hE hsp hm n pl f _ ls ρ a w _ hls ⟨r.d, r.n, r.t, r.h, hcs'⟩ (sums_all hown hsum hss)
    rcases htd with rfl | rfl
    · exact Goes.one (fun cs => step_inLoop) key
    · exact Goes.one (fun cs => step_loop) key

/-- A call, told in short. -/
theorem calls_sumsO (hc : NoCount P) {E : Exts} (hE : ExtOk P E) {sp : CallF} (hsp : CallOk P β sp) (hm : P.follows .mixedOrders = true) {g : Gen} {L : List Nat} {pl : PL} {Rs Ts : List Tpl} {n : Nat} {fn : Func} {c : Code} {args : List AVal} {xs : List Value} {H : Heap} {nl : Nat} {cs : Cs} {ρ : Env} {w : World} {sums : List LM}
    (hf : P.funcs[f]? = some fn) (hb : fn.body = some c) (hrun : (run P E sp n pl f (entry fn c args H nl cs)).map (·.filterMap (sumMO g L Rs Ts)) = some sums) (hx : AVal.denL ρ args = some xs) (hr : HRel β ρ H nl w) (hcs : CRel ρ cs)
    (hs : ∀ s ∈ sums, MGoodO P β f R Rs Ts ρ s) : Calls P f xs.toArray w (fun e w' => ∃ v, e = .returned v ∧ R v w') := by
  obtain ⟨ls, hls, hsum⟩ := Option.map_eq_some_iff.1 hrun
  exact calls_of_goes hf hb (run_sound hc hE hsp hm n pl f _ ls ρ _ w _ hls (entry_ok hx hr hcs) (m_allO hsum hs))
end
end Go.Vm
end
