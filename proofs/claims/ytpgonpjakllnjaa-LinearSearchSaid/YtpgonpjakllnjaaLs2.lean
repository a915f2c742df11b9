/-
  LinearSearch (2): what a call makes of two blocks, one of which may have moved.
-/
import Derived.Test.YtpgonpjakllnjaaLm11
namespace Go.Vm

section
variable {β : Base} {ρ : Env} {H : Heap} {nl : Nat} {w : World}
/-- A call wrote in the blocks of two names; one of them is told anew there, the other one lies under a new name: there or in a new block. -/
theorem HRel.take2 (h : HRel β ρ H nl w) {ls lo bs bo : Nat} {ks ko : HB} (hs : H.get ls = some ks) (hsw : ks.rw = true) (nbs : ks.k.nb = true) (hN : ρ.N ls = some bs) (ho : H.get lo = some ko) (how : ko.rw = true) (hob : ρ.N lo = some bo) (hne : lo ≠ ls)
    {w' : World} (hsz : w.heap.size ≤ w'.heap.size) (same : ∀ y, y < w.heap.size → y ≠ bs → y ≠ bo → w'.heap[y]? = w.heap[y]?) (ht : w'.tape = w.tape) (hos : w'.os = w.os) (hout : w'.output = w.output)
    {a : Nat} (ha : a = bo ∨ w.heap.size ≤ a) {oo os' : Obj} (hoo : w'.heap[a]? = some oo) (hss : w'.heap[bs]? = some os') {ko' ks' : ABlk} (hk : ko'.rel (ρ.put nl a) true oo) (hk2 : ks'.rel (ρ.put nl a) true os') (nb1 : ko'.nb = true) (nb2 : ks'.nb = true) :
    HRel β (ρ.put nl a) (((H.del lo).set nl ⟨ko', true⟩).set ls ⟨ks', true⟩) (nl + 1) w' := by
  have hn := h.num a
  have hle : ρ.Le (ρ.put nl a) := Env.le_put (h.fresh nl (Nat.le_refl _))
  have hlo : (ρ.put nl a).N lo = some bo := hle.n _ _ hob
  have hls : (ρ.put nl a).N ls = some bs := hle.n _ _ hN
  have hbo := h.lt ho hob
  have hbs := h.lt hs hN
  have hbb : bo ≠ bs := fun e => hne (h.inj lo ls ko ks ho hs how (by rw [hob, hN, e]))
  have hab : a ≠ bs := fun e => by
    rcases ha with h1 | h1
    · exact hbb (h1.symm.trans e)
    · omega
  have key : ∀ l1 k1, (((H.del lo).set nl ⟨ko', true⟩).set ls ⟨ks', true⟩).get l1 = some k1 → (l1 = ls ∧ k1 = ⟨ks', true⟩) ∨ (l1 ≠ ls ∧ l1 = nl ∧ k1 = ⟨ko', true⟩) ∨ (l1 ≠ ls ∧ l1 ≠ nl ∧ l1 ≠ lo ∧ H.get l1 = some k1) := fun l1 k1 h1 => by
    rcases Tr.get_set h1 with ⟨e1, e2⟩ | ⟨n1, g1⟩
    · exact .inl ⟨e1, e2⟩
    · rcases Tr.get_set g1 with ⟨e1, e2⟩ | ⟨n2, g2⟩
      · exact .inr (.inl ⟨n1, e1, e2⟩)
      · obtain ⟨n3, g3⟩ := Tr.get_del g2
        exact .inr (.inr ⟨n1, n2, n3, g3⟩)
  have far : ∀ {l1 : Nat} {k1 : HB} {c : Nat}, l1 ≠ ls → l1 ≠ lo → H.get l1 = some k1 → (ρ.put nl a).N l1 = some c → c < w.heap.size ∧ c ≠ bs ∧ c ≠ bo := fun {l1 k1 c} n1 n2 g1 hc => by
    refine ⟨?_, ?_, ?_⟩
    · obtain ⟨c', o, hc', ho', _⟩ := hn.blk l1 k1 g1
      rw [hc] at hc'; cases hc'
      exact (Array.getElem?_eq_some_iff.1 ho').1
    · intro e; subst e
      exact n1 (hn.inj ls l1 ks k1 hs g1 hsw (hls.trans hc.symm)).symm
    · intro e; subst e
      exact n2 (hn.inj lo l1 ko k1 ho g1 how (hlo.trans hc.symm)).symm
  have nota : ∀ {l1 : Nat} {k1 : HB}, l1 ≠ ls → l1 ≠ lo → H.get l1 = some k1 → (ρ.put nl a).N l1 ≠ some a := fun {l1 k1} n1 n2 g1 e => by
    obtain ⟨f1, f2, f3⟩ := far n1 n2 g1 e
    rcases ha with h1 | h1
    · exact f3 h1
    · omega
  have owned : ∀ {l1 : Nat} {k1 : HB} {c : Nat}, H.get l1 = some k1 → k1.rw = true → (ρ.put nl a).N l1 = some c → c < β.w0.heap.size → ¬ ∀ l ∈ β.own, (ρ.put nl a).N l ≠ some c := fun {l1 k1 c} g1 gw hc hlt hf => by
    rcases hn.own l1 k1 c g1 gw hc with h1 | ⟨l', hl', hb'⟩
    · omega
    · exact hf l' hl' hb'
  obtain ⟨Fp, hB⟩ := hn.big
  have hB2 : BigAt (ρ.put nl a) (H.del lo) β.w0.heap.size w' Fp → BigAt (ρ.put nl a) (((H.del lo).set nl ⟨ko', true⟩).set ls ⟨ks', true⟩) β.w0.heap.size w' Fp := fun hq => by
    refine (hq.set nb1 (Env.put_same ..) (fun l k c rw hl _ hy => ?_) (fun _ _ _ => rfl)).set nb2 hls (fun l k c rw hl hl' hy => ?_) (fun _ _ _ => rfl)
    · obtain ⟨n1, g1⟩ := Tr.get_del hl
      rcases ha with h1 | h1
      · exact (hB.apart _ _ _ _ _ _ g1 ho n1 a hy).1 (hlo.trans (congrArg some h1.symm))
      · obtain ⟨_, _, _, _, e3, _⟩ := hB.ok _ _ _ _ g1
        have := fam_lt e3 hy; omega
    · rcases Tr.get_set hl with ⟨_, e2⟩ | ⟨n2, g2⟩
      · cases e2; cases nb1
      · obtain ⟨_, g3⟩ := Tr.get_del g2
        exact (hB.apart _ _ _ _ _ _ g3 hs hl' bs hy).1 hls
  refine ⟨fun l1 k1 h1 => ?_, fun l1 l2 k1 k2 h1 h2 hr he => ?_, fun l1 k1 b1 h1 hr hb1 => ?_, hn.fresh, hn.ownN, Nat.le_trans h.size hsz, fun c hc hf => ?_, ht.trans h.tape, hos.trans h.os, hout.trans h.out, h.g, Fp, hB2 ⟨fun l k c rw hl => ?_, fun l l' k c rw h' hl hl' => ?_⟩⟩
  · rcases key l1 k1 h1 with ⟨rfl, rfl⟩ | ⟨_, rfl, rfl⟩ | ⟨n1, n2, n3, g1⟩
    · exact ⟨bs, os', hls, hss, hk2⟩
    · exact ⟨a, oo, Env.put_same .., hoo, hk⟩
    · obtain ⟨c, o, hc, hco, hkc⟩ := hn.blk l1 k1 g1
      obtain ⟨f1, f2, f3⟩ := far n1 n3 g1 hc
      exact ⟨c, o, hc, by rw [same c f1 f2 f3]; exact hco, hkc⟩
  · rcases key l1 k1 h1 with ⟨e1, _⟩ | ⟨n1, e1, _⟩ | ⟨n1, n2, n3, g1⟩ <;> rcases key l2 k2 h2 with ⟨e2, _⟩ | ⟨m1, e2, _⟩ | ⟨m1, m2, m3, g2⟩
    · rw [e1, e2]
    · exfalso; rw [e1, e2, hls, Env.put_same] at he; exact hab (Option.some.inj he).symm
    · exfalso; rw [e1, hls] at he; exact (far m1 m3 g2 he.symm).2.1 rfl
    · exfalso; rw [e1, e2, hls, Env.put_same] at he; exact hab (Option.some.inj he)
    · rw [e1, e2]
    · exfalso; rw [e1, Env.put_same] at he; exact nota m1 m3 g2 he.symm
    · exfalso; rw [e2, hls] at he; exact (far n1 n3 g1 he).2.1 rfl
    · exfalso; rw [e2, Env.put_same] at he; exact nota n1 n3 g1 he
    · exact hn.inj l1 l2 k1 k2 g1 g2 hr he
  · rcases key l1 k1 h1 with ⟨rfl, _⟩ | ⟨_, e1, _⟩ | ⟨n1, n2, n3, g1⟩
    · exact hn.own _ ks b1 hs hsw hb1
    · rw [e1, Env.put_same] at hb1; cases hb1
      rcases ha with h1 | h1
      · exact hn.own _ ko _ ho how (hlo.trans (congrArg some h1.symm))
      · exact .inl (Nat.le_trans h.size h1)
    · exact hn.own l1 k1 b1 g1 hr hb1
  · rw [same c (Nat.lt_of_lt_of_le hc h.size) (fun e => by subst e; exact owned hs hsw hls hc hf) (fun e => by subst e; exact owned ho how hlo hc hf)]
    exact hn.frame c hc hf
  · obtain ⟨n1, g1⟩ := Tr.get_del hl
    obtain ⟨b, x, e1, e2, e3, e4⟩ := hB.ok _ _ _ _ g1
    have hls2 : l ≠ ls := fun e => by
      subst e
      rw [g1] at hs; cases hs
      cases nbs
    exact ⟨b, x, e1, e2, fam_local e3 fun y hy => same y (fam_lt e3 hy) (fun e => (hB.apart _ _ _ _ _ _ g1 hs hls2 y hy).1 (by rw [e]; exact hls)) (fun e => (hB.apart _ _ _ _ _ _ g1 ho n1 y hy).1 (by rw [e]; exact hlo)), e4⟩
  · exact hB.apart _ _ _ _ _ _ (Tr.get_del hl).2 (Tr.get_del hl').2
end
end Go.Vm
