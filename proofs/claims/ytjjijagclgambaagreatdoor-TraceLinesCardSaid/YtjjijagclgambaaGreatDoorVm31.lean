/-
  A machine for abstract states over the model (part 31): an object in many blocks lends one of its blocks, and takes one.
-/
import Derived.Test.YtjjijagclgambaaGreatDoorVm30
namespace Go.Vm

section
variable {β : Base} {ρ : Env} {H : Heap} {nl : Nat} {w : World}
/-- Such an object turns into one of another family. -/
theorem HRel.bigTurn (h : HRel β ρ H nl w) {l k : Nat} {c : IT} {rw : Bool} (hl : H.get l = some ⟨.big k c, rw⟩) :
    ∃ b x F, ρ.N l = some b ∧ c.den ρ = some x ∧ fam k x w b F ∧ (rw = true → ∀ w' k' c' x' F', BigStep w w' F F' → fam k' x' w' b F' → c'.den ρ = some x' → HRel β ρ (H.set l ⟨.big k' c', true⟩) nl w') := by
  obtain ⟨Fp, hB⟩ := h.big
  obtain ⟨b, x, hN, hx, hf, h0⟩ := hB.ok _ _ _ _ hl
  refine ⟨b, x, Fp l, hN, hx, hf, fun hrw w' k' c' x' F' s hf' hx' => ?_⟩
  subst hrw
  have h0 := h0 rfl
  have hroot := fam_root hf
  have hlt : ∀ {l1 k1 b1}, H.get l1 = some k1 → ρ.N l1 = some b1 → b1 < w.heap.size := fun h1 h2 => h.lt h1 h2
  have apart1 : ∀ {l1 k1}, H.get l1 = some k1 → l1 ≠ l → ∀ {y}, ρ.N l1 = some y → ¬ Fp l y := fun {_ _} h1 hne {y} hy hF => (hB.apart _ _ _ _ _ _ hl h1 (Ne.symm hne) y hF).1 hy
  refine ⟨fun l1 k1 h1 => ?_, fun l1 l2 k1 k2 h1 h2 hr he => ?_, fun l1 k1 b1 h1 hr hb1 => ?_, h.fresh, h.ownN, Nat.le_trans h.size s.size, fun y hy hn => ?_, s.tape.trans h.tape, s.os.trans h.os, s.out.trans h.out, h.g, fun l1 => if l1 = l then F' else Fp l1, ⟨fun l1 k1 c1 rw1 h1 => ?_, fun l1 l2 k1 c1 rw1 h' h1 h2 hne y hy => ?_⟩⟩
  · rcases Tr.get_set h1 with ⟨rfl, rfl⟩ | ⟨hne, h1⟩
    · have := fam_lt hf' (fam_root hf')
      exact ⟨b, w'.heap[b], hN, Array.getElem?_eq_getElem this, x', hx'⟩
    · obtain ⟨b1, o, hb1, ho, hk⟩ := h.blk l1 k1 h1
      exact ⟨b1, o, hb1, by rw [s.same b1 (hlt h1 hb1) (apart1 h1 hne hb1)]; exact ho, hk⟩
  · rcases Tr.get_set h1 with ⟨e1, e2⟩ | ⟨hne, g1⟩
    · rcases Tr.get_set h2 with ⟨e3, e4⟩ | ⟨hne2, g2⟩
      · rw [e1, e3]
      · rw [e1]; rw [e1] at he; exact h.inj _ _ _ _ hl g2 rfl he
    · rcases Tr.get_set h2 with ⟨e3, e4⟩ | ⟨hne2, g2⟩
      · rw [e3]; rw [e3] at he; exact (h.inj _ _ _ _ hl g1 rfl he.symm).symm
      · exact h.inj _ _ _ _ g1 g2 hr he
  · rcases Tr.get_set h1 with ⟨rfl, rfl⟩ | ⟨hne, h1⟩
    · exact h.own _ _ b1 hl rfl hb1
    · exact h.own l1 k1 b1 h1 hr hb1
  · rw [s.same y (Nat.lt_of_lt_of_le hy h.size) (fun hF => by have := h0 y hF; omega)]
    exact h.frame y hy hn
  · rcases Tr.get_set h1 with ⟨rfl, e⟩ | ⟨hne, h1⟩
    · cases e
      simp only [if_true]
      exact ⟨b, x', hN, hx', hf', fun _ y hy => (s.sub y hy).elim (h0 y) (fun e => Nat.le_trans h.size e)⟩
    · simp only [if_neg hne]
      obtain ⟨b1, x1, e1, e2, e3, e4⟩ := hB.ok _ _ _ _ h1
      exact ⟨b1, x1, e1, e2, fam_local e3 fun y hy => s.same y (fam_lt e3 hy) (fun hF => (hB.apart _ _ _ _ _ _ hl h1 (Ne.symm hne) y hF).2 rfl hy), e4⟩
  · have old : ∀ {l1 k1 c1 rw1}, H.get l1 = some ⟨.big k1 c1, rw1⟩ → ∀ {y}, Fp l1 y → y < w.heap.size := fun {_ _ _ _} h1 {y} hy => by
      obtain ⟨_, _, _, _, e3, _⟩ := hB.ok _ _ _ _ h1
      exact fam_lt e3 hy
    rcases Tr.get_set h1 with ⟨rfl, e⟩ | ⟨hne1, g1⟩
    · rcases Tr.get_set h2 with ⟨e3, _⟩ | ⟨hne2, g2⟩
      · exact absurd e3.symm hne
      · simp only [if_true] at hy
        rw [if_neg hne2]
        rcases s.sub y hy with hF | hge
        · exact hB.apart _ _ _ _ _ _ hl g2 hne y hF
        · refine ⟨fun e => by have := hlt g2 e; omega, fun hnb hy2 => ?_⟩
          obtain ⟨n, c2, hk⟩ := ABlk.nb_of hnb
          obtain ⟨hk', r'⟩ := h'
          simp only at hk; subst hk
          have := old g2 hy2; omega
    · simp only [if_neg hne1] at hy
      rcases Tr.get_set h2 with ⟨rfl, e⟩ | ⟨hne2, g2⟩
      · cases e
        obtain ⟨a1, a2⟩ := hB.apart _ _ _ _ _ _ g1 hl hne y hy
        refine ⟨a1, fun _ hy2 => ?_⟩
        simp only [if_true] at hy2
        rcases s.sub y hy2 with hF | hge
        · exact a2 rfl hF
        · have := old g1 hy; omega
      · rw [if_neg hne2]
        exact hB.apart _ _ _ _ _ _ g1 g2 hne y hy
/-- A block of such an object gets a name of its own. -/
theorem HRel.bigTake (h : HRel β ρ H nl w) {l k : Nat} {c : IT} (hl : H.get l = some ⟨.big k c, true⟩) :
    ∃ b x F, ρ.N l = some b ∧ c.den ρ = some x ∧ fam k x w b F ∧ ∀ {k' : Nat} {c' : IT} {x' : Int} {F' : Nat → Prop} {y0 : Nat} {o : Obj} {kb : ABlk}, fam k' x' w b F' → (∀ y, F' y → F y ∧ y ≠ y0) → F y0 → w.heap[y0]? = some o → kb.nb = true → c'.den (ρ.put nl y0) = some x' → kb.rel (ρ.put nl y0) true o →
      HRel β (ρ.put nl y0) ((H.set l ⟨.big k' c', true⟩).set nl ⟨kb, true⟩) (nl + 1) w := by
  obtain ⟨Fp, hB⟩ := h.big
  obtain ⟨b, x, hN, hx, hf, h0⟩ := hB.ok _ _ _ _ hl
  refine ⟨b, x, Fp l, hN, hx, hf, fun {k' c' x' F' y0 o kb} hf' hsub hy0 ho hnb hx' hrel => ?_⟩
  have h0 := h0 rfl
  have hroot := fam_root hf'
  have hle : ρ.Le (ρ.put nl y0) := Env.le_put (h.fresh nl (Nat.le_refl _))
  have hn := h.num y0
  have hlt : ∀ {l1 k1}, H.get l1 = some k1 → l1 ≠ nl := fun {l1 k1} g1 e => by
    obtain ⟨b1, _, hb1, _⟩ := h.blk l1 k1 g1
    rw [e, h.fresh nl (Nat.le_refl _)] at hb1; cases hb1
  have hNo : ∀ {l1}, l1 ≠ nl → (ρ.put nl y0).N l1 = ρ.N l1 := fun {l1} hne => Env.put_other ρ y0 hne
  have hll := hlt hl
  have hby : b ≠ y0 := (hsub b hroot).2
  have no0 : ∀ {l1 k1}, H.get l1 = some k1 → ρ.N l1 ≠ some y0 := fun {l1 k1} g1 e => by
    by_cases hne : l = l1
    · subst hne; rw [hN] at e; cases e; exact hby rfl
    · exact (hB.apart _ _ _ _ _ _ hl g1 hne y0 hy0).1 e
  refine ⟨fun l1 k1 h1 => ?_, fun l1 l2 k1 k2 h1 h2 hr he => ?_, fun l1 k1 b1 h1 hr hb1 => ?_, hn.fresh, hn.ownN, hn.size, hn.frame, hn.tape, hn.os, hn.out, hn.g, fun l1 => if l1 = l then F' else Fp l1, ⟨fun l1 k1 c1 rw1 h1 => ?_, fun l1 l2 k1 c1 rw1 h' h1 h2 hne y hy => ?_⟩⟩
  · rcases Tr.get_set h1 with ⟨rfl, rfl⟩ | ⟨hne, h1⟩
    · exact ⟨y0, o, Env.put_same .., ho, hrel⟩
    · rcases Tr.get_set h1 with ⟨rfl, rfl⟩ | ⟨hne2, h1⟩
      · have := fam_lt hf' hroot
        exact ⟨b, w.heap[b], (hNo hne).trans hN, Array.getElem?_eq_getElem this, x', hx'⟩
      · exact hn.blk l1 k1 h1
  · rcases Tr.get_set h1 with ⟨rfl, e2⟩ | ⟨hne1, g1⟩
    · rcases Tr.get_set h2 with ⟨e3, e4⟩ | ⟨hne2, g2⟩
      · exact e3.symm
      · exfalso
        rw [Env.put_same, hNo hne2] at he
        rcases Tr.get_set g2 with ⟨rfl, _⟩ | ⟨_, g2⟩
        · exact no0 hl he.symm
        · exact no0 g2 he.symm
    · rcases Tr.get_set h2 with ⟨rfl, e4⟩ | ⟨hne2, g2⟩
      · exfalso
        rw [Env.put_same, hNo hne1] at he
        rcases Tr.get_set g1 with ⟨rfl, _⟩ | ⟨_, g1⟩
        · exact no0 hl he
        · exact no0 g1 he
      · rw [hNo hne1, hNo hne2] at he
        rcases Tr.get_set g1 with ⟨e1, _⟩ | ⟨hn1, g1⟩
        · rcases Tr.get_set g2 with ⟨e3, _⟩ | ⟨hn2, g2⟩
          · rw [e1, e3]
          · rw [e1]; rw [e1] at he; exact h.inj _ _ _ _ hl g2 rfl he
        · rcases Tr.get_set g2 with ⟨e3, _⟩ | ⟨hn2, g2⟩
          · rw [e3]; rw [e3] at he; exact (h.inj _ _ _ _ hl g1 rfl he.symm).symm
          · exact h.inj _ _ _ _ g1 g2 hr he
  · rcases Tr.get_set h1 with ⟨rfl, rfl⟩ | ⟨hne, h1⟩
    · rw [Env.put_same] at hb1; cases hb1
      exact .inl (h0 _ hy0)
    · rcases Tr.get_set h1 with ⟨rfl, rfl⟩ | ⟨hne2, h1⟩
      · rw [hNo hne] at hb1
        rcases h.own _ _ b1 hl rfl hb1 with h3 | ⟨l', hl', e⟩
        · exact .inl h3
        · exact .inr ⟨l', hl', hle.n _ _ e⟩
      · exact hn.own l1 k1 b1 h1 hr hb1
  · rcases Tr.get_set h1 with ⟨rfl, e⟩ | ⟨hne, h1⟩
    · cases e; cases hnb
    · rcases Tr.get_set h1 with ⟨rfl, e⟩ | ⟨hne2, h1⟩
      · cases e
        simp only [if_true]
        exact ⟨b, x', (hNo hne).trans hN, hx', hf', fun _ y hy => h0 y (hsub y hy).1⟩
      · simp only [if_neg hne2]
        obtain ⟨b1, x1, e1, e2, e3, e4⟩ := hB.ok _ _ _ _ h1
        exact ⟨b1, x1, (hNo hne).trans e1, IT.den_mono hle e2, e3, e4⟩
  · rcases Tr.get_set h1 with ⟨rfl, e⟩ | ⟨hne1, g1⟩
    · cases e; cases hnb
    · rcases Tr.get_set g1 with ⟨rfl, e⟩ | ⟨hn1, gg⟩
      · cases e
        simp only [if_true] at hy
        obtain ⟨hF, hne0⟩ := hsub y hy
        rcases Tr.get_set h2 with ⟨rfl, e2⟩ | ⟨hne2, g2⟩
        · cases e2
          refine ⟨fun e => ?_, fun e => by rw [hnb] at e; cases e⟩
          rw [Env.put_same] at e; cases e; exact hne0 rfl
        · rw [hNo hne2]
          rcases Tr.get_set g2 with ⟨e3, _⟩ | ⟨hn2, g2⟩
          · exact absurd e3.symm hne
          · rw [if_neg hn2]
            exact hB.apart _ _ _ _ _ _ hl g2 hne y hF
      · simp only [if_neg hn1] at hy
        rcases Tr.get_set h2 with ⟨rfl, e2⟩ | ⟨hne2, g2⟩
        · cases e2
          refine ⟨fun e => ?_, fun e => by rw [hnb] at e; cases e⟩
          rw [Env.put_same] at e; cases e
          exact (hB.apart _ _ _ _ _ _ gg hl hn1 _ hy).2 rfl hy0
        · rw [hNo hne2]
          rcases Tr.get_set g2 with ⟨rfl, e⟩ | ⟨hn2, g2⟩
          · cases e
            obtain ⟨a1, a2⟩ := hB.apart _ _ _ _ _ _ gg hl hne y hy
            refine ⟨a1, fun _ hy2 => ?_⟩
            simp only [if_true] at hy2
            exact a2 rfl (hsub y hy2).1
          · rw [if_neg hn2]
            exact hB.apart _ _ _ _ _ _ gg g2 hne y hy
/-- A block with a name goes into such an object, which changes. -/
theorem HRel.bigGive (h : HRel β ρ H nl w) (hown : β.own = []) {l k r : Nat} {c : IT} {kb : ABlk} (hl : H.get l = some ⟨.big k c, true⟩) (hr : H.get r = some ⟨kb, true⟩) (hnb : kb.nb = true) :
    ∃ b x F y0 o, ρ.N l = some b ∧ c.den ρ = some x ∧ fam k x w b F ∧ ρ.N r = some y0 ∧ w.heap[y0]? = some o ∧ kb.rel ρ true o ∧ ¬ F y0 ∧ ∀ {w' : World} {k' : Nat} {c' : IT} {x' : Int} {F' : Nat → Prop}, BigStep w w' F (fun y => F' y ∧ y ≠ y0) → fam k' x' w' b F' → c'.den ρ = some x' →
      HRel β ρ ((H.del r).set l ⟨.big k' c', true⟩) nl w' := by
  obtain ⟨Fp, hB⟩ := h.big
  obtain ⟨b, x, hN, hx, hf, h0⟩ := hB.ok _ _ _ _ hl
  obtain ⟨y0, o, hNr, ho, hrel⟩ := h.blk r _ hr
  have hlr : l ≠ r := fun e => by
    subst e; rw [hl] at hr; cases hr; cases hnb
  have hF0 : ¬ Fp l y0 := fun e => (hB.apart _ _ _ _ _ _ hl hr hlr y0 e).1 hNr
  refine ⟨b, x, Fp l, y0, o, hN, hx, hf, hNr, ho, hrel, hF0, fun {w' k' c' x' F'} s hf' hx' => ?_⟩
  have h0 := h0 rfl
  have hlt : ∀ {l1 k1 b1}, H.get l1 = some k1 → ρ.N l1 = some b1 → b1 < w.heap.size := fun h1 h2 => h.lt h1 h2
  have apart1 : ∀ {l1 k1}, H.get l1 = some k1 → l1 ≠ l → ∀ {y}, ρ.N l1 = some y → ¬ Fp l y := fun {_ _} h1 hne {y} hy hF => (hB.apart _ _ _ _ _ _ hl h1 (Ne.symm hne) y hF).1 hy
  have y0ge : β.w0.heap.size ≤ y0 := by
    rcases h.own r _ y0 hr rfl hNr with h1 | ⟨l', hl', _⟩
    · exact h1
    · rw [hown] at hl'; cases hl'
  have other0 : ∀ {l1 k1}, H.get l1 = some k1 → r ≠ l1 → ρ.N l1 ≠ some y0 := fun {l1 k1} h1 hne e => hne (h.inj r l1 _ _ hr h1 rfl (hNr.trans e.symm))
  have big0 : ∀ {l1 k1 c1 rw1}, H.get l1 = some ⟨.big k1 c1, rw1⟩ → l1 ≠ r → ¬ Fp l1 y0 := fun {_ _ _ _} h1 hne e => (hB.apart _ _ _ _ _ _ h1 hr hne y0 e).1 hNr
  have subF : ∀ {y}, F' y → Fp l y ∨ y = y0 ∨ w.heap.size ≤ y := fun {y} hy => by
    by_cases e : y = y0
    · exact .inr (.inl e)
    · exact (s.sub y ⟨hy, e⟩).elim .inl fun h => .inr (.inr h)
  have old : ∀ {l1 k1 c1 rw1}, H.get l1 = some ⟨.big k1 c1, rw1⟩ → ∀ {y}, Fp l1 y → y < w.heap.size := fun {_ _ _ _} h1 {y} hy => by
    obtain ⟨_, _, _, _, e3, _⟩ := hB.ok _ _ _ _ h1
    exact fam_lt e3 hy
  refine ⟨fun l1 k1 h1 => ?_, fun l1 l2 k1 k2 h1 h2 hr1 he => ?_, fun l1 k1 b1 h1 hr1 hb1 => ?_, h.fresh, h.ownN, Nat.le_trans h.size s.size, fun y hy hn => ?_, s.tape.trans h.tape, s.os.trans h.os, s.out.trans h.out, h.g, fun l1 => if l1 = l then F' else Fp l1, ⟨fun l1 k1 c1 rw1 h1 => ?_, fun l1 l2 k1 c1 rw1 h' h1 h2 hne y hy => ?_⟩⟩
  · rcases Tr.get_set h1 with ⟨rfl, rfl⟩ | ⟨hne, h1⟩
    · have := fam_lt hf' (fam_root hf')
      exact ⟨b, w'.heap[b], hN, Array.getElem?_eq_getElem this, x', hx'⟩
    · have h1 := (Tr.get_del h1).2
      obtain ⟨b1, o1, hb1, ho1, hk⟩ := h.blk l1 k1 h1
      exact ⟨b1, o1, hb1, by rw [s.same b1 (hlt h1 hb1) (apart1 h1 hne hb1)]; exact ho1, hk⟩
  · rcases Tr.get_set h1 with ⟨e1, e2⟩ | ⟨hne1, g1⟩
    · rcases Tr.get_set h2 with ⟨e3, e4⟩ | ⟨hne2, g2⟩
      · rw [e1, e3]
      · rw [e1]; rw [e1] at he; exact h.inj _ _ _ _ hl (Tr.get_del g2).2 rfl he
    · rcases Tr.get_set h2 with ⟨e3, e4⟩ | ⟨hne2, g2⟩
      · rw [e3]; rw [e3] at he; exact (h.inj _ _ _ _ hl (Tr.get_del g1).2 rfl he.symm).symm
      · exact h.inj _ _ _ _ (Tr.get_del g1).2 (Tr.get_del g2).2 hr1 he
  · rcases Tr.get_set h1 with ⟨rfl, rfl⟩ | ⟨hne, h1⟩
    · exact h.own _ _ b1 hl rfl hb1
    · exact h.own l1 k1 b1 (Tr.get_del h1).2 hr1 hb1
  · rw [s.same y (Nat.lt_of_lt_of_le hy h.size) (fun hF => by have := h0 y hF; omega)]
    exact h.frame y hy hn
  · rcases Tr.get_set h1 with ⟨rfl, e⟩ | ⟨hne, h1⟩
    · cases e
      simp only [if_true]
      refine ⟨b, x', hN, hx', hf', fun _ y hy => ?_⟩
      rcases subF hy with h2 | rfl | h2
      · exact h0 y h2
      · exact y0ge
      · exact Nat.le_trans h.size h2
    · simp only [if_neg hne]
      have h1 := (Tr.get_del h1).2
      obtain ⟨b1, x1, e1, e2, e3, e4⟩ := hB.ok _ _ _ _ h1
      exact ⟨b1, x1, e1, e2, fam_local e3 fun y hy => s.same y (fam_lt e3 hy) (fun hF => (hB.apart _ _ _ _ _ _ hl h1 (Ne.symm hne) y hF).2 rfl hy), e4⟩
  · rcases Tr.get_set h1 with ⟨rfl, e⟩ | ⟨hne1, g1⟩
    · rcases Tr.get_set h2 with ⟨e3, _⟩ | ⟨hne2, g2⟩
      · exact absurd e3.symm hne
      · obtain ⟨hr2, g2⟩ := Tr.get_del g2
        simp only [if_true] at hy
        rw [if_neg hne2]
        rcases subF hy with hF | rfl | hge
        · exact hB.apart _ _ _ _ _ _ hl g2 hne y hF
        · refine ⟨other0 g2 (fun e => hr2 e.symm), fun hnb2 hy2 => ?_⟩
          obtain ⟨n, c2, hk⟩ := ABlk.nb_of hnb2
          obtain ⟨hk', r'⟩ := h'
          simp only at hk; subst hk
          exact big0 g2 hr2 hy2
        · refine ⟨fun e => by have := hlt g2 e; omega, fun hnb2 hy2 => ?_⟩
          obtain ⟨n, c2, hk⟩ := ABlk.nb_of hnb2
          obtain ⟨hk', r'⟩ := h'
          simp only at hk; subst hk
          have := old g2 hy2; omega
    · simp only [if_neg hne1] at hy
      obtain ⟨hr1, g1⟩ := Tr.get_del g1
      rcases Tr.get_set h2 with ⟨rfl, e⟩ | ⟨hne2, g2⟩
      · cases e
        obtain ⟨a1, a2⟩ := hB.apart _ _ _ _ _ _ g1 hl hne y hy
        refine ⟨a1, fun _ hy2 => ?_⟩
        simp only [if_true] at hy2
        rcases subF hy2 with hF | rfl | hge
        · exact a2 rfl hF
        · exact big0 g1 hr1 hy
        · have := old g1 hy; omega
      · rw [if_neg hne2]
        exact hB.apart _ _ _ _ _ _ g1 (Tr.get_del g2).2 hne y hy
end
end Go.Vm
