/-
  A machine for abstract states over the model (part 29): objects in many blocks: what calls make of them; memory that a call may write.
-/
import Derived.Test.YtjjijagclgambaaGreatDoorVm28
namespace Go.Vm

/-- What a call may do to such an object: it writes in its blocks, and in new ones. -/
structure BigStep (w w' : World) (F F' : Nat → Prop) : Prop where
  size : w.heap.size ≤ w'.heap.size
  same : ∀ y, y < w.heap.size → ¬ F y → w'.heap[y]? = w.heap[y]?
  tape : w'.tape = w.tape
  os : w'.os = w.os
  out : w'.output = w.output
  sub : ∀ y, F' y → F y ∨ w.heap.size ≤ y
theorem Framed.bigStep {w w' : World} (f : Framed w w') {F F' : Nat → Prop} (h : ∀ y, F' y → F y ∨ w.heap.size ≤ y) : BigStep w w' F F' := ⟨f.size, fun y hy _ => f.frame y hy, f.tape, f.os, f.out, h⟩
section
variable {β : Base} {ρ : Env} {H : Heap} {nl : Nat} {w : World}
/-- Such an object, and what may come of it. -/
theorem HRel.bigAt (h : HRel β ρ H nl w) {l k : Nat} {c : IT} {rw : Bool} (hl : H.get l = some ⟨.big k c, rw⟩) :
    ∃ b x F, ρ.N l = some b ∧ c.den ρ = some x ∧ fam k x w b F ∧ (rw = true → ∀ w' c' x' F', BigStep w w' F F' → fam k x' w' b F' → c'.den ρ = some x' → HRel β ρ (H.set l ⟨.big k c', true⟩) nl w') := by
  obtain ⟨Fp, hB⟩ := h.big
  obtain ⟨b, x, hN, hx, hf, h0⟩ := hB.ok _ _ _ _ hl
  refine ⟨b, x, Fp l, hN, hx, hf, fun hrw w' c' x' F' s hf' hx' => ?_⟩
  subst hrw
  have h0 := h0 rfl
  have hroot := fam_root hf
  have hlt : ∀ {l1 k1 b1}, H.get l1 = some k1 → ρ.N l1 = some b1 → b1 < w.heap.size := fun h1 h2 => h.lt h1 h2
  have apart1 : ∀ {l1 k1}, H.get l1 = some k1 → l1 ≠ l → ∀ {y}, ρ.N l1 = some y → ¬ Fp l y := fun {_ _} h1 hne {y} hy hF => (hB.apart _ _ _ _ _ _ hl h1 (Ne.symm hne) y hF).1 hy
  refine ⟨fun l1 k1 h1 => ?_, fun l1 l2 k1 k2 h1 h2 hr he => ?_, fun l1 k1 b1 h1 hr hb1 => ?_, h.fresh, h.ownN, Nat.le_trans h.size s.size, fun y hy hn => ?_, s.tape.trans h.tape, s.os.trans h.os, s.out.trans h.out, h.g, fun l1 => if l1 = l then F' else Fp l1, ⟨fun l1 k1 c1 rw1 h1 => ?_, fun l1 l2 k1 c1 rw1 h' h1 h2 hne y hy => ?_⟩⟩
  · rcases Tr.get_set h1 with ⟨rfl, rfl⟩ | ⟨hne, h1⟩
    · have := fam_lt hf' (fam_root hf')
      exact ⟨b, w'.heap[b], hN, Array.getElem?_eq_getElem this, x', hx'⟩
    · obtain ⟨b1, o, hb1, ho, hk⟩ := h.blk l1 k1 h1
      exact ⟨b1, o, hb1, by rw [s.same b1 (hlt h1 hb1) (apart1 h1 hne hb1)]; exact ho, hk⟩
  · rcases Tr.get_set h1 with ⟨e1, e2⟩ | ⟨hne, g1⟩
    · rcases Tr.get_set h2 with ⟨e3, e4⟩ | ⟨hne2, g2⟩
      · rw [e1, e3]
      · rw [e1]; rw [e1] at he; exact h.inj _ _ _ _ hl g2 rfl he
    · rcases Tr.get_set h2 with ⟨e3, e4⟩ | ⟨hne2, g2⟩
      · rw [e3]; rw [e3] at he; exact (h.inj _ _ _ _ hl g1 rfl he.symm).symm
      · exact h.inj _ _ _ _ g1 g2 hr he
  · rcases Tr.get_set h1 with ⟨rfl, rfl⟩ | ⟨hne, h1⟩
    · exact h.own _ _ b1 hl rfl hb1
    · exact h.own l1 k1 b1 h1 hr hb1
  · rw [s.same y (Nat.lt_of_lt_of_le hy h.size) (fun hF => by have := h0 y hF; omega)]
    exact h.frame y hy hn
  · rcases Tr.get_set h1 with ⟨rfl, e⟩ | ⟨hne, h1⟩
    · cases e
      simp only [if_true]
      exact ⟨b, x', hN, hx', hf', fun _ y hy => (s.sub y hy).elim (h0 y) (fun e => Nat.le_trans h.size e)⟩
    · simp only [if_neg hne]
      obtain ⟨b1, x1, e1, e2, e3, e4⟩ := hB.ok _ _ _ _ h1
      exact ⟨b1, x1, e1, e2, fam_local e3 fun y hy => s.same y (fam_lt e3 hy) (fun hF => (hB.apart _ _ _ _ _ _ hl h1 (Ne.symm hne) y hF).2 rfl hy), e4⟩
  · have old : ∀ {l1 k1 c1 rw1}, H.get l1 = some ⟨.big k1 c1, rw1⟩ → ∀ {y}, Fp l1 y → y < w.heap.size := fun {_ _ _ _} h1 {y} hy => by
      obtain ⟨_, _, _, _, e3, _⟩ := hB.ok _ _ _ _ h1
      exact fam_lt e3 hy
    rcases Tr.get_set h1 with ⟨rfl, e⟩ | ⟨hne1, g1⟩
    · rcases Tr.get_set h2 with ⟨e3, _⟩ | ⟨hne2, g2⟩
      · exact absurd e3.symm hne
      · simp only [if_true] at hy
        rw [if_neg hne2]
        rcases s.sub y hy with hF | hge
        · exact hB.apart _ _ _ _ _ _ hl g2 hne y hF
        · refine ⟨fun e => by have := hlt g2 e; omega, fun hnb hy2 => ?_⟩
          obtain ⟨n, c2, hk⟩ := ABlk.nb_of hnb
          obtain ⟨hk', r'⟩ := h'
          simp only at hk; subst hk
          have := old g2 hy2; omega
    · simp only [if_neg hne1] at hy
      rcases Tr.get_set h2 with ⟨rfl, e⟩ | ⟨hne2, g2⟩
      · cases e
        obtain ⟨a1, a2⟩ := hB.apart _ _ _ _ _ _ g1 hl hne y hy
        refine ⟨a1, fun _ hy2 => ?_⟩
        simp only [if_true] at hy2
        rcases s.sub y hy2 with hF | hge
        · exact a2 rfl hF
        · have := old g1 hy; omega
      · rw [if_neg hne2]
        exact hB.apart _ _ _ _ _ _ g1 g2 hne y hy
/-- A new one. -/
theorem HRel.bigNew (h : HRel β ρ H nl w) {w' : World} (f : Framed w w') {k b : Nat} {c : IT} {x : Int} {F : Nat → Prop} (hf : fam k x w' b F) (hF : ∀ y, F y → w.heap.size ≤ y) (hx : c.den ρ = some x) :
    HRel β (ρ.put nl b) (H.set nl ⟨.big k c, true⟩) (nl + 1) w' := by
  have hle : ρ.Le (ρ.put nl b) := Env.le_put (h.fresh nl (Nat.le_refl _))
  have h1 := h.framed f
  have hn := h1.num b
  have hlt : ∀ {l1 k1 b1}, H.get l1 = some k1 → (ρ.put nl b).N l1 = some b1 → l1 ≠ nl → b1 < w.heap.size := fun {l1 k1 b1} g1 g2 hne => by
    rw [Env.put_other ρ b hne] at g2
    exact h.lt g1 g2
  have hnlt : ∀ {l1 k1}, H.get l1 = some k1 → l1 ≠ nl := fun {l1 k1} g1 e => by
    obtain ⟨b1, _, hb1, _⟩ := h.blk l1 k1 g1
    rw [e, h.fresh nl (Nat.le_refl _)] at hb1; cases hb1
  obtain ⟨Fq, hQ⟩ := h.big
  have hQ' := (hQ.agree fun y hy => f.frame y hy).le hle fun l k hl => Env.put_other ρ b (hnlt hl)
  have oldQ : ∀ {l1 k1 c1 rw1}, H.get l1 = some ⟨.big k1 c1, rw1⟩ → ∀ {y}, Fq l1 y → y < w.heap.size := fun {_ _ _ _} g1 {y} hy => by
    obtain ⟨_, _, _, _, e3, _⟩ := hQ.ok _ _ _ _ g1
    exact fam_lt e3 hy
  have hroot := hF b (fam_root hf)
  refine ⟨fun l k' hl => ?_, fun l l' k1 k2 hl hl' hr he => ?_, fun l k' b' hl hr hb' => ?_, hn.fresh, hn.ownN, hn.size, hn.frame, hn.tape, hn.os, hn.out, hn.g, fun l1 => if l1 = nl then F else Fq l1, ⟨fun l1 k1 c1 rw1 g1 => ?_, fun l1 l2 k1 c1 rw1 h' g1 g2 hne y hy => ?_⟩⟩
  · rcases Tr.get_set hl with ⟨rfl, rfl⟩ | ⟨hne', hl⟩
    · have := fam_lt hf (fam_root hf)
      exact ⟨b, w'.heap[b], Env.put_same .., Array.getElem?_eq_getElem this, x, IT.den_mono hle hx⟩
    · exact hn.blk l k' hl
  · rcases Tr.get_set hl with ⟨e1, e2⟩ | ⟨hne1, g1⟩
    · rcases Tr.get_set hl' with ⟨e3, e4⟩ | ⟨hne2, g2⟩
      · rw [e1, e3]
      · rw [e1, Env.put_same] at he
        have := hlt g2 he.symm hne2
        omega
    · rcases Tr.get_set hl' with ⟨e3, e4⟩ | ⟨hne2, g2⟩
      · rw [e3, Env.put_same] at he
        have := hlt g1 he hne1
        omega
      · exact hn.inj l l' k1 k2 g1 g2 hr he
  · rcases Tr.get_set hl with ⟨rfl, rfl⟩ | ⟨hne', hl⟩
    · rw [Env.put_same] at hb'; cases hb'
      exact .inl (Nat.le_trans h.size hroot)
    · exact hn.own l k' b' hl hr hb'
  · rcases Tr.get_set g1 with ⟨rfl, e⟩ | ⟨hne', g1⟩
    · cases e
      simp only [if_true]
      exact ⟨b, x, Env.put_same .., IT.den_mono hle hx, hf, fun _ y hy => Nat.le_trans h.size (hF y hy)⟩
    · simp only [if_neg hne']
      exact hQ'.ok _ _ _ _ g1
  · rcases Tr.get_set g1 with ⟨rfl, e⟩ | ⟨hne1, g1⟩
    · rcases Tr.get_set g2 with ⟨e3, _⟩ | ⟨hne2, g2⟩
      · exact absurd e3.symm hne
      · simp only [if_true] at hy
        rw [if_neg hne2]
        have hge := hF y hy
        refine ⟨fun e => by have := hlt g2 e hne2; omega, fun hnb hy2 => ?_⟩
        obtain ⟨n, c2, hk⟩ := ABlk.nb_of hnb
        obtain ⟨hk', r'⟩ := h'
        simp only at hk; subst hk
        have := oldQ g2 hy2; omega
    · simp only [if_neg hne1] at hy
      have hy2 := oldQ g1 hy
      rcases Tr.get_set g2 with ⟨rfl, e⟩ | ⟨hne2, g2⟩
      · refine ⟨fun e => ?_, fun _ hy3 => ?_⟩
        · rw [Env.put_same] at e; cases e; omega
        · simp only [if_true] at hy3
          have := hF y hy3; omega
      · rw [if_neg hne2]
        exact hQ'.apart _ _ _ _ _ _ g1 g2 hne y hy
end
/-- These blocks; those of 'own' may be written. -/
theorem HRel.owned {w : World} {ρ : Env} {G : GP} {nl : Nat} {own : List Nat} (L : List (Nat × HB)) (h : ∀ p ∈ L, ∃ b o, ρ.N p.1 = some b ∧ w.heap[b]? = some o ∧ p.2.k.rel ρ p.2.rw o) (inj : ∀ p ∈ L, ∀ q ∈ L, p.2.rw = true → ρ.N p.1 = ρ.N q.1 → p.1 = q.1) (ho : ∀ p ∈ L, p.2.rw = true → p.1 ∈ own)
    (hN : ∀ i, nl ≤ i → ρ.N i = none) (hown : ∀ l ∈ own, l < nl) (hG : G ρ.I ρ.B ρ.S ρ.V ρ.F) (hnb : (L.all fun p => p.2.k.nb) = true := by rfl) : HRel ⟨w, own, G⟩ ρ (ofP L) nl w := by
  refine ⟨fun l k hl => ?_, fun l l' k k' hl hl' hr he => ?_, fun l k b' hl hr hb => ?_, hN, hown, Nat.le_refl _, fun _ _ _ => rfl, rfl, rfl, rfl, hG, BigAt.none fun l k hl => ?_⟩
  · exact h _ (ofP_mem hl)
  · exact inj _ (ofP_mem hl) _ (ofP_mem hl') hr he
  · exact .inr ⟨l, ho _ (ofP_mem hl) hr, hb⟩
  · exact List.all_eq_true.1 hnb _ (ofP_mem hl)
end Go.Vm
