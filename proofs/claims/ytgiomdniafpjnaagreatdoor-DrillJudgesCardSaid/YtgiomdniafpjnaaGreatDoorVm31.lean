/-
  A machine for abstract states over the model (part 29): objects in many blocks: what calls make of them; memory that a call may write.
-/
import Derived.Test.YtgiomdniafpjnaaGreatDoorVm28
section
namespace Go.Vm

/-- What a call may do to such an object: it writes in its blocks, and in new ones. -/
structure BigStep (w w' : World) (F F' : Nat → Prop) : Prop where
  size : w.heap.size ≤ w'.heap.size
  same : ∀ y, y < w.heap.size → ¬ F y → w'.heap[y]? = w.heap[y]?
  tape : w'.tape = w.tape
  os : w'.os = w.os
  out : w'.output = w.output
  sub : ∀ y, F' y → F y ∨ w.heap.size ≤ y
theorem Framed.bigStep {w w' : World} (f : Framed w w') {F F' : Nat → Prop} (h : ∀ y, F' y → F y ∨ w.heap.size ≤ y) : BigStep w w' F F' := ⟨f.size, fun y hy _ => f.frame y hy, f.tape, f.os, f.out, h⟩
section
variable {β : Base} {ρ : Env} {H : Heap} {nl : Nat} {w : World}
/-- Such an object, and what may come of it. -/
theorem HRel.bigAtF (h : HRel β ρ H nl w) {Fp : Nat → Nat → Prop} (hB : BigAt ρ H β.dom w Fp) {l k : Nat} {c : IT} {rw : Bool} (hl : H.get l = some ⟨.big k c, rw⟩) :
    ∃ b x, ρ.N l = some b ∧ c.den ρ = some x ∧ fam k x w b (Fp l) ∧ (rw = true → ∀ w' c' x' F', BigStep w w' (Fp l) F' → fam k x' w' b F' → c'.den ρ = some x' → HRel β ρ (H.set l ⟨.big k c', true⟩) nl w') := by
  obtain ⟨b, x, hN, hx, hf, h0⟩ := hB.ok _ _ _ _ hl
  refine ⟨b, x, hN, hx, hf, fun hrw w' c' x' F' s hf' hx' => ?_⟩
  subst hrw
  have h0 := h0 rfl
  have hroot := fam_root hf
  have hlt : ∀ {l1 k1 b1}, H.get l1 = some k1 → ρ.N l1 = some b1 → b1 < w.heap.size := fun h1 h2 => h.lt h1 h2
  have apart1 : ∀ {l1 k1}, H.get l1 = some k1 → l1 ≠ l → ∀ {y}, ρ.N l1 = some y → ¬ Fp l y := fun {_ _} h1 hne {y} hy hF => (hB.apart _ _ _ _ _ _ hl h1 (Ne.symm hne) y hF).1 hy
  refine ⟨fun l1 k1 h1 => ?_, fun l1 l2 k1 k2 h1 h2 hr he => ?_, fun l1 k1 b1 h1 hr hb1 => ?_, h.fresh, h.ownN, Nat.le_trans h.size s.size, fun y hy hn => ?_, s.tape.trans h.tape, s.os.trans h.os, s.out.trans h.out, h.g, fun l1 => if l1 = l then F' else Fp l1, ⟨fun l1 k1 c1 rw1 h1 => ?_, fun l1 l2 k1 c1 rw1 h' h1 h2 hne y hy => ?_⟩⟩
  · rcases Tr.get_set h1 with ⟨rfl, rfl⟩ | ⟨hne, h1⟩
    · have := fam_lt hf' (fam_root hf')
      exact ⟨b, w'.heap[b], hN, Array.getElem?_eq_getElem this, x', hx'⟩
    · obtain ⟨b1, o, hb1, ho, hk⟩ := h.blk l1 k1 h1
      exact ⟨b1, o, hb1, by rw [s.same b1 (hlt h1 hb1) (apart1 h1 hne hb1)]; exact ho, hk⟩
  · rcases Tr.get_set h1 with ⟨e1, e2⟩ | ⟨hne, g1⟩
    · rcases Tr.get_set h2 with ⟨e3, e4⟩ | ⟨hne2, g2⟩
      · rw [e1, e3]
      · rw [e1]; rw [e1] at he; exact h.inj _ _ _ _ hl g2 rfl he
    · rcases Tr.get_set h2 with ⟨e3, e4⟩ | ⟨hne2, g2⟩
      · rw [e3]; rw [e3] at he; exact (h.inj _ _ _ _ hl g1 rfl he.symm).symm
      · exact h.inj _ _ _ _ g1 g2 hr he
  · rcases Tr.get_set h1 with ⟨rfl, rfl⟩ | ⟨hne, h1⟩
    · exact h.own _ _ b1 hl rfl hb1
    · exact h.own l1 k1 b1 h1 hr hb1
  · rw [s.same y (Nat.lt_of_lt_of_le hy h.size) (fun hF => (h0 y hF).elim (fun e => by omega) hn)]
    exact h.frame y hy hn
  · rcases Tr.get_set h1 with ⟨rfl, e⟩ | ⟨hne, h1⟩
    · cases e
      simp only [if_true]
      exact ⟨b, x', hN, hx', hf', fun _ y hy => (s.sub y hy).elim (h0 y) (fun e => .inl (Nat.le_trans h.size e))⟩
    · simp only [if_neg hne]
      obtain ⟨b1, x1, e1, e2, e3, e4⟩ := hB.ok _ _ _ _ h1
      exact ⟨b1, x1, e1, e2, fam_local e3 fun y hy => s.same y (fam_lt e3 hy) (fun hF => (hB.apart _ _ _ _ _ _ hl h1 (Ne.symm hne) y hF).2 rfl hy), e4⟩
  · have old : ∀ {l1 k1 c1 rw1}, H.get l1 = some ⟨.big k1 c1, rw1⟩ → ∀ {y}, Fp l1 y → y < w.heap.size := fun {_ _ _ _} h1 {y} hy => by
      obtain ⟨_, _, _, _, e3, _⟩ := hB.ok _ _ _ _ h1
      exact fam_lt e3 hy
    rcases Tr.get_set h1 with ⟨rfl, e⟩ | ⟨hne1, g1⟩
    · rcases Tr.get_set h2 with ⟨e3, _⟩ | ⟨hne2, g2⟩
      · exact absurd e3.symm hne
      · simp only [if_true] at hy
        rw [if_neg hne2]
        rcases s.sub y hy with hF | hge
        · exact hB.apart _ _ _ _ _ _ hl g2 hne y hF
        · refine ⟨fun e => by have := hlt g2 e; omega, fun hnb hy2 => ?_⟩
          obtain ⟨n, c2, hk⟩ := ABlk.nb_of hnb
          obtain ⟨hk', r'⟩ := h'
          simp only at hk; subst hk
          have := old g2 hy2; omega
    · simp only [if_neg hne1] at hy
      rcases Tr.get_set h2 with ⟨rfl, e⟩ | ⟨hne2, g2⟩
      · cases e
        obtain ⟨a1, a2⟩ := hB.apart _ _ _ _ _ _ g1 hl hne y hy
        refine ⟨a1, fun _ hy2 => ?_⟩
        simp only [if_true] at hy2
        rcases s.sub y hy2 with hF | hge
        · exact a2 rfl hF
        · have := old g1 hy; omega
      · rw [if_neg hne2]
        exact hB.apart _ _ _ _ _ _ g1 g2 hne y hy
theorem HRel.bigAt (h : HRel β ρ H nl w) {l k : Nat} {c : IT} {rw : Bool} (hl : H.get l = some ⟨.big k c, rw⟩) :
    ∃ b x F, ρ.N l = some b ∧ c.den ρ = some x ∧ fam k x w b F ∧ (rw = true → ∀ w' c' x' F', BigStep w w' F F' → fam k x' w' b F' → c'.den ρ = some x' → HRel β ρ (H.set l ⟨.big k c', true⟩) nl w') := by
  obtain ⟨Fp, hB⟩ := h.big
  obtain ⟨b, x, h1⟩ := h.bigAtF hB hl
  exact ⟨b, x, Fp l, h1⟩
/-- The same, where what comes of it is told by a new name; it lies apart from another block that has a name. -/
theorem HRel.bigAtN (h : HRel β ρ H nl w) {l k : Nat} {c : IT} {rw : Bool} (hl : H.get l = some ⟨.big k c, rw⟩) :
    ∃ b x F, ρ.N l = some b ∧ c.den ρ = some x ∧ fam k x w b F ∧ (∀ l' k' y, H.get l' = some k' → l ≠ l' → ρ.N l' = some y → ¬ F y) ∧
      (rw = true → ∀ n w' c' x' F', BigStep w w' F F' → fam k x' w' b F' → c'.den (ρ.put nl n) = some x' → HRel β (ρ.put nl n) (H.set l ⟨.big k c', true⟩) (nl + 1) w') := by
  obtain ⟨Fp, hB⟩ := h.big
  obtain ⟨b, x, h1, h2, h3, _⟩ := h.bigAtF hB hl
  refine ⟨b, x, Fp l, h1, h2, h3, fun l' k' y hl' hne hy hF => (hB.apart _ _ _ _ _ _ hl hl' hne y hF).1 hy, fun hrw n w' c' x' F' s hf' hx' => ?_⟩
  have hle : ρ.Le (ρ.put nl n) := Env.le_put (h.fresh nl (Nat.le_refl _))
  have hnl : ∀ {l1 k1}, H.get l1 = some k1 → l1 ≠ nl := fun {l1 k1} g1 e => by
    obtain ⟨b1, _, hb1, _⟩ := h.blk l1 k1 g1
    rw [e, h.fresh nl (Nat.le_refl _)] at hb1; cases hb1
  obtain ⟨b2, x2, g1, _, _, g4⟩ := (h.num n).bigAtF (hB.le hle fun l1 k1 hl1 => Env.put_other ρ n (hnl hl1)) hl
  obtain rfl : b2 = b := by
    have := hle.n _ _ h1
    rw [g1] at this; exact Option.some.inj this
  exact g4 hrw w' c' x' F' s hf' hx'
/-- A new one. -/
theorem HRel.bigNew (h : HRel β ρ H nl w) {w' : World} (f : Framed w w') {k b : Nat} {c : IT} {x : Int} {F : Nat → Prop} (hf : fam k x w' b F) (hF : ∀ y, F y → w.heap.size ≤ y) (hx : c.den ρ = some x) :
    HRel β (ρ.put nl b) (H.set nl ⟨.big k c, true⟩) (nl + 1) w' := by
  have hle : ρ.Le (ρ.put nl b) := Env.le_put (h.fresh nl (Nat.le_refl _))
  have h1 := h.framed f
  have hn := h1.num b
  have hlt : ∀ {l1 k1 b1}, H.get l1 = some k1 → (ρ.put nl b).N l1 = some b1 → l1 ≠ nl → b1 < w.heap.size := fun {l1 k1 b1} g1 g2 hne => by
    rw [Env.put_other ρ b hne] at g2
    exact h.lt g1 g2
  have hnlt : ∀ {l1 k1}, H.get l1 = some k1 → l1 ≠ nl := fun {l1 k1} g1 e => by
    obtain ⟨b1, _, hb1, _⟩ := h.blk l1 k1 g1
    rw [e, h.fresh nl (Nat.le_refl _)] at hb1; cases hb1
  obtain ⟨Fq, hQ⟩ := h.big
  have hQ' := (hQ.agree fun y hy => f.frame y hy).le hle fun l k hl => Env.put_other ρ b (hnlt hl)
  have oldQ : ∀ {l1 k1 c1 rw1}, H.get l1 = some ⟨.big k1 c1, rw1⟩ → ∀ {y}, Fq l1 y → y < w.heap.size := fun {_ _ _ _} g1 {y} hy => by
    obtain ⟨_, _, _, _, e3, _⟩ := hQ.ok _ _ _ _ g1
    exact fam_lt e3 hy
  have hroot := hF b (fam_root hf)
  refine ⟨fun l k' hl => ?_, fun l l' k1 k2 hl hl' hr he => ?_, fun l k' b' hl hr hb' => ?_, hn.fresh, hn.ownN, hn.size, hn.frame, hn.tape, hn.os, hn.out, hn.g, fun l1 => if l1 = nl then F else Fq l1, ⟨fun l1 k1 c1 rw1 g1 => ?_, fun l1 l2 k1 c1 rw1 h' g1 g2 hne y hy => ?_⟩⟩
  · rcases Tr.get_set hl with ⟨rfl, rfl⟩ | ⟨hne', hl⟩
    · have := fam_lt hf (fam_root hf)
      exact ⟨b, w'.heap[b], Env.put_same .., Array.getElem?_eq_getElem this, x, IT.den_mono hle hx⟩
    · exact hn.blk l k' hl
  · rcases Tr.get_set hl with ⟨e1, e2⟩ | ⟨hne1, g1⟩
    · rcases Tr.get_set hl' with ⟨e3, e4⟩ | ⟨hne2, g2⟩
      · rw [e1, e3]
      · rw [e1, Env.put_same] at he
        have := hlt g2 he.symm hne2
        omega
    · rcases Tr.get_set hl' with ⟨e3, e4⟩ | ⟨hne2, g2⟩
      · rw [e3, Env.put_same] at he
        have := hlt g1 he hne1
        omega
      · exact hn.inj l l' k1 k2 g1 g2 hr he
  · rcases Tr.get_set hl with ⟨rfl, rfl⟩ | ⟨hne', hl⟩
    · rw [Env.put_same] at hb'; cases hb'
      exact .inl (Nat.le_trans h.size hroot)
    · exact hn.own l k' b' hl hr hb'
  · rcases Tr.get_set g1 with ⟨rfl, e⟩ | ⟨hne', g1⟩
    · cases e
      simp only [if_true]
      exact ⟨b, x, Env.put_same .., IT.den_mono hle hx, hf, fun _ y hy => .inl (Nat.le_trans h.size (hF y hy))⟩
    · simp only [if_neg hne']
      exact hQ'.ok _ _ _ _ g1
  · rcases Tr.get_set g1 with ⟨rfl, e⟩ | ⟨hne1, g1⟩
    · rcases Tr.get_set g2 with ⟨e3, _⟩ | ⟨hne2, g2⟩
      · exact absurd e3.symm hne
      · simp only [if_true] at hy
        rw [if_neg hne2]
        have hge := hF y hy
        refine ⟨fun e => by have := hlt g2 e hne2; omega, fun hnb hy2 => ?_⟩
        obtain ⟨n, c2, hk⟩ := ABlk.nb_of hnb
        obtain ⟨hk', r'⟩ := h'
        simp only at hk; subst hk
        have := oldQ g2 hy2; omega
    · simp only [if_neg hne1] at hy
      have hy2 := oldQ g1 hy
      rcases Tr.get_set g2 with ⟨rfl, e⟩ | ⟨hne2, g2⟩
      · refine ⟨fun e => ?_, fun _ hy3 => ?_⟩
        · rw [Env.put_same] at e; cases e; omega
        · simp only [if_true] at hy3
          have := hF y hy3; omega
      · rw [if_neg hne2]
        exact hQ'.apart _ _ _ _ _ _ g1 g2 hne y hy
end
/-- These blocks and objects; those of 'own' may be written. -/
theorem HRel.ownedB {w : World} {ρ : Env} {G : GP} {nl : Nat} {own : Nat → Prop} (L : List (Nat × HB)) (h : ∀ p ∈ L, ∃ b o, ρ.N p.1 = some b ∧ w.heap[b]? = some o ∧ p.2.k.rel ρ p.2.rw o) (inj : ∀ p ∈ L, ∀ q ∈ L, p.2.rw = true → ρ.N p.1 = ρ.N q.1 → p.1 = q.1)
    (ho : ∀ p ∈ L, p.2.rw = true → ∀ b, ρ.N p.1 = some b → own b) (hN : ∀ i, nl ≤ i → ρ.N i = none) (hG : G ρ.I ρ.B ρ.S ρ.V ρ.F) (hB : ∃ Fp, BigAt ρ (ofP L) (Base.dom ⟨w, own, G⟩) w Fp) (hTT : ∀ i, nl ≤ i → ρ.T i = none := by exact fun _ _ => rfl) : HRel ⟨w, own, G⟩ ρ (ofP L) nl w := by
  refine ⟨fun l k hl => ?_, fun l l' k k' hl hl' hr he => ?_, fun l k b' hl hr hb => ?_, hN, hTT, Nat.le_refl _, fun _ _ _ => rfl, rfl, rfl, rfl, hG, hB⟩
  · exact h _ (ofP_mem hl)
  · exact inj _ (ofP_mem hl) _ (ofP_mem hl') hr he
  · exact .inr (ho _ (ofP_mem hl) hr _ hb)
/-- These blocks; those of 'own' may be written. -/
theorem HRel.owned {w : World} {ρ : Env} {G : GP} {nl : Nat} {own : Nat → Prop} (L : List (Nat × HB)) (h : ∀ p ∈ L, ∃ b o, ρ.N p.1 = some b ∧ w.heap[b]? = some o ∧ p.2.k.rel ρ p.2.rw o) (inj : ∀ p ∈ L, ∀ q ∈ L, p.2.rw = true → ρ.N p.1 = ρ.N q.1 → p.1 = q.1)
    (ho : ∀ p ∈ L, p.2.rw = true → ∀ b, ρ.N p.1 = some b → own b) (hN : ∀ i, nl ≤ i → ρ.N i = none) (hG : G ρ.I ρ.B ρ.S ρ.V ρ.F) (hnb : (L.all fun p => p.2.k.nb) = true := by rfl) (hTT : ∀ i, nl ≤ i → ρ.T i = none := by exact fun _ _ => rfl) : HRel ⟨w, own, G⟩ ρ (ofP L) nl w :=
  HRel.ownedB L h inj ho hN hG (BigAt.none fun _ _ hl => List.all_eq_true.1 hnb _ (ofP_mem hl)) hTT
end Go.Vm
end

/-
  A machine for abstract states over the model (part 30): blocks that a call has laid are taken over, one by one.
-/
section
namespace Go.Vm

/-- All that has a name lies below s, or among A. -/
structure HX (β : Base) (ρ : Env) (H : Heap) (nl : Nat) (w : World) (s : Nat) (A : Nat → Prop) : Prop where
  h : HRel β ρ H nl w
  bl : ∀ l k b, H.get l = some k → ρ.N l = some b → b < s ∨ A b
  bg : ∃ Fp, BigAt ρ H β.dom w Fp ∧ ∀ l k c rw y, H.get l = some ⟨.big k c, rw⟩ → Fp l y → y < s ∨ A y
  le : β.w0.heap.size ≤ s
section
variable {β : Base} {ρ : Env} {H : Heap} {nl : Nat} {w w' : World} {s : Nat} {A : Nat → Prop}
theorem HX.start (h : HRel β ρ H nl w) (f : Framed w w') : HX β ρ H nl w' w.heap.size fun _ => False := by
  obtain ⟨Fp, hB⟩ := h.big
  refine ⟨h.framed f, fun l k b hl hb => .inl (h.lt hl hb), ⟨Fp, hB.agree fun y hy => f.frame y hy, fun l k c rw y hl hy => ?_⟩, h.size⟩
  obtain ⟨_, _, _, _, e3, _⟩ := hB.ok _ _ _ _ hl
  exact .inl (fam_lt e3 hy)
theorem HX.ne (h : HX β ρ H nl w s A) {l : Nat} {k : HB} (hl : H.get l = some k) : l ≠ nl := fun e => by
  obtain ⟨b, _, hb, _⟩ := h.h.blk l k hl
  rw [e, h.h.fresh nl (Nat.le_refl _)] at hb; cases hb
theorem HX.num (h : HX β ρ H nl w s A) (c : Nat) : HX β (ρ.put nl c) H (nl + 1) w s A := by
  have hle : ρ.Le (ρ.put nl c) := Env.le_put (h.h.fresh nl (Nat.le_refl _))
  obtain ⟨Fp, hB, hF⟩ := h.bg
  refine ⟨h.h.num c, fun l k b hl hb => h.bl l k b hl ?_, ⟨Fp, hB.le hle fun l k hl => Env.put_other ρ c (h.ne hl), hF⟩, h.le⟩
  rw [Env.put_other ρ c (h.ne hl)] at hb; exact hb
theorem HX.row (h : HX β ρ H nl w s A) {b : Nat} {o : Obj} {k : ABlk} {rw : Bool} (hb : s ≤ b) (hA : ¬ A b) (ho : w.heap[b]? = some o) (hk : k.rel (ρ.put nl b) rw o) (hnb : k.nb = true := by rfl) :
    HX β (ρ.put nl b) (H.set nl ⟨k, rw⟩) (nl + 1) w s fun y => A y ∨ y = b := by
  have hn := h.num b
  have hne : ∀ l k' c, H.get l = some k' → ρ.N l = some c → c ≠ b := fun l k' c hl hc e => by
    subst e
    rcases h.bl l k' c hl hc with h1 | h1
    · omega
    · exact hA h1
  obtain ⟨Fp, hB, hF⟩ := hn.bg
  have hset : BigAt (ρ.put nl b) (H.set nl ⟨k, rw⟩) β.dom w Fp := hB.set hnb (Env.put_same ..) (fun l k' c rw' hl _ hy => by
    rcases hF l k' c rw' b hl hy with h1 | h1
    · omega
    · exact hA h1) (fun _ _ _ => rfl)
  refine ⟨⟨fun l k' hl => ?_, fun l l' k1 k2 hl hl' hr he => ?_, fun l k' b' hl hr hb' => ?_, hn.h.fresh, hn.h.ownN, hn.h.size, hn.h.frame, hn.h.tape, hn.h.os, hn.h.out, hn.h.g, Fp, hset⟩, fun l k' b' hl hb' => ?_, ⟨Fp, hset, fun l k' c rw' y hl hy => ?_⟩, h.le⟩
  · rcases Tr.get_set hl with ⟨rfl, rfl⟩ | ⟨_, hl⟩
    · exact ⟨b, o, Env.put_same .., ho, hk⟩
    · exact hn.h.blk l k' hl
  · rcases Tr.get_set hl with ⟨e1, e2⟩ | ⟨hne1, g1⟩
    · rcases Tr.get_set hl' with ⟨e3, e4⟩ | ⟨hne2, g2⟩
      · rw [e1, e3]
      · obtain ⟨c, o', hc, _⟩ := h.h.blk l' k2 g2
        rw [e1, Env.put_same, Env.put_other ρ _ hne2, hc] at he
        injection he with he
        exact absurd he.symm (hne l' k2 c g2 hc)
    · rcases Tr.get_set hl' with ⟨e3, e4⟩ | ⟨hne2, g2⟩
      · obtain ⟨c, o', hc, _⟩ := h.h.blk l k1 g1
        rw [e3, Env.put_same, Env.put_other ρ _ hne1, hc] at he
        injection he with he
        exact absurd he (hne l k1 c g1 hc)
      · exact hn.h.inj l l' k1 k2 g1 g2 hr he
  · rcases Tr.get_set hl with ⟨rfl, rfl⟩ | ⟨_, hl⟩
    · rw [Env.put_same] at hb'; cases hb'
      exact .inl (Nat.le_trans h.le hb)
    · exact hn.h.own l k' b' hl hr hb'
  · rcases Tr.get_set hl with ⟨rfl, rfl⟩ | ⟨_, hl⟩
    · rw [Env.put_same] at hb'; cases hb'; exact .inr (.inr rfl)
    · exact (hn.bl l k' b' hl hb').imp id .inl
  · rcases Tr.get_set hl with ⟨rfl, e⟩ | ⟨_, hl⟩
    · cases e; cases hnb
    · exact (hF l k' c rw' y hl hy).imp id .inl
theorem HX.big (h : HX β ρ H nl w s A) {k b : Nat} {c : IT} {x : Int} {F : Nat → Prop} (hf : fam k x w b F) (hF : ∀ y, F y → s ≤ y ∧ ¬ A y) (hx : c.den ρ = some x) :
    HX β (ρ.put nl b) (H.set nl ⟨.big k c, true⟩) (nl + 1) w s fun y => A y ∨ F y := by
  have hn := h.num b
  have hle : ρ.Le (ρ.put nl b) := Env.le_put (h.h.fresh nl (Nat.le_refl _))
  obtain ⟨Fq, hQ, hq⟩ := hn.bg
  have hnot : ∀ {l1 k1 b1}, H.get l1 = some k1 → (ρ.put nl b).N l1 = some b1 → ¬ F b1 := fun {l1 k1 b1} g1 g2 hy => by
    obtain ⟨h1, h2⟩ := hF _ hy
    rcases hn.bl l1 k1 b1 g1 g2 with h3 | h3
    · omega
    · exact h2 h3
  have hnotF : ∀ {l1 k1 c1 rw1 y}, H.get l1 = some ⟨.big k1 c1, rw1⟩ → Fq l1 y → ¬ F y := fun {l1 k1 c1 rw1 y} g1 g2 hy => by
    obtain ⟨h1, h2⟩ := hF _ hy
    rcases hq l1 k1 c1 rw1 y g1 g2 with h3 | h3
    · omega
    · exact h2 h3
  have hset : BigAt (ρ.put nl b) (H.set nl ⟨.big k c, true⟩) β.dom w fun l1 => if l1 = nl then F else Fq l1 := by
    refine ⟨fun l1 k1 c1 rw1 g1 => ?_, fun l1 l2 k1 c1 rw1 h' g1 g2 hne y hy => ?_⟩
    · rcases Tr.get_set g1 with ⟨rfl, e⟩ | ⟨hne', g1⟩
      · cases e
        simp only [if_true]
        exact ⟨b, x, Env.put_same .., IT.den_mono hle hx, hf, fun _ y hy => .inl (Nat.le_trans h.le (hF y hy).1)⟩
      · simp only [if_neg hne']
        exact hQ.ok _ _ _ _ g1
    · rcases Tr.get_set g1 with ⟨rfl, e⟩ | ⟨hne1, g1'⟩
      · rcases Tr.get_set g2 with ⟨e3, _⟩ | ⟨hne2, g2⟩
        · exact absurd e3.symm hne
        · simp only [if_true] at hy
          rw [if_neg hne2]
          refine ⟨fun e => hnot g2 e hy, fun hnb hy2 => ?_⟩
          obtain ⟨n, c2, hk⟩ := ABlk.nb_of hnb
          obtain ⟨hk', r'⟩ := h'
          simp only at hk; subst hk
          exact hnotF g2 hy2 hy
      · simp only [if_neg hne1] at hy
        rcases Tr.get_set g2 with ⟨rfl, e⟩ | ⟨hne2, g2⟩
        · refine ⟨fun e => ?_, fun _ hy3 => ?_⟩
          · rw [Env.put_same] at e; cases e
            exact hnotF g1' hy (fam_root hf)
          · simp only [if_true] at hy3
            exact hnotF g1' hy hy3
        · rw [if_neg hne2]
          exact hQ.apart _ _ _ _ _ _ g1' g2 hne y hy
  refine ⟨⟨fun l k' hl => ?_, fun l l' k1 k2 hl hl' hr he => ?_, fun l k' b' hl hr hb' => ?_, hn.h.fresh, hn.h.ownN, hn.h.size, hn.h.frame, hn.h.tape, hn.h.os, hn.h.out, hn.h.g, _, hset⟩, fun l k' b' hl hb' => ?_, ⟨_, hset, fun l k' c' rw' y hl hy => ?_⟩, h.le⟩
  · rcases Tr.get_set hl with ⟨rfl, rfl⟩ | ⟨_, hl⟩
    · have := fam_lt hf (fam_root hf)
      exact ⟨b, w.heap[b], Env.put_same .., Array.getElem?_eq_getElem this, x, IT.den_mono hle hx⟩
    · exact hn.h.blk l k' hl
  · rcases Tr.get_set hl with ⟨e1, e2⟩ | ⟨hne1, g1⟩
    · rcases Tr.get_set hl' with ⟨e3, e4⟩ | ⟨hne2, g2⟩
      · rw [e1, e3]
      · rw [e1, Env.put_same] at he
        exact absurd (fam_root hf) (hnot g2 he.symm)
    · rcases Tr.get_set hl' with ⟨e3, e4⟩ | ⟨hne2, g2⟩
      · rw [e3, Env.put_same] at he
        exact absurd (fam_root hf) (hnot g1 he)
      · exact hn.h.inj l l' k1 k2 g1 g2 hr he
  · rcases Tr.get_set hl with ⟨rfl, rfl⟩ | ⟨_, hl⟩
    · rw [Env.put_same] at hb'; cases hb'
      exact .inl (Nat.le_trans h.le (hF b (fam_root hf)).1)
    · exact hn.h.own l k' b' hl hr hb'
  · rcases Tr.get_set hl with ⟨rfl, rfl⟩ | ⟨_, hl⟩
    · rw [Env.put_same] at hb'; cases hb'; exact .inr (.inr (fam_root hf))
    · exact (hn.bl l k' b' hl hb').imp id .inl
  · rcases Tr.get_set hl with ⟨rfl, e⟩ | ⟨hne', hl⟩
    · simp only [if_true] at hy
      exact .inr (.inr hy)
    · simp only [if_neg hne'] at hy
      exact (hq l k' c' rw' y hl hy).imp id .inl
end
end Go.Vm
end

/-
  A machine for abstract states over the model (part 31): an object in many blocks lends one of its blocks, and takes one.
-/
section
namespace Go.Vm

section
variable {β : Base} {ρ : Env} {H : Heap} {nl : Nat} {w : World}
/-- Such an object turns into one of another family. -/
theorem HRel.bigTurn (h : HRel β ρ H nl w) {l k : Nat} {c : IT} {rw : Bool} (hl : H.get l = some ⟨.big k c, rw⟩) :
    ∃ b x F, ρ.N l = some b ∧ c.den ρ = some x ∧ fam k x w b F ∧ (rw = true → ∀ w' k' c' x' F', BigStep w w' F F' → fam k' x' w' b F' → c'.den ρ = some x' → HRel β ρ (H.set l ⟨.big k' c', true⟩) nl w') := by
  obtain ⟨Fp, hB⟩ := h.big
  obtain ⟨b, x, hN, hx, hf, h0⟩ := hB.ok _ _ _ _ hl
  refine ⟨b, x, Fp l, hN, hx, hf, fun hrw w' k' c' x' F' s hf' hx' => ?_⟩
  subst hrw
  have h0 := h0 rfl
  have hroot := fam_root hf
  have hlt : ∀ {l1 k1 b1}, H.get l1 = some k1 → ρ.N l1 = some b1 → b1 < w.heap.size := fun h1 h2 => h.lt h1 h2
  have apart1 : ∀ {l1 k1}, H.get l1 = some k1 → l1 ≠ l → ∀ {y}, ρ.N l1 = some y → ¬ Fp l y := fun {_ _} h1 hne {y} hy hF => (hB.apart _ _ _ _ _ _ hl h1 (Ne.symm hne) y hF).1 hy
  refine ⟨fun l1 k1 h1 => ?_, fun l1 l2 k1 k2 h1 h2 hr he => ?_, fun l1 k1 b1 h1 hr hb1 => ?_, h.fresh, h.ownN, Nat.le_trans h.size s.size, fun y hy hn => ?_, s.tape.trans h.tape, s.os.trans h.os, s.out.trans h.out, h.g, fun l1 => if l1 = l then F' else Fp l1, ⟨fun l1 k1 c1 rw1 h1 => ?_, fun l1 l2 k1 c1 rw1 h' h1 h2 hne y hy => ?_⟩⟩
  · rcases Tr.get_set h1 with ⟨rfl, rfl⟩ | ⟨hne, h1⟩
    · have := fam_lt hf' (fam_root hf')
      exact ⟨b, w'.heap[b], hN, Array.getElem?_eq_getElem this, x', hx'⟩
    · obtain ⟨b1, o, hb1, ho, hk⟩ := h.blk l1 k1 h1
      exact ⟨b1, o, hb1, by rw [s.same b1 (hlt h1 hb1) (apart1 h1 hne hb1)]; exact ho, hk⟩
  · rcases Tr.get_set h1 with ⟨e1, e2⟩ | ⟨hne, g1⟩
    · rcases Tr.get_set h2 with ⟨e3, e4⟩ | ⟨hne2, g2⟩
      · rw [e1, e3]
      · rw [e1]; rw [e1] at he; exact h.inj _ _ _ _ hl g2 rfl he
    · rcases Tr.get_set h2 with ⟨e3, e4⟩ | ⟨hne2, g2⟩
      · rw [e3]; rw [e3] at he; exact (h.inj _ _ _ _ hl g1 rfl he.symm).symm
      · exact h.inj _ _ _ _ g1 g2 hr he
  · rcases Tr.get_set h1 with ⟨rfl, rfl⟩ | ⟨hne, h1⟩
    · exact h.own _ _ b1 hl rfl hb1
    · exact h.own l1 k1 b1 h1 hr hb1
  · rw [s.same y (Nat.lt_of_lt_of_le hy h.size) (fun hF => (h0 y hF).elim (fun e => by omega) hn)]
    exact h.frame y hy hn
  · rcases Tr.get_set h1 with ⟨rfl, e⟩ | ⟨hne, h1⟩
    · cases e
      simp only [if_true]
      exact ⟨b, x', hN, hx', hf', fun _ y hy => (s.sub y hy).elim (h0 y) (fun e => .inl (Nat.le_trans h.size e))⟩
    · simp only [if_neg hne]
      obtain ⟨b1, x1, e1, e2, e3, e4⟩ := hB.ok _ _ _ _ h1
      exact ⟨b1, x1, e1, e2, fam_local e3 fun y hy => s.same y (fam_lt e3 hy) (fun hF => (hB.apart _ _ _ _ _ _ hl h1 (Ne.symm hne) y hF).2 rfl hy), e4⟩
  · have old : ∀ {l1 k1 c1 rw1}, H.get l1 = some ⟨.big k1 c1, rw1⟩ → ∀ {y}, Fp l1 y → y < w.heap.size := fun {_ _ _ _} h1 {y} hy => by
      obtain ⟨_, _, _, _, e3, _⟩ := hB.ok _ _ _ _ h1
      exact fam_lt e3 hy
    rcases Tr.get_set h1 with ⟨rfl, e⟩ | ⟨hne1, g1⟩
    · rcases Tr.get_set h2 with ⟨e3, _⟩ | ⟨hne2, g2⟩
      · exact absurd e3.symm hne
      · simp only [if_true] at hy
        rw [if_neg hne2]
        rcases s.sub y hy with hF | hge
        · exact hB.apart _ _ _ _ _ _ hl g2 hne y hF
        · refine ⟨fun e => by have := hlt g2 e; omega, fun hnb hy2 => ?_⟩
          obtain ⟨n, c2, hk⟩ := ABlk.nb_of hnb
          obtain ⟨hk', r'⟩ := h'
          simp only at hk; subst hk
          have := old g2 hy2; omega
    · simp only [if_neg hne1] at hy
      rcases Tr.get_set h2 with ⟨rfl, e⟩ | ⟨hne2, g2⟩
      · cases e
        obtain ⟨a1, a2⟩ := hB.apart _ _ _ _ _ _ g1 hl hne y hy
        refine ⟨a1, fun _ hy2 => ?_⟩
        simp only [if_true] at hy2
        rcases s.sub y hy2 with hF | hge
        · exact a2 rfl hF
        · have := old g1 hy; omega
      · rw [if_neg hne2]
        exact hB.apart _ _ _ _ _ _ g1 g2 hne y hy
/-- A block of such an object gets a name of its own. -/
theorem HRel.bigTake (h : HRel β ρ H nl w) {l k : Nat} {c : IT} (hl : H.get l = some ⟨.big k c, true⟩) :
    ∃ b x F, ρ.N l = some b ∧ c.den ρ = some x ∧ fam k x w b F ∧ ∀ {k' : Nat} {c' : IT} {x' : Int} {F' : Nat → Prop} {y0 : Nat} {o : Obj} {kb : ABlk}, fam k' x' w b F' → (∀ y, F' y → F y ∧ y ≠ y0) → F y0 → w.heap[y0]? = some o → kb.nb = true → c'.den (ρ.put nl y0) = some x' → kb.rel (ρ.put nl y0) true o →
      HRel β (ρ.put nl y0) ((H.set l ⟨.big k' c', true⟩).set nl ⟨kb, true⟩) (nl + 1) w := by
  obtain ⟨Fp, hB⟩ := h.big
  obtain ⟨b, x, hN, hx, hf, h0⟩ := hB.ok _ _ _ _ hl
  refine ⟨b, x, Fp l, hN, hx, hf, fun {k' c' x' F' y0 o kb} hf' hsub hy0 ho hnb hx' hrel => ?_⟩
  have h0 := h0 rfl
  have hroot := fam_root hf'
  have hle : ρ.Le (ρ.put nl y0) := Env.le_put (h.fresh nl (Nat.le_refl _))
  have hn := h.num y0
  have hlt : ∀ {l1 k1}, H.get l1 = some k1 → l1 ≠ nl := fun {l1 k1} g1 e => by
    obtain ⟨b1, _, hb1, _⟩ := h.blk l1 k1 g1
    rw [e, h.fresh nl (Nat.le_refl _)] at hb1; cases hb1
  have hNo : ∀ {l1}, l1 ≠ nl → (ρ.put nl y0).N l1 = ρ.N l1 := fun {l1} hne => Env.put_other ρ y0 hne
  have hll := hlt hl
  have hby : b ≠ y0 := (hsub b hroot).2
  have no0 : ∀ {l1 k1}, H.get l1 = some k1 → ρ.N l1 ≠ some y0 := fun {l1 k1} g1 e => by
    by_cases hne : l = l1
    · subst hne; rw [hN] at e; cases e; exact hby rfl
    · exact (hB.apart _ _ _ _ _ _ hl g1 hne y0 hy0).1 e
  refine ⟨fun l1 k1 h1 => ?_, fun l1 l2 k1 k2 h1 h2 hr he => ?_, fun l1 k1 b1 h1 hr hb1 => ?_, hn.fresh, hn.ownN, hn.size, hn.frame, hn.tape, hn.os, hn.out, hn.g, fun l1 => if l1 = l then F' else Fp l1, ⟨fun l1 k1 c1 rw1 h1 => ?_, fun l1 l2 k1 c1 rw1 h' h1 h2 hne y hy => ?_⟩⟩
  · rcases Tr.get_set h1 with ⟨rfl, rfl⟩ | ⟨hne, h1⟩
    · exact ⟨y0, o, Env.put_same .., ho, hrel⟩
    · rcases Tr.get_set h1 with ⟨rfl, rfl⟩ | ⟨hne2, h1⟩
      · have := fam_lt hf' hroot
        exact ⟨b, w.heap[b], (hNo hne).trans hN, Array.getElem?_eq_getElem this, x', hx'⟩
      · exact hn.blk l1 k1 h1
  · rcases Tr.get_set h1 with ⟨rfl, e2⟩ | ⟨hne1, g1⟩
    · rcases Tr.get_set h2 with ⟨e3, e4⟩ | ⟨hne2, g2⟩
      · exact e3.symm
      · exfalso
        rw [Env.put_same, hNo hne2] at he
        rcases Tr.get_set g2 with ⟨rfl, _⟩ | ⟨_, g2⟩
        · exact no0 hl he.symm
        · exact no0 g2 he.symm
    · rcases Tr.get_set h2 with ⟨rfl, e4⟩ | ⟨hne2, g2⟩
      · exfalso
        rw [Env.put_same, hNo hne1] at he
        rcases Tr.get_set g1 with ⟨rfl, _⟩ | ⟨_, g1⟩
        · exact no0 hl he
        · exact no0 g1 he
      · rw [hNo hne1, hNo hne2] at he
        rcases Tr.get_set g1 with ⟨e1, _⟩ | ⟨hn1, g1⟩
        · rcases Tr.get_set g2 with ⟨e3, _⟩ | ⟨hn2, g2⟩
          · rw [e1, e3]
          · rw [e1]; rw [e1] at he; exact h.inj _ _ _ _ hl g2 rfl he
        · rcases Tr.get_set g2 with ⟨e3, _⟩ | ⟨hn2, g2⟩
          · rw [e3]; rw [e3] at he; exact (h.inj _ _ _ _ hl g1 rfl he.symm).symm
          · exact h.inj _ _ _ _ g1 g2 hr he
  · rcases Tr.get_set h1 with ⟨rfl, rfl⟩ | ⟨hne, h1⟩
    · rw [Env.put_same] at hb1; cases hb1
      exact h0 _ hy0
    · rcases Tr.get_set h1 with ⟨rfl, rfl⟩ | ⟨hne2, h1⟩
      · rw [hNo hne] at hb1
        exact h.own _ _ b1 hl rfl hb1
      · exact hn.own l1 k1 b1 h1 hr hb1
  · rcases Tr.get_set h1 with ⟨rfl, e⟩ | ⟨hne, h1⟩
    · cases e; cases hnb
    · rcases Tr.get_set h1 with ⟨rfl, e⟩ | ⟨hne2, h1⟩
      · cases e
        simp only [if_true]
        exact ⟨b, x', (hNo hne).trans hN, hx', hf', fun _ y hy => h0 y (hsub y hy).1⟩
      · simp only [if_neg hne2]
        obtain ⟨b1, x1, e1, e2, e3, e4⟩ := hB.ok _ _ _ _ h1
        exact ⟨b1, x1, (hNo hne).trans e1, IT.den_mono hle e2, e3, e4⟩
  · rcases Tr.get_set h1 with ⟨rfl, e⟩ | ⟨hne1, g1⟩
    · cases e; cases hnb
    · rcases Tr.get_set g1 with ⟨rfl, e⟩ | ⟨hn1, gg⟩
      · cases e
        simp only [if_true] at hy
        obtain ⟨hF, hne0⟩ := hsub y hy
        rcases Tr.get_set h2 with ⟨rfl, e2⟩ | ⟨hne2, g2⟩
        · cases e2
          refine ⟨fun e => ?_, fun e => by rw [hnb] at e; cases e⟩
          rw [Env.put_same] at e; cases e; exact hne0 rfl
        · rw [hNo hne2]
          rcases Tr.get_set g2 with ⟨e3, _⟩ | ⟨hn2, g2⟩
          · exact absurd e3.symm hne
          · rw [if_neg hn2]
            exact hB.apart _ _ _ _ _ _ hl g2 hne y hF
      · simp only [if_neg hn1] at hy
        rcases Tr.get_set h2 with ⟨rfl, e2⟩ | ⟨hne2, g2⟩
        · cases e2
          refine ⟨fun e => ?_, fun e => by rw [hnb] at e; cases e⟩
          rw [Env.put_same] at e; cases e
          exact (hB.apart _ _ _ _ _ _ gg hl hn1 _ hy).2 rfl hy0
        · rw [hNo hne2]
          rcases Tr.get_set g2 with ⟨rfl, e⟩ | ⟨hn2, g2⟩
          · cases e
            obtain ⟨a1, a2⟩ := hB.apart _ _ _ _ _ _ gg hl hne y hy
            refine ⟨a1, fun _ hy2 => ?_⟩
            simp only [if_true] at hy2
            exact a2 rfl (hsub y hy2).1
          · rw [if_neg hn2]
            exact hB.apart _ _ _ _ _ _ gg g2 hne y hy
/-- A block with a name goes into such an object, which changes. -/
theorem HRel.bigGive (h : HRel β ρ H nl w) {l k r : Nat} {c : IT} {kb : ABlk} (hl : H.get l = some ⟨.big k c, true⟩) (hr : H.get r = some ⟨kb, true⟩) (hnb : kb.nb = true) :
    ∃ b x F y0 o, ρ.N l = some b ∧ c.den ρ = some x ∧ fam k x w b F ∧ ρ.N r = some y0 ∧ w.heap[y0]? = some o ∧ kb.rel ρ true o ∧ ¬ F y0 ∧ ∀ {w' : World} {k' : Nat} {c' : IT} {x' : Int} {F' : Nat → Prop}, BigStep w w' F (fun y => F' y ∧ y ≠ y0) → fam k' x' w' b F' → c'.den ρ = some x' →
      HRel β ρ ((H.del r).set l ⟨.big k' c', true⟩) nl w' := by
  obtain ⟨Fp, hB⟩ := h.big
  obtain ⟨b, x, hN, hx, hf, h0⟩ := hB.ok _ _ _ _ hl
  obtain ⟨y0, o, hNr, ho, hrel⟩ := h.blk r _ hr
  have hlr : l ≠ r := fun e => by
    subst e; rw [hl] at hr; cases hr; cases hnb
  have hF0 : ¬ Fp l y0 := fun e => (hB.apart _ _ _ _ _ _ hl hr hlr y0 e).1 hNr
  refine ⟨b, x, Fp l, y0, o, hN, hx, hf, hNr, ho, hrel, hF0, fun {w' k' c' x' F'} s hf' hx' => ?_⟩
  have h0 := h0 rfl
  have hlt : ∀ {l1 k1 b1}, H.get l1 = some k1 → ρ.N l1 = some b1 → b1 < w.heap.size := fun h1 h2 => h.lt h1 h2
  have apart1 : ∀ {l1 k1}, H.get l1 = some k1 → l1 ≠ l → ∀ {y}, ρ.N l1 = some y → ¬ Fp l y := fun {_ _} h1 hne {y} hy hF => (hB.apart _ _ _ _ _ _ hl h1 (Ne.symm hne) y hF).1 hy
  have y0ge : β.dom y0 := h.own r _ y0 hr rfl hNr
  have other0 : ∀ {l1 k1}, H.get l1 = some k1 → r ≠ l1 → ρ.N l1 ≠ some y0 := fun {l1 k1} h1 hne e => hne (h.inj r l1 _ _ hr h1 rfl (hNr.trans e.symm))
  have big0 : ∀ {l1 k1 c1 rw1}, H.get l1 = some ⟨.big k1 c1, rw1⟩ → l1 ≠ r → ¬ Fp l1 y0 := fun {_ _ _ _} h1 hne e => (hB.apart _ _ _ _ _ _ h1 hr hne y0 e).1 hNr
  have subF : ∀ {y}, F' y → Fp l y ∨ y = y0 ∨ w.heap.size ≤ y := fun {y} hy => by
    by_cases e : y = y0
    · exact .inr (.inl e)
    · exact (s.sub y ⟨hy, e⟩).elim .inl fun h => .inr (.inr h)
  have old : ∀ {l1 k1 c1 rw1}, H.get l1 = some ⟨.big k1 c1, rw1⟩ → ∀ {y}, Fp l1 y → y < w.heap.size := fun {_ _ _ _} h1 {y} hy => by
    obtain ⟨_, _, _, _, e3, _⟩ := hB.ok _ _ _ _ h1
    exact fam_lt e3 hy
  refine ⟨fun l1 k1 h1 => ?_, fun l1 l2 k1 k2 h1 h2 hr1 he => ?_, fun l1 k1 b1 h1 hr1 hb1 => ?_, h.fresh, h.ownN, Nat.le_trans h.size s.size, fun y hy hn => ?_, s.tape.trans h.tape, s.os.trans h.os, s.out.trans h.out, h.g, fun l1 => if l1 = l then F' else Fp l1, ⟨fun l1 k1 c1 rw1 h1 => ?_, fun l1 l2 k1 c1 rw1 h' h1 h2 hne y hy => ?_⟩⟩
  · rcases Tr.get_set h1 with ⟨rfl, rfl⟩ | ⟨hne, h1⟩
    · have := fam_lt hf' (fam_root hf')
      exact ⟨b, w'.heap[b], hN, Array.getElem?_eq_getElem this, x', hx'⟩
    · have h1 := (Tr.get_del h1).2
      obtain ⟨b1, o1, hb1, ho1, hk⟩ := h.blk l1 k1 h1
      exact ⟨b1, o1, hb1, by rw [s.same b1 (hlt h1 hb1) (apart1 h1 hne hb1)]; exact ho1, hk⟩
  · rcases Tr.get_set h1 with ⟨e1, e2⟩ | ⟨hne1, g1⟩
    · rcases Tr.get_set h2 with ⟨e3, e4⟩ | ⟨hne2, g2⟩
      · rw [e1, e3]
      · rw [e1]; rw [e1] at he; exact h.inj _ _ _ _ hl (Tr.get_del g2).2 rfl he
    · rcases Tr.get_set h2 with ⟨e3, e4⟩ | ⟨hne2, g2⟩
      · rw [e3]; rw [e3] at he; exact (h.inj _ _ _ _ hl (Tr.get_del g1).2 rfl he.symm).symm
      · exact h.inj _ _ _ _ (Tr.get_del g1).2 (Tr.get_del g2).2 hr1 he
  · rcases Tr.get_set h1 with ⟨rfl, rfl⟩ | ⟨hne, h1⟩
    · exact h.own _ _ b1 hl rfl hb1
    · exact h.own l1 k1 b1 (Tr.get_del h1).2 hr1 hb1
  · rw [s.same y (Nat.lt_of_lt_of_le hy h.size) (fun hF => (h0 y hF).elim (fun e => by omega) hn)]
    exact h.frame y hy hn
  · rcases Tr.get_set h1 with ⟨rfl, e⟩ | ⟨hne, h1⟩
    · cases e
      simp only [if_true]
      refine ⟨b, x', hN, hx', hf', fun _ y hy => ?_⟩
      rcases subF hy with h2 | rfl | h2
      · exact h0 y h2
      · exact y0ge
      · exact .inl (Nat.le_trans h.size h2)
    · simp only [if_neg hne]
      have h1 := (Tr.get_del h1).2
      obtain ⟨b1, x1, e1, e2, e3, e4⟩ := hB.ok _ _ _ _ h1
      exact ⟨b1, x1, e1, e2, fam_local e3 fun y hy => s.same y (fam_lt e3 hy) (fun hF => (hB.apart _ _ _ _ _ _ hl h1 (Ne.symm hne) y hF).2 rfl hy), e4⟩
  · rcases Tr.get_set h1 with ⟨rfl, e⟩ | ⟨hne1, g1⟩
    · rcases Tr.get_set h2 with ⟨e3, _⟩ | ⟨hne2, g2⟩
      · exact absurd e3.symm hne
      · obtain ⟨hr2, g2⟩ := Tr.get_del g2
        simp only [if_true] at hy
        rw [if_neg hne2]
        rcases subF hy with hF | rfl | hge
        · exact hB.apart _ _ _ _ _ _ hl g2 hne y hF
        · refine ⟨other0 g2 (fun e => hr2 e.symm), fun hnb2 hy2 => ?_⟩
          obtain ⟨n, c2, hk⟩ := ABlk.nb_of hnb2
          obtain ⟨hk', r'⟩ := h'
          simp only at hk; subst hk
          exact big0 g2 hr2 hy2
        · refine ⟨fun e => by have := hlt g2 e; omega, fun hnb2 hy2 => ?_⟩
          obtain ⟨n, c2, hk⟩ := ABlk.nb_of hnb2
          obtain ⟨hk', r'⟩ := h'
          simp only at hk; subst hk
          have := old g2 hy2; omega
    · simp only [if_neg hne1] at hy
      obtain ⟨hr1, g1⟩ := Tr.get_del g1
      rcases Tr.get_set h2 with ⟨rfl, e⟩ | ⟨hne2, g2⟩
      · cases e
        obtain ⟨a1, a2⟩ := hB.apart _ _ _ _ _ _ g1 hl hne y hy
        refine ⟨a1, fun _ hy2 => ?_⟩
        simp only [if_true] at hy2
        rcases subF hy2 with hF | rfl | hge
        · exact a2 rfl hF
        · exact big0 g1 hr1 hy
        · have := old g1 hy; omega
      · rw [if_neg hne2]
        exact hB.apart _ _ _ _ _ _ g1 (Tr.get_del g2).2 hne y hy
end
end Go.Vm
end
