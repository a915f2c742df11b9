/-
  A machine for abstract states over the model (part 30): blocks that a call has laid are taken over, one by one.
-/
import Derived.Test.YtjjijagclgambaaGreatDoorVm29
namespace Go.Vm

/-- All that has a name lies below s, or among A. -/
structure HX (β : Base) (ρ : Env) (H : Heap) (nl : Nat) (w : World) (s : Nat) (A : Nat → Prop) : Prop where
  h : HRel β ρ H nl w
  bl : ∀ l k b, H.get l = some k → ρ.N l = some b → b < s ∨ A b
  bg : ∃ Fp, BigAt ρ H β.w0.heap.size w Fp ∧ ∀ l k c rw y, H.get l = some ⟨.big k c, rw⟩ → Fp l y → y < s ∨ A y
  le : β.w0.heap.size ≤ s
section
variable {β : Base} {ρ : Env} {H : Heap} {nl : Nat} {w w' : World} {s : Nat} {A : Nat → Prop}
theorem HX.start (h : HRel β ρ H nl w) (f : Framed w w') : HX β ρ H nl w' w.heap.size fun _ => False := by
  obtain ⟨Fp, hB⟩ := h.big
  refine ⟨h.framed f, fun l k b hl hb => .inl (h.lt hl hb), ⟨Fp, hB.agree fun y hy => f.frame y hy, fun l k c rw y hl hy => ?_⟩, h.size⟩
  obtain ⟨_, _, _, _, e3, _⟩ := hB.ok _ _ _ _ hl
  exact .inl (fam_lt e3 hy)
theorem HX.ne (h : HX β ρ H nl w s A) {l : Nat} {k : HB} (hl : H.get l = some k) : l ≠ nl := fun e => by
  obtain ⟨b, _, hb, _⟩ := h.h.blk l k hl
  rw [e, h.h.fresh nl (Nat.le_refl _)] at hb; cases hb
theorem HX.num (h : HX β ρ H nl w s A) (c : Nat) : HX β (ρ.put nl c) H (nl + 1) w s A := by
  have hle : ρ.Le (ρ.put nl c) := Env.le_put (h.h.fresh nl (Nat.le_refl _))
  obtain ⟨Fp, hB, hF⟩ := h.bg
  refine ⟨h.h.num c, fun l k b hl hb => h.bl l k b hl ?_, ⟨Fp, hB.le hle fun l k hl => Env.put_other ρ c (h.ne hl), hF⟩, h.le⟩
  rw [Env.put_other ρ c (h.ne hl)] at hb; exact hb
theorem HX.row (h : HX β ρ H nl w s A) {b : Nat} {o : Obj} {k : ABlk} {rw : Bool} (hb : s ≤ b) (hA : ¬ A b) (ho : w.heap[b]? = some o) (hk : k.rel (ρ.put nl b) rw o) (hnb : k.nb = true := by rfl) :
    HX β (ρ.put nl b) (H.set nl ⟨k, rw⟩) (nl + 1) w s fun y => A y ∨ y = b := by
  have hn := h.num b
  have hne : ∀ l k' c, H.get l = some k' → ρ.N l = some c → c ≠ b := fun l k' c hl hc e => by
    subst e
    rcases h.bl l k' c hl hc with h1 | h1
    · omega
    · exact hA h1
  obtain ⟨Fp, hB, hF⟩ := hn.bg
  have hset : BigAt (ρ.put nl b) (H.set nl ⟨k, rw⟩) β.w0.heap.size w Fp := hB.set hnb (Env.put_same ..) (fun l k' c rw' hl _ hy => by
    rcases hF l k' c rw' b hl hy with h1 | h1
    · omega
    · exact hA h1) (fun _ _ _ => rfl)
  refine ⟨⟨fun l k' hl => ?_, fun l l' k1 k2 hl hl' hr he => ?_, fun l k' b' hl hr hb' => ?_, hn.h.fresh, hn.h.ownN, hn.h.size, hn.h.frame, hn.h.tape, hn.h.os, hn.h.out, hn.h.g, Fp, hset⟩, fun l k' b' hl hb' => ?_, ⟨Fp, hset, fun l k' c rw' y hl hy => ?_⟩, h.le⟩
  · rcases Tr.get_set hl with ⟨rfl, rfl⟩ | ⟨_, hl⟩
    · exact ⟨b, o, Env.put_same .., ho, hk⟩
    · exact hn.h.blk l k' hl
  · rcases Tr.get_set hl with ⟨e1, e2⟩ | ⟨hne1, g1⟩
    · rcases Tr.get_set hl' with ⟨e3, e4⟩ | ⟨hne2, g2⟩
      · rw [e1, e3]
      · obtain ⟨c, o', hc, _⟩ := h.h.blk l' k2 g2
        rw [e1, Env.put_same, Env.put_other ρ _ hne2, hc] at he
        injection he with he
        exact absurd he.symm (hne l' k2 c g2 hc)
    · rcases Tr.get_set hl' with ⟨e3, e4⟩ | ⟨hne2, g2⟩
      · obtain ⟨c, o', hc, _⟩ := h.h.blk l k1 g1
        rw [e3, Env.put_same, Env.put_other ρ _ hne1, hc] at he
        injection he with he
        exact absurd he (hne l k1 c g1 hc)
      · exact hn.h.inj l l' k1 k2 g1 g2 hr he
  · rcases Tr.get_set hl with ⟨rfl, rfl⟩ | ⟨_, hl⟩
    · rw [Env.put_same] at hb'; cases hb'
      exact .inl (Nat.le_trans h.le hb)
    · exact hn.h.own l k' b' hl hr hb'
  · rcases Tr.get_set hl with ⟨rfl, rfl⟩ | ⟨_, hl⟩
    · rw [Env.put_same] at hb'; cases hb'; exact .inr (.inr rfl)
    · exact (hn.bl l k' b' hl hb').imp id .inl
  · rcases Tr.get_set hl with ⟨rfl, e⟩ | ⟨_, hl⟩
    · cases e; cases hnb
    · exact (hF l k' c rw' y hl hy).imp id .inl
theorem HX.big (h : HX β ρ H nl w s A) {k b : Nat} {c : IT} {x : Int} {F : Nat → Prop} (hf : fam k x w b F) (hF : ∀ y, F y → s ≤ y ∧ ¬ A y) (hx : c.den ρ = some x) :
    HX β (ρ.put nl b) (H.set nl ⟨.big k c, true⟩) (nl + 1) w s fun y => A y ∨ F y := by
  have hn := h.num b
  have hle : ρ.Le (ρ.put nl b) := Env.le_put (h.h.fresh nl (Nat.le_refl _))
  obtain ⟨Fq, hQ, hq⟩ := hn.bg
  have hnot : ∀ {l1 k1 b1}, H.get l1 = some k1 → (ρ.put nl b).N l1 = some b1 → ¬ F b1 := fun {l1 k1 b1} g1 g2 hy => by
    obtain ⟨h1, h2⟩ := hF _ hy
    rcases hn.bl l1 k1 b1 g1 g2 with h3 | h3
    · omega
    · exact h2 h3
  have hnotF : ∀ {l1 k1 c1 rw1 y}, H.get l1 = some ⟨.big k1 c1, rw1⟩ → Fq l1 y → ¬ F y := fun {l1 k1 c1 rw1 y} g1 g2 hy => by
    obtain ⟨h1, h2⟩ := hF _ hy
    rcases hq l1 k1 c1 rw1 y g1 g2 with h3 | h3
    · omega
    · exact h2 h3
  have hset : BigAt (ρ.put nl b) (H.set nl ⟨.big k c, true⟩) β.w0.heap.size w fun l1 => if l1 = nl then F else Fq l1 := by
    refine ⟨fun l1 k1 c1 rw1 g1 => ?_, fun l1 l2 k1 c1 rw1 h' g1 g2 hne y hy => ?_⟩
    · rcases Tr.get_set g1 with ⟨rfl, e⟩ | ⟨hne', g1⟩
      · cases e
        simp only [if_true]
        exact ⟨b, x, Env.put_same .., IT.den_mono hle hx, hf, fun _ y hy => Nat.le_trans h.le (hF y hy).1⟩
      · simp only [if_neg hne']
        exact hQ.ok _ _ _ _ g1
    · rcases Tr.get_set g1 with ⟨rfl, e⟩ | ⟨hne1, g1'⟩
      · rcases Tr.get_set g2 with ⟨e3, _⟩ | ⟨hne2, g2⟩
        · exact absurd e3.symm hne
        · simp only [if_true] at hy
          rw [if_neg hne2]
          refine ⟨fun e => hnot g2 e hy, fun hnb hy2 => ?_⟩
          obtain ⟨n, c2, hk⟩ := ABlk.nb_of hnb
          obtain ⟨hk', r'⟩ := h'
          simp only at hk; subst hk
          exact hnotF g2 hy2 hy
      · simp only [if_neg hne1] at hy
        rcases Tr.get_set g2 with ⟨rfl, e⟩ | ⟨hne2, g2⟩
        · refine ⟨fun e => ?_, fun _ hy3 => ?_⟩
          · rw [Env.put_same] at e; cases e
            exact hnotF g1' hy (fam_root hf)
          · simp only [if_true] at hy3
            exact hnotF g1' hy hy3
        · rw [if_neg hne2]
          exact hQ.apart _ _ _ _ _ _ g1' g2 hne y hy
  refine ⟨⟨fun l k' hl => ?_, fun l l' k1 k2 hl hl' hr he => ?_, fun l k' b' hl hr hb' => ?_, hn.h.fresh, hn.h.ownN, hn.h.size, hn.h.frame, hn.h.tape, hn.h.os, hn.h.out, hn.h.g, _, hset⟩, fun l k' b' hl hb' => ?_, ⟨_, hset, fun l k' c' rw' y hl hy => ?_⟩, h.le⟩
  · rcases Tr.get_set hl with ⟨rfl, rfl⟩ | ⟨_, hl⟩
    · have := fam_lt hf (fam_root hf)
      exact ⟨b, w.heap[b], Env.put_same .., Array.getElem?_eq_getElem this, x, IT.den_mono hle hx⟩
    · exact hn.h.blk l k' hl
  · rcases Tr.get_set hl with ⟨e1, e2⟩ | ⟨hne1, g1⟩
    · rcases Tr.get_set hl' with ⟨e3, e4⟩ | ⟨hne2, g2⟩
      · rw [e1, e3]
      · rw [e1, Env.put_same] at he
        exact absurd (fam_root hf) (hnot g2 he.symm)
    · rcases Tr.get_set hl' with ⟨e3, e4⟩ | ⟨hne2, g2⟩
      · rw [e3, Env.put_same] at he
        exact absurd (fam_root hf) (hnot g1 he)
      · exact hn.h.inj l l' k1 k2 g1 g2 hr he
  · rcases Tr.get_set hl with ⟨rfl, rfl⟩ | ⟨_, hl⟩
    · rw [Env.put_same] at hb'; cases hb'
      exact .inl (Nat.le_trans h.le (hF b (fam_root hf)).1)
    · exact hn.h.own l k' b' hl hr hb'
  · rcases Tr.get_set hl with ⟨rfl, rfl⟩ | ⟨_, hl⟩
    · rw [Env.put_same] at hb'; cases hb'; exact .inr (.inr (fam_root hf))
    · exact (hn.bl l k' b' hl hb').imp id .inl
  · rcases Tr.get_set hl with ⟨rfl, e⟩ | ⟨hne', hl⟩
    · simp only [if_true] at hy
      exact .inr (.inr hy)
    · simp only [if_neg hne'] at hy
      exact (hq l k' c' rw' y hl hy).imp id .inl
end
end Go.Vm
