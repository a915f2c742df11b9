/-
  A machine for abstract states over the model (part 24): a block that a call has laid is taken over.
-/
import Derived.Test.YtighjgmgpphohaaVm23
namespace Go.Vm

theorem HRel.adopt {β : Base} {ρ : Env} {H : Heap} {nl : Nat} {w w' : World} (h : HRel β ρ H nl w) (f : Framed w w') {b : Nat} {o : Obj} (hb : w.heap.size ≤ b) (ho : w'.heap[b]? = some o) {k : ABlk} {rw : Bool} (hk : k.rel (ρ.put nl b) rw o) :
    HRel β (ρ.put nl b) (H.set nl ⟨k, rw⟩) (nl + 1) w' := by
  have hle : ρ.Le (ρ.put nl b) := Env.le_put (h.fresh nl (Nat.le_refl _))
  have hf := h.framed f
  have hn := hf.num b
  have hne : ∀ l k' c, H.get l = some k' → ρ.N l = some c → c ≠ b := fun l k' c hl hc => by
    have := h.lt hl hc; omega
  refine ⟨fun l k' hl => ?_, fun l l' k1 k2 hl hl' hr he => ?_, fun l k' b' hl hr hb' => ?_, hn.fresh, hn.ownN, hn.size, fun b' hb' hf' => hn.frame b' hb' hf', hn.tape, hn.os, hn.out, hn.g⟩
  · rcases Tr.get_set hl with ⟨rfl, rfl⟩ | ⟨hne', hl⟩
    · exact ⟨b, o, Env.put_same .., ho, hk⟩
    · exact hn.blk l k' hl
  · rcases Tr.get_set hl with ⟨e1, e2⟩ | ⟨hne1, g1⟩
    · rcases Tr.get_set hl' with ⟨e3, e4⟩ | ⟨hne2, g2⟩
      · rw [e1, e3]
      · obtain ⟨c, o', hc, _⟩ := h.blk l' k2 g2
        rw [e1, Env.put_same, Env.put_other ρ _ hne2, hc] at he
        injection he with he
        exact absurd he.symm (hne l' k2 c g2 hc)
    · rcases Tr.get_set hl' with ⟨e3, e4⟩ | ⟨hne2, g2⟩
      · obtain ⟨c, o', hc, _⟩ := h.blk l k1 g1
        rw [e3, Env.put_same, Env.put_other ρ _ hne1, hc] at he
        injection he with he
        exact absurd he (hne l k1 c g1 hc)
      · exact hn.inj l l' k1 k2 g1 g2 hr he
  · rcases Tr.get_set hl with ⟨rfl, rfl⟩ | ⟨hne', hl⟩
    · rw [Env.put_same] at hb'; cases hb'
      exact .inl (Nat.le_trans h.size hb)
    · exact hn.own l k' b' hl hr hb'
end Go.Vm
