/-
  A machine for abstract states over the model (part 26): rows of texts that a call hands out.
-/
import Derived.Test.YtighjgmgpphohaaVm25
namespace Go.Vm

structure TextsOut (w w' : World) (x : Value) (e : TypeId) (L : List ByteArray) : Prop where
  fr : Framed w w'
  row : ∃ b cap c f, x = .slice (some ⟨b, 0, none⟩) L.length cap ∧ w.heap.size ≤ b ∧ w'.heap[b]? = some (.cells c e f) ∧ L.map Value.string <+: c.toList ∧ c.size = cap ∧ FrOk f c.size
theorem texts_in {β : Base} {ρ : Env} {H : Heap} {nl : Nat} {w w' : World} {x : Value} {nT c : IT} {e : TypeId} {L : List ByteArray} {X : Int} (h : HRel β ρ H nl w) (r : TextsOut w w' x e L) (hn : nT.den ρ = some (L.length : Int)) (hc : c.den ρ = some X) (hX : strsOf X = L.map Value.string) :
    ∃ ρ', ρ.Le ρ' ∧ (AVal.slice (nl + 1) (.lit 0) nT (.nv nl)).den ρ' = some x ∧ HRel β ρ' (H.set (nl + 1) ⟨.srow c e nT (some (.nv nl)), true⟩) (nl + 2) w' := by
  obtain ⟨b, cap, c0, f, rfl, hb, hob, hp, hcs, hf⟩ := r.row
  have h1 := h.num cap
  have hle1 : ρ.Le (ρ.put nl cap) := Env.le_put (h.fresh nl (Nat.le_refl _))
  have hle2 : (ρ.put nl cap).Le ((ρ.put nl cap).put (nl + 1) b) := Env.le_put (h1.fresh _ (Nat.le_refl _))
  have hcapd : (IT.nv nl).den ((ρ.put nl cap).put (nl + 1) b) = some (cap : Int) := by
    have : ((ρ.put nl cap).put (nl + 1) b).N nl = some cap := hle2.n _ _ (Env.put_same ..)
    simp only [IT.den, this]; rfl
  have hlen : (decL X).length = L.length := by
    have := congrArg List.length hX
    simpa [strsOf] using this
  have hrel : (ABlk.srow c e nT (some (.nv nl))).rel ((ρ.put nl cap).put (nl + 1) b) true (.cells c0 e f) := by
    refine ⟨X, c0, f, e, rfl, fun _ => rfl, IT.den_mono (hle1.trans hle2) hc, hX ▸ hp, ?_, ⟨cap, hcapd, by rw [Nat.mul_one]; exact hcs⟩, fun _ => hf⟩
    rw [hlen]; exact IT.den_mono (hle1.trans hle2) hn
  refine ⟨_, hle1.trans hle2, ?_, h1.adopt r.fr hb hob hrel⟩
  have e1 : natOf (nT.den ((ρ.put nl cap).put (nl + 1) b)) = some L.length := by rw [IT.den_mono (hle1.trans hle2) hn]; rfl
  have e2 : natOf ((IT.nv nl).den ((ρ.put nl cap).put (nl + 1) b)) = some cap := by rw [hcapd]; rfl
  have e0 : natOf ((IT.lit 0).den ((ρ.put nl cap).put (nl + 1) b)) = some 0 := rfl
  have e3 : ((ρ.put nl cap).put (nl + 1) b).N (nl + 1) = some b := Env.put_same ..
  simp only [AVal.den, e0, e1, e2, e3]
theorem texts_out {β : Base} {ρ : Env} {H : Heap} {nl : Nat} {w' : World} {x : Value} {l j : Nat} {nT c : IT} {e : TypeId} {L : List ByteArray} {X : Int} (hown : β.own = []) (h : HRel β ρ H nl w') (hl : H.get l = some ⟨.srow c e nT (some (.nv j)), true⟩)
    (hx : (AVal.slice l (.lit 0) nT (.nv j)).den ρ = some x) (hc : c.den ρ = some X) (hX : strsOf X = L.map Value.string) : TextsOut β.w0 w' x e L := by
  obtain ⟨b, o, n, cap, rfl, hN, hoff, hlen, hcap⟩ := den_slice hx
  obtain rfl : o = 0 := by have := Option.some.inj hoff; exact (Int.ofNat.inj this).symm
  obtain ⟨b', ob, hb', hob, X', c0, fr, el, rfl, hel, hd, hp, hn', hroom, hf⟩ := h.blk l _ hl
  rw [hN] at hb'; cases hb'
  have hel := hel rfl
  subst hel
  obtain rfl : X' = X := by have := hd.symm.trans hc; exact Option.some.inj this
  have hLl : (decL X').length = L.length := by
    have := congrArg List.length hX
    simpa [strsOf] using this
  have hnn : n = L.length := by
    have := hn'.symm.trans hlen
    have := Int.ofNat.inj (Option.some.inj this)
    omega
  subst hnn
  obtain ⟨N0, hN0, hroom⟩ := hroom
  have hc' : cap = N0 := by have := hN0.symm.trans hcap; exact (Int.ofNat.inj (Option.some.inj this)).symm
  subst hc'
  refine ⟨framed_base hown h, b, cap, c0, fr, rfl, ?_, hob, hX ▸ hp, by rw [hroom, Nat.mul_one], hf rfl⟩
  rcases h.own l _ b hl rfl hN with h1 | ⟨l', hl', _⟩
  · exact h1
  · rw [hown] at hl'; cases hl'
theorem text_out1 {β : Base} {ρ : Env} {H : Heap} {nl : Nat} {w' : World} {x : Value} {l : Nat} {e : TypeId} {s : ST} (hown : β.own = []) (h : HRel β ρ H nl w') (hl : H.get l = some ⟨.cells [.str s] e none, true⟩)
    (hx : (AVal.slice l (.lit 0) (.lit 1) (.lit 1)).den ρ = some x) : TextsOut β.w0 w' x e [s.den ρ] := by
  obtain ⟨b, o, n, cap, rfl, hN, hoff, hlen, hcap⟩ := den_slice hx
  obtain rfl : o = 0 := by have := Option.some.inj hoff; exact (Int.ofNat.inj this).symm
  obtain rfl : n = 1 := by have := Option.some.inj hlen; exact (Int.ofNat.inj this).symm
  obtain rfl : cap = 1 := by have := Option.some.inj hcap; exact (Int.ofNat.inj this).symm
  obtain ⟨b', ob, hb', hob, xs, c0, fr, ho, hd, hp, ht, hf⟩ := h.blk l _ hl
  rw [hN] at hb'; cases hb'
  subst ho
  simp only [AVal.denL, AVal.den, Option.some.injEq] at hd
  subst hd
  refine ⟨framed_base hown h, b, 1, c0, fr, rfl, ?_, hob, hp, ?_, hf rfl⟩
  · rcases h.own l _ b hl rfl hN with h1 | ⟨l', hl', _⟩
    · exact h1
    · rw [hown] at hl'; cases hl'
  · simpa [tailOk] using ht
end Go.Vm
