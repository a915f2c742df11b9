/-
  A machine for abstract states over the model (part 25): rows that a call hands out.
-/
import Derived.Test.YtighjgmgpphohaaVm24
namespace Go.Vm

/-- A row of numbers that a call has laid and hands out, of so many elements. -/
structure RowOut (w w' : World) (x : Value) (e : TypeId) (ks : List IntKind) (L : List Int) (m : Nat) : Prop where
  fr : Framed w w'
  len : L.length = m * ks.length
  row : ∃ b cap c f, x = .slice (some ⟨b, 0, none⟩) m cap ∧ w.heap.size ≤ b ∧ w'.heap[b]? = some (.cells c e f) ∧ rowOf ks L <+: c.toList ∧ c.size = cap * ks.length ∧ FrOk f c.size
theorem framed_base {β : Base} {ρ : Env} {H : Heap} {nl : Nat} {w' : World} (hown : β.own = []) (h : HRel β ρ H nl w') : Framed β.w0 w' :=
  ⟨h.size, fun b hb => h.frame b hb (fun l hl => by rw [hown] at hl; cases hl), h.tape, h.os, h.out⟩
theorem row_out {β : Base} {ρ : Env} {H : Heap} {nl : Nat} {w' : World} {x : Value} {l j : Nat} {nT c : IT} {e : TypeId} {ks : List IntKind} {L : List Int} {m : Nat} (hown : β.own = []) (h : HRel β ρ H nl w') (hl : H.get l = some ⟨.arr (.code ks c) ks e nT (.lit 0) (some (.nv j)), true⟩)
    (hx : (AVal.slice l (.lit 0) nT (.nv j)).den ρ = some x) (hn : nT.den ρ = some (m : Int)) (hc : c.den ρ = some (encL L)) : RowOut β.w0 w' x e ks L m := by
  obtain ⟨b, o, n, cap, rfl, hN, hoff, hlen, hcap⟩ := den_slice hx
  obtain rfl : o = 0 := by have := Option.some.inj hoff; exact (Int.ofNat.inj this).symm
  obtain rfl : n = m := by have := hlen.symm.trans hn; exact Int.ofNat.inj (Option.some.inj this)
  obtain ⟨b', ob, hb', hob, xs, c0, fr, el, m', st, rfl, hel, hd, hst, ⟨hstc, hp⟩, hn', hty, hroom, hf⟩ := h.blk l _ hl
  rw [hN] at hb'; cases hb'
  obtain rfl : st = 0 := by have := Option.some.inj hst; exact (Int.ofNat.inj this).symm
  have hel := (hel rfl)
  subst hel
  obtain ⟨N0, hN0, hroom⟩ := hroom
  have hc' : cap = N0 := by have := hN0.symm.trans hcap; exact (Int.ofNat.inj (Option.some.inj this)).symm
  subst hc'
  have hmm : m' = n := by have := hn'.symm.trans hlen; exact Int.ofNat.inj (Option.some.inj this)
  subst hmm
  simp only [AT.den, hc, Option.map_some, Option.some.injEq, decL_encL] at hd
  subst hd
  rw [Nat.sub_zero] at hroom
  rw [List.drop_zero] at hp
  refine ⟨framed_base hown h, by have := hty.1; rwa [rowOf_length] at this, b, cap, c0, fr, rfl, ?_, hob, hp, hroom, hf rfl⟩
  rcases h.own l _ b hl rfl hN with h1 | ⟨l', hl', _⟩
  · exact h1
  · rw [hown] at hl'; cases hl'
theorem row_in {β : Base} {ρ : Env} {H : Heap} {nl : Nat} {w w' : World} {x : Value} {nT c : IT} {e : TypeId} {ks : List IntKind} {L : List Int} {m : Nat} (h : HRel β ρ H nl w) (r : RowOut w w' x e ks L m) (hn : nT.den ρ = some (m : Int)) (hc : c.den ρ = some (encL L)) :
    ∃ ρ', ρ.Le ρ' ∧ (AVal.slice (nl + 1) (.lit 0) nT (.nv nl)).den ρ' = some x ∧ HRel β ρ' (H.set (nl + 1) ⟨.arr (.code ks c) ks e nT (.lit 0) (some (.nv nl)), true⟩) (nl + 2) w' := by
  obtain ⟨b, cap, c0, f, rfl, hb, hob, hp, hcs, hf⟩ := r.row
  have h1 := h.num cap
  have hle1 : ρ.Le (ρ.put nl cap) := Env.le_put (h.fresh nl (Nat.le_refl _))
  have hle2 : (ρ.put nl cap).Le ((ρ.put nl cap).put (nl + 1) b) := Env.le_put (h1.fresh _ (Nat.le_refl _))
  have hcapd : (IT.nv nl).den ((ρ.put nl cap).put (nl + 1) b) = some (cap : Int) := by
    have : ((ρ.put nl cap).put (nl + 1) b).N nl = some cap := hle2.n _ _ (Env.put_same ..)
    simp only [IT.den, this]; rfl
  have hrel : (ABlk.arr (.code ks c) ks e nT (.lit 0) (some (.nv nl))).rel ((ρ.put nl cap).put (nl + 1) b) true (.cells c0 e f) := by
    refine ⟨rowOf ks L, c0, f, e, m, 0, rfl, fun _ => rfl, ?_, rfl, ⟨Nat.zero_le _, by rw [List.drop_zero]; exact hp⟩, IT.den_mono (hle1.trans hle2) hn, rowOf_typed r.len, ⟨cap, hcapd, by rw [Nat.sub_zero]; exact hcs⟩, fun _ => hf⟩
    simp only [AT.den, IT.den_mono (hle1.trans hle2) hc, Option.map_some, decL_encL]
  refine ⟨_, hle1.trans hle2, ?_, h1.adopt r.fr hb hob hrel⟩
  have e1 : natOf (nT.den ((ρ.put nl cap).put (nl + 1) b)) = some m := by rw [IT.den_mono (hle1.trans hle2) hn]; rfl
  have e2 : natOf ((IT.nv nl).den ((ρ.put nl cap).put (nl + 1) b)) = some cap := by rw [hcapd]; rfl
  have e0 : natOf ((IT.lit 0).den ((ρ.put nl cap).put (nl + 1) b)) = some 0 := rfl
  have e3 : ((ρ.put nl cap).put (nl + 1) b).N (nl + 1) = some b := Env.put_same ..
  simp only [AVal.den, e0, e1, e2, e3]

/-- A row as a call hands it out: nil if it has no element. -/
def RowOr (w w' : World) (x : Value) (e : TypeId) (ks : List IntKind) (L : List Int) (m : Nat) : Prop := (m = 0 ∧ x = .slice none 0 0 ∧ Framed w w') ∨ (0 < m ∧ RowOut w w' x e ks L m)
-- NAMES THAT A SUBSTITUTION LEAVES
section
variable {σ : Sub} {ρ : Env}
theorem app_I {k : Nat} (h : lk σ.I k = none) : (σ.app ρ).I k = ρ.I k := by simp only [Sub.app, h]
theorem app_V {k : Nat} (h : lk σ.V k = none) : (σ.app ρ).V k = ρ.V k := by simp only [Sub.app, h]
theorem app_S {k : Nat} (h : lk σ.S k = none) : (σ.app ρ).S k = ρ.S k := by simp only [Sub.app, h]; cases Nat.blt k 1000000 <;> rfl
theorem codN_ge (k : Nat) (x y : Int) : Nat.blt (codN k x y) 1000000 = false := by
  rw [Bool.eq_false_iff]
  intro hb
  have := Nat.le_of_ble_eq_true hb
  unfold codN at this; omega
theorem app_cod (k : Nat) (x y : Int) : (σ.app ρ).S (codN k x y) = ρ.S (codN k x y) := by simp only [Sub.app, codN_ge, cond_false]
end
end Go.Vm
