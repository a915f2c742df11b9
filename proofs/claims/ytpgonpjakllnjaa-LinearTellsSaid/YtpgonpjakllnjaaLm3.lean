/-
  LinearModel (3): slices.Clone of what is left of a queue.
-/
import Derived.Test.YtpgonpjakllnjaaLm2
import Derived.Test.YtpgonpjakllnjaaVm30
namespace Go.Proofs.Ytpgonpjakllnjaa
open Go.Vm
namespace Lm

theorem noSpB (β : Base) : CallOk Try.prog β (spL []) := spL_ok fun _ hp => by cases hp
def gQ : Gen := ⟨60, 0, 0, 0⟩
def zQ : AVal := .slice 0 (.var 62) (.lit 0) (.var 63)
def eQ : List Tpl := [⟨[(0, .slice 10 (.lit 0) (.lit 0) (.lit 0))], 1, [], 11, [], 0⟩]
theorem z_run : (run Try.prog [] (spL []) 4000 true 22 (entry Try.f22 (Try.f22.body.getD .ret) [zQ] .leaf 1 [])).map (·.filterMap (sumMD gQ [] eQ [])) = some [.done 0 [] ⟨[], [], [], [], [(10, 1)]⟩] := by kernel_rfl
/-- Of nothing: nothing. -/
theorem clone22z (w : World) (b o c : Nat) : Calls Try.prog 22 #[.slice (some ⟨b, o, none⟩) 0 c] w fun e w' => (∃ b', e = .returned (.slice (some ⟨b', 0, none⟩) 0 0)) ∧ Framed w w' := by
  obtain ⟨ρ, hρ⟩ : ∃ ρ : Env, ρ = ⟨fun i => if i = 62 then o else if i = 63 then c else 0, fun _ => false, fun _ => default, fun _ => undef, fun i => if i = 0 then some b else none, F0⟩ := ⟨_, rfl⟩
  have hr : HRel (.plain w) ρ .leaf 1 w := by
    rw [hρ]
    exact HRel.ro [] (fun p hp' => by cases hp') (fun i hi => if_neg (by omega)) trivial
  have hx : AVal.denL ρ [zQ] = some [.slice (some ⟨b, o, none⟩) 0 c] := by
    rw [hρ]; exact denL1 (den_slice_of rfl rfl rfl rfl)
  refine (calls_sumsE (β := .plain w) (R := fun x w' => (∃ b', x = .slice (some ⟨b', 0, none⟩) 0 0) ∧ Framed w w') (g := gQ) (L := []) (Rs := eQ) (Ts := []) (pl := true) noCount noExt (noSpB _) follows Try.func22 rfl z_run hx hr c0
    (one (doneR rfl (fun l hl => by cases hl) fun ρ' hle hG => ⟨trivial, c0, fun x w' r => ?_⟩))).mono fun e w' ⟨v, he, ⟨b', hb⟩, hf⟩ => ⟨⟨b', by rw [he, hb]⟩, hf⟩
  obtain ⟨y, hy, he⟩ := r.t 0 _ rfl
  obtain rfl : x = y := Option.some.inj he
  obtain ⟨b', o', n', c', rfl, _, ho, hn, hc⟩ := den_slice hy
  obtain rfl : o' = 0 := by have := Option.some.inj ho; exact (Int.ofNat.inj this).symm
  obtain rfl : n' = 0 := by have := Option.some.inj hn; exact (Int.ofNat.inj this).symm
  obtain rfl : c' = 0 := by have := Option.some.inj hc; exact (Int.ofNat.inj this).symm
  exact ⟨⟨b', rfl⟩, Framed.of r.h⟩
/-- What is left of a queue behind its first number. -/
def leftOff (j : Nat) : IT := .elem (.lit 0) 1 0 (.un 13 (.lit 1) (.nv j))
def leftLen (n : IT) : IT := .un 14 n (.lit 1)
def spLeft : SpG := fun args H nl cs => match args with
  | [.slice l off n _] => match lookB cs (.cmp .geq n (.lit 1)) with
    | some false => some [.ret (.slice nl (.lit 0) (.lit 0) (.lit 0)) H (nl + 1) cs]
    | some true => match H.get l with
      | some ⟨.arr (.code [.i64] c) [.i64] _ len (.lit (.ofNat 0)) (some (.nv j)), _⟩ => cond (IT.beq off (leftOff j) && IT.beq n (leftLen len) && sureC cs (.cmp .leq n (.lit 1000000)))
        (some [.ret (.slice (nl + 1) (.lit 0) n (.nv nl)) (H.set (nl + 1) ⟨.arr (.code [.i64] (.un 11 c (.lit 1))) [.i64] 3 n (.lit 0) (some (.nv nl)), true⟩) (nl + 2) cs]) none
      | _ => none
    | none => none
  | _ => none
theorem spLeft_ok {β : Base} : SpGOk Try.prog β 22 spLeft := by
  intro args H nl cs ls ρ w xs hr hx hh hc
  unfold spLeft at hr
  split at hr
  rotate_left
  · cases hr
  rename_i l off n cp
  simp only [AVal.denL] at hx
  cases hxd : (AVal.slice l off n cp).den ρ with
  | none => rw [hxd] at hx; cases hx
  | some xv =>
    rw [hxd] at hx; cases hx
    obtain ⟨b, o, m, cap, rfl, hN, ho, hn, hcp⟩ := den_slice hxd
    have hn : n.den ρ = some (m : Int) := hn
    split at hr
    · rename_i hl
      have := lookB_ok hl hc
      rw [cmpD hn (litD 1)] at this
      simp only [intCmp, Option.some.injEq, decide_eq_false_iff_not] at this
      obtain rfl : m = 0 := by omega
      cases hr
      refine (clone22z w b o cap).mono fun e w' ⟨⟨b', he⟩, hf⟩ => ?_
      have h1 := (hh.framed hf).num b'
      have hle := Env.le_put (b := b') (hh.fresh nl (Nat.le_refl _))
      exact ⟨_, he, _, _, _, _, ρ.put nl b', List.mem_cons_self, hle, den_slice_of (Env.put_same ..) rfl rfl rfl, h1, hc.mono hle⟩
    · rename_i hl
      have := lookB_ok hl hc
      rw [cmpD hn (litD 1)] at this
      simp only [intCmp, Option.some.injEq, decide_eq_true_eq] at this
      split at hr
      rotate_left
      · cases hr
      rename_i c el len j rw' hg
      cases hb : (IT.beq off (leftOff j) && IT.beq n (leftLen len) && sureC cs (.cmp .leq n (.lit 1000000))) with
      | false => rw [hb] at hr; cases hr
      | true =>
        rw [hb] at hr; cases hr
        simp only [Bool.and_eq_true] at hb
        obtain ⟨⟨h3, h4⟩, h5⟩ := hb
        obtain rfl := IT.beq_eq h3
        obtain rfl := IT.beq_eq h4
        have hmil : (m : Int) ≤ 1000000 := by
          have := Go.Vm.sureC_ok h5 hc
          rw [cmpD hn (litD _)] at this
          simpa only [intCmp, Option.some.injEq, decide_eq_true_eq] using this
        obtain ⟨b', ob, hb', hob, xs, c0, fr, el', m', st, rfl, _, hd, hst, ⟨_, hp⟩, hn', hty, ⟨N0, hN0, hroom⟩, _⟩ := hh.blk l _ hg
        rw [hN] at hb'; cases hb'
        obtain rfl : st = 0 := by have := Option.some.inj hst; exact (Int.ofNat.inj this).symm
        rw [List.drop_zero] at hp
        simp only [AT.den] at hd
        cases hcd : c.den ρ with
        | none => rw [hcd] at hd; cases hd
        | some y =>
          rw [hcd] at hd
          obtain rfl : rowOf [.i64] (decL y) = xs := Option.some.inj hd
          have hlen : (decL y).length = m' := by have := hty.1; rw [rowOf_length] at this; simpa using this
          have hn' : len.den ρ = some (m' : Int) := hn'
          have hm : m = m' - 1 ∧ 2 ≤ m' := by
            have := (unD (k := 14) hn' (litD 1)).symm.trans hn
            have e : univ 14 (m' : Int) 1 = if (1 : Int) ≤ (m' : Int) then (m' : Int) - 1 else 0 := rfl
            rw [e] at this
            by_cases hq : (1 : Int) ≤ (m' : Int)
            · rw [if_pos hq] at this; have := Option.some.inj this; omega
            · rw [if_neg hq] at this; have := Option.some.inj this; omega
          obtain ⟨hm, h2⟩ := hm
          have hsz : (rowOf [.i64] (decL y)).length ≤ c0.size := by simpa using hp.length_le
          rw [rowOf_length, hlen] at hsz
          have hcapN : N0 = c0.size := by
            have : c0.size - 0 = N0 * 1 := hroom
            omega
          have hi : (IT.un 13 (.lit 1) (.nv j)).den ρ = some ((1 : Nat) : Int) := by
            rw [unD (litD 1) hN0]
            have e : univ 13 1 (N0 : Int) = if (1 : Int) = (N0 : Int) then 0 else 1 := rfl
            rw [e, if_neg (by omega)]; rfl
          obtain rfl : o = 1 := by
            have := (elemD (sz := 1) (j := 0) (litD (ρ := ρ) ((0 : Nat) : Int)) hi).symm.trans ho
            have := Int.ofNat.inj (Option.some.inj this)
            omega
          have hl' : ((decL y).drop 1).length = m * 1 := by rw [List.length_drop, hlen]; omega
          refine (clone22 w b 1 m cap ((decL y).drop 1) hl' (by omega) fun q u hq => ?_).mono fun e w' ⟨v', he, hown, hnn, hbel⟩ => ?_
          · rw [cell_of w hob, ← prefix_get hp (o := 1 + q) (x := u)]
            rw [rowOf_get] at hq ⊢
            obtain ⟨z, hz, rfl⟩ := Option.map_eq_some_iff.1 hq
            rw [List.getElem?_drop] at hz
            rw [hz]
            simp [Nat.mod_one]
          · have ec : (IT.un 11 c (.lit 1)).den ρ = some (encL ((decL y).drop 1)) := unD hcd (litD 1)
            obtain ⟨ρ', hle, hd', hr'⟩ := row_inY hh (rowOut_owns hl' hown hnn (framed_of_below hbel)) hn ec (decL_encL _)
            exact ⟨v', he, _, _, _, _, ρ', List.mem_cons_self, hle, hd', hr', hc.mono hle⟩
    · cases hr
end Lm
end Go.Proofs.Ytpgonpjakllnjaa
