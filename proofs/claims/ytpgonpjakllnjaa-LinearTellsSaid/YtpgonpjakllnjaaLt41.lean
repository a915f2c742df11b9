/-
  LinearTells (40): Same: its runs.
-/
import Derived.Test.YtpgonpjakllnjaaLt39
import Derived.Test.YtpgonpjakllnjaaLt30
section
namespace Go.Proofs.Ytpgonpjakllnjaa
open Go.Vm Go.Vm.Md Lm
namespace Lt

def q1 : Kd → AVal
  | .nil => .sliceNil
  | .zero => .slice 1 (.var 11) (.lit 0) (.lit 0)
  | .row => .slice 1 (.lit 0) (.var 6) (.nv 4)
def q2 : Kd → AVal
  | .nil => .sliceNil
  | .zero => .slice 10 (.var 12) (.lit 0) (.lit 0)
  | .row => .slice 10 (.lit 0) (.var 6) (.nv 15)
def qB (c : Nat) : ABlk := .arr (.code [.i64] (.var 5)) [.i64] 3 (.var 6) (.lit 0) (some (.nv c))
def EB (a b : Kd) : List (Nat × ABlk) := [(0, .cells [q1 a, .map 2, .map 3] 65 none), (2, .mapc (.var 7)), (3, .mapc (.var 8))] ++ a.blk 1 (qB 4) ++ b.blk 10 (qB 15)
def prB (c n k : Nat) : HB := ⟨.arr (.code [.i64, .i64] (.var c)) [.i64, .i64] 95 (.var n) (.lit 0) (some (.nv k)), true⟩
def outP (e : Bool) (c n : Nat) (H : Heap) (nl : Nat) (cs : Cs) : Option (List Leaf) :=
  cond e (some [.ret .sliceNil H nl cs]) (some [.ret (.slice (nl + 1) (.lit 0) (.var n) (.nv nl)) (H.set (nl + 1) (prB c n nl)) (nl + 2) (q9 .geq (.var n) (.lit 1) true :: cs)])
def spLi (m s : Bool) : SpG := fun args H nl cs => match args with
  | [.map l] => match H.get l with
    | some ⟨.mapc (.var 7), _⟩ => outP m 23 22 H nl cs
    | some ⟨.mapc (.var 8), _⟩ => outP s 33 32 H nl cs
    | _ => none
  | _ => none
def spPa (m s : Bool) : SpG := fun args H nl cs =>
  cond (AVal.beqL args [arA (.var 17)]) (outP m 23 22 H nl cs) (cond (AVal.beqL args [arA (.var 18)]) (outP s 33 32 H nl cs) none)
def isPr (c n j : Nat) (H : Heap) (l : Nat) : Bool := match H.get l with
  | some k => HB.rw k && ABlk.beq k.k (prB c n j).k
  | none => false
def spSa : SpG := fun args H nl cs => match args with
  | [.sliceNil, .sliceNil] => some [.ret (.bool (.lit true)) H nl cs]
  | [.slice l (.lit (.ofNat 0)) (.var n) (.nv j), .slice l' (.lit (.ofNat 0)) (.var n') (.nv j')] =>
    cond (lookC [q9 .geq (.var n) (.lit 1) true] cs && ((Nat.beq n 22 && Nat.beq n' 22 && isPr 23 22 j H l && isPr 23 22 j' H l') || (Nat.beq n 32 && Nat.beq n' 32 && isPr 33 32 j H l && isPr 33 32 j' H l'))) (some [.ret (.bool (.lit true)) H nl cs]) none
  | _ => none
def sp16 (m s : Bool) : CallF := spL [(61, spCount), (62, spLi m s), (42, spPa m s), (40, spSa)]
def c6 : Kd → Cs
  | .row => [q9 .geq (.var 6) (.lit 1) true, q9 .leq (.var 6) (.lit 256) true, q9 .leq (.var 6) (.lit 1000000) true]
  | _ => []
def bx : HB := ⟨.cells (q2 .row :: (uniC (.var 17) 256 ++ uniC (.var 18) 256)) 49 none, true⟩
def T16 : Tpl := ⟨[(0, .ptr 0 (.lit 0)), (3, .ptr 20 (.lit 0)), (5, .slice 21 (.lit 0) (.var 6) (.nv 25)), (22, .slice 21 (.lit 0) (.var 6) (.nv 25)), (23, .int .i64 (.var 6)), (24, iV 9)], 54, roH (EB .row .row) ++ [(20, bx), (21, ⟨qB 25, true⟩)], 500, cs9 (.var 6) ++ c6 .row, 3⟩
def eqS : BT := .cmp .neq (.bin .add .i64 (.bin .add .i64 (.var 6) (.un 9 (.var 7) (.lit 0))) (.un 9 (.var 8) (.lit 0))) (.bin .add .i64 (.bin .add .i64 (.var 6) (.fn 55 (.var 17) (.lit 0))) (.fn 55 (.var 18) (.lit 0)))
def eqZ : BT := .cmp .neq (.bin .add .i64 (.bin .add .i64 (.lit 0) (.un 9 (.var 7) (.lit 0))) (.un 9 (.var 8) (.lit 0))) (.bin .add .i64 (.bin .add .i64 (.lit 0) (.fn 55 (.var 17) (.lit 0))) (.fn 55 (.var 18) (.lit 0)))
def s16 (t : IT) (a b c : Nat) : Sub := ⟨[(6, .var 6), (9, t), (7, .var 7), (8, .var 8), (5, .var 5), (17, .var 17), (18, .var 18)], [], [], [], [(0, 0), (20, a), (21, b), (25, c), (1, 1), (4, 4), (2, 2), (3, 3), (10, 10), (15, 15)]⟩
def a16 (b : Kd) : List AVal := [.ptr 0 (.lit 0), rmA (q2 b) (.var 17) (.var 18)]
theorem k16_in (m s : Bool) : RCp true (sp16 m s) 16 Try.f16 [T16] (a16 .row) (ofP (roH (EB .row .row))) (c6 .row ++ [(eqS, false)]) [.next 0 (.code (.loop (lb Try.f16 0)) :: lq Try.f16 0) [] (s16 (.lit 0) 300 303 302)] := by unfold RCp; cases m <;> cases s <;> kernel_rfl
theorem k16_r (m s : Bool) : RHp true (sp16 m s) 16 Try.f16 0 [T16] T16 [q9 .lss at9 (.var 6) true] [.next 0 (.inLoop (lb Try.f16 0) :: lq Try.f16 0) [] (s16 up9 20 21 25)] := by unfold RHp; cases m <;> cases s <;> kernel_rfl
theorem k16_e (m s : Bool) : RHp true (sp16 m s) 16 Try.f16 0 [T16] T16 [q9 .lss at9 (.var 6) false] [.ret (.int .i64 (.lit 1)) []] := by unfold RHp; cases m <;> cases s <;> kernel_rfl
noncomputable def Z16 (a b : Kd) (m s : Bool) : Prop := RCp (PL.only []) (sp16 m s) 16 Try.f16 [] (a16 b) (ofP (roH (EB a b))) [(eqZ, false)] [.ret (.int .i64 (.lit 1)) []]
theorem z16 (a b : Kd) (m s : Bool) (ha : a ≠ .row) (hb : b ≠ .row) : Z16 a b m s := by
  unfold Z16 RCp
  cases a <;> cases b <;> first | exact absurd rfl ha | exact absurd rfl hb | (cases m <;> cases s <;> kernel_rfl)
end Lt
end Go.Proofs.Ytpgonpjakllnjaa
end

/-
  LinearTells (41): Same: a model, and the reference's.
-/
section
namespace Go.Proofs.Ytpgonpjakllnjaa
open Go.Vm Go.Vm.Md Lm
namespace Lt

/-- The names. -/
def GQ (m : Mod) : GP := fun I _ _ _ F => (I 5 = encL m.Q ∧ I 6 = (m.Q.length : Int) ∧ I 7 = encL m.M ∧ I 8 = encL m.S ∧ I 17 = encL (arrL m.M) ∧ I 18 = encL (arrL m.S)) ∧ (I 23 = encL (prL m.M 256) ∧ I 22 = (cntR m.M 256 : Int) ∧ I 33 = encL (prL m.S 256) ∧ I 32 = (cntR m.S 256 : Int)) ∧ F 55 = f55
section
variable {m : Mod} {ρ : Env} {w w' : World} {β : Base} {H : Heap} {nl : Nat} {cs : Cs}
theorem outP_ok {e : Bool} {c n : Nat} {M : List Int} {v : Value} {ls : List Leaf} (hh : HRel β ρ H nl w) (hc : CRel ρ cs) (h : PR w M v w') (he : e = true ↔ cntR M 256 = 0) (hcd : ρ.I c = encL (prL M 256)) (hn : ρ.I n = (cntR M 256 : Int)) (hr : outP e c n H nl cs = some ls) :
    ∃ u H' nl' cs' ρ', Leaf.ret u H' nl' cs' ∈ ls ∧ ρ.Le ρ' ∧ u.den ρ' = some v ∧ HRel β ρ' H' nl' w' ∧ CRel ρ' cs' := by
  unfold outP at hr
  cases e with
  | true =>
    simp only [cond_true, Option.some.injEq] at hr
    subst hr
    rcases h with ⟨_, rfl, hf⟩ | ⟨hne, _⟩
    · exact ⟨.sliceNil, H, nl, cs, ρ, List.mem_cons_self, Env.Le.refl ρ, rfl, hh.framed hf, hc⟩
    · exact absurd (he.1 rfl) hne
  | false =>
    simp only [cond_false, Option.some.injEq] at hr
    subst hr
    rcases h with ⟨h0, _⟩ | ⟨_, ro⟩
    · have := he.2 h0; cases this
    · rename_i hne
      obtain ⟨ρ', hle, hd, hr'⟩ := row_in hh ro (nT := .var n) (c := .var c) (varD hn) (varD hcd)
      exact ⟨_, _, _, _, ρ', List.mem_cons_self, hle, hd, hr', c1 (by
        rw [cmpD (IT.den_mono hle (varD hn)) (litD 1)]
        simp [intCmp]; omega) (hc.mono hle)⟩
theorem spLi_ok (hm : VOk m) (hβ : β.G = GQ m) {e f : Bool} (he : e = true ↔ cntR m.M 256 = 0) (hf : f = true ↔ cntR m.S 256 = 0) : SpGOk Try.prog β 62 (spLi e f) := by
  intro args H nl cs ls ρ w xs hr hx hh hc
  have hG : (GQ m).at ρ := by have := hh.g; rw [hβ] at this; exact this
  obtain ⟨⟨_, _, g7, g8, _, _⟩, ⟨g23, g22, g33, g32⟩, _⟩ := hG
  unfold spLi at hr
  split at hr
  rotate_left
  · cases hr
  rename_i l
  have key : ∀ {i : Nat} {L : List Int} {r1 : Bool}, H.get l = some ⟨.mapc (.var i), r1⟩ → ρ.I i = encL L → MOk L → Calls Try.prog 62 xs.toArray w fun e w' => ∃ v, e = .returned v ∧ PR w L v w' := fun {i L r1} q1 q2 hL => by
    obtain ⟨bm, o, hNm, ho, x, es, cl, rfl, hx2, hes, hbn⟩ := hh.blk l _ q1
    have hx' : AVal.denL ρ [.map l] = some [.map (some bm)] := denL1 (by simp only [AVal.den, hNm, Option.map_some])
    obtain rfl : [.map (some bm)] = xs := Option.some.inj (hx'.symm.trans hx)
    have hxM : x = encL L := by
      have : (IT.var i).den ρ = some (encL L) := varD q2
      exact (Option.some.inj (this.symm.trans hx2)).symm
    exact listed62 hL (sorted69 hL) ho (by rw [entM_eq, ← decL_encL L, ← hxM]; exact hes) hbn
  split at hr
  · rename_i q1
    exact (key q1 g7 hm.mm).mono fun ev w' ⟨v, hv, h⟩ => ⟨v, hv, outP_ok hh hc h he g23 g22 hr⟩
  · rename_i q1
    exact (key q1 g8 hm.ss).mono fun ev w' ⟨v, hv, h⟩ => ⟨v, hv, outP_ok hh hc h hf g33 g32 hr⟩
  · cases hr
theorem spPa_ok (hm : VOk m) (hβ : β.G = GQ m) {e f : Bool} (he : e = true ↔ cntR m.M 256 = 0) (hf : f = true ↔ cntR m.S 256 = 0) : SpGOk Try.prog β 42 (spPa e f) := by
  intro args H nl cs ls ρ w xs hr hx hh hc
  have hG : (GQ m).at ρ := by have := hh.g; rw [hβ] at this; exact this
  obtain ⟨⟨_, _, _, _, g17, g18⟩, ⟨g23, g22, g33, g32⟩, _⟩ := hG
  have arg : ∀ {i : Nat} {L : List Int}, ρ.I i = encL (arrL L) → AVal.denL ρ [arA (.var i)] = some [.agg (arV (encL (arrL L)) 256).toArray] := fun {i L} h => denL1 (by
    have := uniC_den (n := 256) (varD h)
    simp only [arA, AVal.den]
    rw [this]; rfl)
  unfold spPa at hr
  cases hb : AVal.beqL args [arA (.var 17)] with
  | true =>
    rw [hb] at hr; simp only [cond_true] at hr
    obtain rfl := AVal.beqL_eq _ _ hb
    obtain rfl := Option.some.inj ((arg g17).symm.trans hx)
    exact (pairs42 w hm.mm).mono fun ev w' ⟨v, hv, h⟩ => ⟨v, hv, outP_ok hh hc h he g23 g22 hr⟩
  | false =>
    rw [hb] at hr; simp only [cond_false] at hr
    cases hb2 : AVal.beqL args [arA (.var 18)] with
    | true =>
      rw [hb2] at hr; simp only [cond_true] at hr
      obtain rfl := AVal.beqL_eq _ _ hb2
      obtain rfl := Option.some.inj ((arg g18).symm.trans hx)
      exact (pairs42 w hm.ss).mono fun ev w' ⟨v, hv, h⟩ => ⟨v, hv, outP_ok hh hc h hf g33 g32 hr⟩
    | false => rw [hb2] at hr; cases hr
theorem prB_in {c n j l : Nat} {M : List Int} (_ : MOk M) (hh : HRel β ρ H nl w) (h : isPr c n j H l = true) (hc : ρ.I c = encL (prL M 256)) (hn : ρ.I n = (cntR M 256 : Int)) : ∃ v, (AVal.slice l (.lit 0) (.var n) (.nv j)).den ρ = some v ∧ PV w (prL M 256) (cntR M 256) v := by
  unfold isPr at h
  split at h
  rotate_left
  · cases h
  rename_i k hk
  simp only [Bool.and_eq_true] at h
  obtain ⟨h1, h2⟩ := h
  obtain ⟨kk, rw0⟩ := k
  simp only at h1 h2
  subst h1
  obtain rfl := ABlk.beq_eq h2
  obtain ⟨b, o, hb, ho, xs, c0', fr, el, n', st, rfl, hel, hd, hst, ⟨q1, q2⟩, hn', hty, ⟨cap, hcap, hs⟩, hf⟩ := hh.blk l _ hk
  obtain rfl := hel rfl
  obtain rfl : st = 0 := by have := Option.some.inj hst; exact (Int.ofNat.inj this).symm
  refine ⟨_, den_slice_of hb rfl (varD hn) hcap, b, cap, c0', fr, rfl, ho, ?_, by simpa using hs⟩
  have : (AT.code [.i64, .i64] (.var c)).den ρ = some (rowOf [.i64, .i64] (prL M 256)) := by simp only [AT.den, varD hc, Option.map_some, decL_encL]
  obtain rfl : xs = _ := Option.some.inj (hd.symm.trans this)
  rw [List.drop_zero] at q2; exact q2
theorem spSa_ok (hm : VOk m) (hβ : β.G = GQ m) : SpGOk Try.prog β 40 spSa := by
  intro args H nl cs ls ρ w xs hr hx hh hc
  have hG : (GQ m).at ρ := by have := hh.g; rw [hβ] at this; exact this
  obtain ⟨_, ⟨g23, g22, g33, g32⟩, _⟩ := hG
  unfold spSa at hr
  split at hr
  · cases hr
    obtain rfl : [.slice none 0 0, .slice none 0 0] = xs := Option.some.inj hx
    exact spV_ok (same40n w) rfl hh hc
  · rename_i l n j l' n' j'
    have fin : ∀ {c i : Nat} {M : List Int}, MOk M → ρ.I c = encL (prL M 256) → ρ.I i = (cntR M 256 : Int) → n = i → n' = i → isPr c i j H l = true → isPr c i j' H l' = true → lookC [q9 .geq (.var n) (.lit 1) true] cs = true → Calls Try.prog 40 xs.toArray w fun e w' => e = .returned (.bool true) ∧ Framed w w' := fun {c i M} hM hcd hn h1 h2 h3 h4 h5 => by
      subst h1 h2
      obtain ⟨v1, d1, p1⟩ := prB_in hM hh h3 hcd hn
      obtain ⟨v2, d2, p2⟩ := prB_in hM hh h4 hcd hn
      obtain rfl : [v1, v2] = xs := Option.some.inj ((denL2 d1 d2).symm.trans hx)
      have h6 := lookC_ok h5 hc _ (List.mem_cons_self ..)
      simp only [q9] at h6
      rw [cmpD (varD hn) (litD 1)] at h6
      have h0 : 1 ≤ cntR M 256 := by
        simp only [intCmp, Option.some.injEq, decide_eq_true_eq] at h6
        omega
      exact same40 p1 p2 (prL_len hM 256) h0 (cntR_le M 256)
    cases hb : (lookC [q9 .geq (.var n) (.lit 1) true] cs && ((Nat.beq n 22 && Nat.beq n' 22 && isPr 23 22 j H l && isPr 23 22 j' H l') || (Nat.beq n 32 && Nat.beq n' 32 && isPr 33 32 j H l && isPr 33 32 j' H l'))) with
    | false => rw [hb] at hr; cases hr
    | true =>
      rw [hb] at hr; cases hr
      simp only [Bool.or_eq_true, Bool.and_eq_true] at hb
      obtain ⟨h5, ⟨⟨⟨h1, h2⟩, h3⟩, h4⟩ | ⟨⟨⟨h1, h2⟩, h3⟩, h4⟩⟩ := hb
      · exact spV_ok (fin hm.mm g23 g22 (Nat.eq_of_beq_eq_true h1) (Nat.eq_of_beq_eq_true h2) h3 h4 h5) rfl hh hc
      · exact spV_ok (fin hm.ss g33 g32 (Nat.eq_of_beq_eq_true h1) (Nat.eq_of_beq_eq_true h2) h3 h4 h5) rfl hh hc
  · cases hr
-- SAME
structure J16 (n i : Nat) (ρ : Env) : Prop where
  i9 : ρ.I 9 = (i : Int)
  le : i ≤ n
def keepL : List Nat := [5, 6, 7, 8, 17, 18]
theorem GQ.keep {a b c : Nat} {t : IT} (h : (GQ m).at ρ) : (GQ m).at ((s16 t a b c).app ρ) := by
  obtain ⟨⟨g5, g6, g7, g8, g17, g18⟩, g2, g55⟩ := h
  exact ⟨⟨sbI (t := .var 5) rfl (varD g5), sbI (t := .var 6) rfl (varD g6), sbI (t := .var 7) rfl (varD g7), sbI (t := .var 8) rfl (varD g8), sbI (t := .var 17) rfl (varD g17), sbI (t := .var 18) rfl (varD g18)⟩, g2, g55⟩
def env16 (m : Mod) (o1 o2 : Nat) (N : Nat → Option Nat) : Env :=
  ⟨fun i => if i = 5 then encL m.Q else if i = 6 then (m.Q.length : Int) else if i = 7 then encL m.M else if i = 8 then encL m.S else if i = 17 then encL (arrL m.M) else if i = 18 then encL (arrL m.S) else if i = 23 then encL (prL m.M 256) else if i = 22 then (cntR m.M 256 : Int) else if i = 33 then encL (prL m.S 256) else if i = 32 then (cntR m.S 256 : Int) else if i = 11 then (o1 : Int) else if i = 12 then (o2 : Int) else 0, fun _ => false, fun _ => default, fun _ => undef, N, fun i => if i = 55 then f55 else fun _ _ => 0⟩
theorem env16_G {o1 o2 : Nat} {N : Nat → Option Nat} : (GQ m).at (env16 m o1 o2 N) := ⟨⟨rfl, rfl, rfl, rfl, rfl, rfl⟩, ⟨rfl, rfl, rfl, rfl⟩, rfl⟩
def nm16 (b bp bs b1 c1' b2 c2' : Nat) : Nat → Option Nat := fun i => if i = 0 then some b else if i = 2 then some bp else if i = 3 then some bs else if i = 1 then some b1 else if i = 4 then some c1' else if i = 10 then some b2 else if i = 15 then some c2' else none
theorem nm16_hi {b bp bs b1 c1' b2 c2' i : Nat} (h : 300 ≤ i) : nm16 b bp bs b1 c1' b2 c2' i = none := by
  unfold nm16
  rw [if_neg (by omega), if_neg (by omega), if_neg (by omega), if_neg (by omega), if_neg (by omega), if_neg (by omega), if_neg (by omega)]
/-- A slice that holds the queue: of which kind. -/
theorem kindQ {vq : Value} {Q : List Int} (h : QV w Q vq) : (Q = [] ∧ (vq = .slice none 0 0 ∨ ∃ b o, vq = .slice (some ⟨b, o, none⟩) 0 0)) ∨ (Q ≠ [] ∧ ∃ b cap o, vq = .slice (some ⟨b, 0, none⟩) Q.length cap ∧ w.heap[b]? = some o ∧ RowM Q cap o) := by
  rcases h with ⟨p, rfl, hp, hQ⟩ | ⟨b1, cap, o, hne, rfl, ho, hr⟩
  · cases p with
    | none => exact .inl ⟨hQ, .inl rfl⟩
    | some p =>
      obtain ⟨pb, po, ps⟩ := p
      obtain rfl : ps = none := hp _ rfl
      exact .inl ⟨hQ, .inr ⟨pb, po, rfl⟩⟩
  · exact .inr ⟨hne, b1, cap, o, rfl, ho, hr⟩
theorem sp16_ok (hm : VOk m) {e f : Bool} (he : e = true ↔ cntR m.M 256 = 0) (hf : f = true ↔ cntR m.S 256 = 0) : CallOk Try.prog ⟨w, [], GQ m⟩ (sp16 e f) := spL_ok fun p hp => by
  simp only [List.mem_cons, List.not_mem_nil, or_false] at hp
  rcases hp with rfl | rfl | rfl | rfl
  · exact spCount_ok fun _ _ _ _ _ h => h.2.2
  · exact spLi_ok hm rfl he hf
  · exact spPa_ok hm rfl he hf
  · exact spSa_ok hm rfl
theorem size_ok (hm : VOk m) (hG : (GQ m).at ρ) {t : IT} (ht : t.den ρ = some (m.Q.length : Int)) : (BT.cmp .neq (.bin .add .i64 (.bin .add .i64 t (.un 9 (.var 7) (.lit 0))) (.un 9 (.var 8) (.lit 0))) (.bin .add .i64 (.bin .add .i64 t (.fn 55 (.var 17) (.lit 0))) (.fn 55 (.var 18) (.lit 0)))).den ρ = some false := by
  obtain ⟨⟨_, _, g7, g8, g17, g18⟩, _, g55⟩ := hG
  have l1 : (IT.un 9 (.var 7) (.lit 0)).den ρ = some ((cntR m.M 256 : Nat) : Int) := by
    rw [unD (varD g7) (litD 0)]
    show some (((decL (encL m.M)).length / 2 : Nat) : Int) = _
    rw [decL_encL, cnt_all hm.mm]
  have l2 : (IT.un 9 (.var 8) (.lit 0)).den ρ = some ((cntR m.S 256 : Nat) : Int) := by
    rw [unD (varD g8) (litD 0)]
    show some (((decL (encL m.S)).length / 2 : Nat) : Int) = _
    rw [decL_encL, cnt_all hm.ss]
  have f1 : (IT.fn 55 (.var 17) (.lit 0)).den ρ = some ((cntR m.M 256 : Nat) : Int) := by
    rw [fnD (varD g17) (litD 0), g55]
    show some ((cntX (encL (arrL m.M)) 256 : Nat) : Int) = _
    rw [cntX_R _ _ (Nat.le_refl _)]
  have f2 : (IT.fn 55 (.var 18) (.lit 0)).den ρ = some ((cntR m.S 256 : Nat) : Int) := by
    rw [fnD (varD g18) (litD 0), g55]
    show some ((cntX (encL (arrL m.S)) 256 : Nat) : Int) = _
    rw [cntX_R _ _ (Nat.le_refl _)]
  have q := hm.qq
  have c1' := cntR_le m.M 256
  have c2' := cntR_le m.S 256
  have s1 := plusD (plusD ht l1 (by omega) (by omega)) l2 (by omega) (by omega)
  have s2 := plusD (plusD ht f1 (by omega) (by omega)) f2 (by omega) (by omega)
  rw [cmpD s1 s2]
  simp [intCmp]
theorem same16 (hm : VOk m) {b : Nat} {F : Nat → Prop} {vq : Value} (h : ModelIn w b F m.Q m.M m.S) (hq : QV w m.Q vq) : Calls Try.prog 16 #[.pointer (some ⟨b, 0, none⟩), rmV vq m] w fun e w' => e = .returned (.int .i64 1) ∧ Framed w w' := by
  obtain ⟨⟨c, fr, v1, bp, bs, em, cm, es, cs, hob, hcl, hf, hop, hem, hbe, hos, hes, hbs, _, _, _, hqi⟩⟩ := h
  have hq1 : QV w m.Q v1 := by
    rcases hqi with ⟨a, q1, q2, q3, _⟩ | ⟨b1, cap, o, q1, q2, q3, q4, _⟩
    · exact .inl ⟨a, q1, q2, q3⟩
    · exact .inr ⟨b1, cap, o, q1, q2, q3, q4⟩
  obtain ⟨e, he⟩ : ∃ e : Bool, e = true ↔ cntR m.M 256 = 0 := ⟨decide (cntR m.M 256 = 0), by simp⟩
  obtain ⟨f, hf'⟩ : ∃ e : Bool, e = true ↔ cntR m.S 256 = 0 := ⟨decide (cntR m.S 256 = 0), by simp⟩
  have hsp := sp16_ok (w := w) hm he hf'
  have srel : ∀ {ρ : Env} {q : AVal}, q.den ρ = some v1 → ρ.N 2 = some bp → ρ.N 3 = some bs → (ABlk.cells [q, .map 2, .map 3] 65 none).rel ρ false (.cells c 65 fr) := fun {ρ q} q1 q2 q3 => by
    refine ⟨[v1, .map (some bp), .map (some bs)], c, fr, rfl, by simp only [AVal.denL, AVal.den, q1, q2, q3, Option.map_some], by rw [hcl]; exact List.prefix_refl _, ?_, fun e => by cases e⟩
    have : c.toList.length = 3 := by rw [hcl]; rfl
    show c.size = 3
    simpa using this
  have mrel : ∀ {ρ : Env} {i : Nat} {L : List Int} {e : Array MapEntry} {cl : Nat}, ρ.I i = encL L → e.toList.map (fun e => (e.key, e.val)) = entM L → BornM e cl → (ABlk.mapc (.var i)).rel ρ false (.map e cl) := fun {ρ i L e cl} h4 he hbb => ⟨encL L, e, cl, rfl, congrArg some h4, by rw [decL_encL, ← entM_eq]; exact he, hbb⟩
  have ax : ∀ {ρ : Env} {q : AVal}, (GQ m).at ρ → ρ.N 0 = some b → q.den ρ = some vq → AVal.denL ρ [.ptr 0 (.lit 0), rmA q (.var 17) (.var 18)] = some [.pointer (some ⟨b, 0, none⟩), rmV vq m] := fun {ρ q} hG h0 hq => denL2 (by simp only [AVal.den, h0]; rfl) (rmA_den hq (varD hG.1.2.2.2.2.1) (varD hG.1.2.2.2.2.2))
  rcases kindQ hq1 with ⟨hQ, hv1⟩ | ⟨hne, b1, cap1, o1, rfl, ho1, hr1⟩
  · -- an empty queue
    obtain ⟨a, z1, p1, o1, hz1, d1⟩ : ∃ (a : Kd) (_ : a ≠ .row) (p1 o1 : Nat), (∀ x, a.blk 1 x = []) ∧ ∀ ρ : Env, ρ.N 1 = some p1 → ρ.I 11 = (o1 : Int) → (q1 a).den ρ = some v1 := by
      rcases hv1 with rfl | ⟨p, o, rfl⟩
      · exact ⟨.nil, (by intro h; cases h), 0, 0, fun _ => rfl, fun ρ _ _ => rfl⟩
      · exact ⟨.zero, (by intro h; cases h), p, o, fun _ => rfl, fun ρ h1 h2 => den_slice_of (n := 0) (c := 0) h1 (varD h2) rfl rfl⟩
    obtain ⟨a2, z2, p2, o2, hz2, d2⟩ : ∃ (a : Kd) (_ : a ≠ .row) (p1 o1 : Nat), (∀ x, a.blk 10 x = []) ∧ ∀ ρ : Env, ρ.N 10 = some p1 → ρ.I 12 = (o1 : Int) → (q2 a).den ρ = some vq := by
      rcases kindQ hq with ⟨_, rfl | ⟨p, o, rfl⟩⟩ | ⟨hne, _⟩
      · exact ⟨.nil, (by intro h; cases h), 0, 0, fun _ => rfl, fun ρ _ _ => rfl⟩
      · exact ⟨.zero, (by intro h; cases h), p, o, fun _ => rfl, fun ρ h1 h2 => den_slice_of (n := 0) (c := 0) h1 (varD h2) rfl rfl⟩
      · exact absurd hQ hne
    have hr : HRel ⟨w, [], GQ m⟩ (env16 m o1 o2 (nm16 b bp bs p1 0 p2 0)) (ofP (roH (EB a a2))) 300 w := by
      refine HRel.ro (EB a a2) (fun p hp => ?_) (fun i hi => nm16_hi hi) env16_G (by unfold EB; rw [hz1, hz2]; rfl)
      unfold EB at hp
      rw [hz1, hz2, List.append_nil, List.append_nil] at hp
      simp only [List.mem_cons, List.not_mem_nil, or_false] at hp
      rcases hp with rfl | rfl | rfl
      · exact ⟨b, _, rfl, hob, srel (d1 _ rfl rfl) rfl rfl⟩
      · exact ⟨bp, _, rfl, hop, mrel rfl hem hbe⟩
      · exact ⟨bs, _, rfl, hos, mrel rfl hes hbs⟩
    exact toE (callp (Q := fun v => v = .int .i64 1) hsp rfl Try.func16 rfl (z16 a a2 e f z1 z2) (ax env16_G rfl (d2 _ rfl rfl)) hr (c1 (size_ok hm env16_G (t := .lit 0) (by rw [hQ]; rfl)) c0) (Go.Vm.one (retS (z := .int .i64 1) (fun _ _ => rfl) rfl)))
  · -- a row
    obtain ⟨b2, cap2, ob2, rfl, ho2, hr2⟩ : ∃ b cap o, vq = .slice (some ⟨b, 0, none⟩) m.Q.length cap ∧ w.heap[b]? = some o ∧ RowM m.Q cap o := by
      rcases kindQ hq with ⟨hQ, _⟩ | ⟨_, h⟩
      · exact absurd hQ hne
      · exact h
    have h1 : 1 ≤ m.Q.length := List.length_pos_iff.2 hne
    have hql := hm.qq
    have qrel : ∀ {ρ : Env} {c cap : Nat} {o : Obj}, (GQ m).at ρ → RowM m.Q cap o → ρ.N c = some cap → (qB c).rel ρ false o := fun {ρ c cap o} hG hr hN => by
      obtain ⟨cc, fr, rfl, hp, hs, hf⟩ := hr
      refine ⟨rowOf [.i64] m.Q, cc, fr, 3, m.Q.length, 0, rfl, (fun e => by cases e), ?_, rfl, ⟨Nat.zero_le _, ?_⟩, varD hG.1.2.1, rowOf_typed (by simp), ⟨cap, nvD hN, by simp [hs]⟩, (fun e => by cases e)⟩
      · simp only [AT.den, varD hG.1.1, Option.map_some, decL_encL]
      · rw [List.drop_zero, rowOf1]; exact hp
    have hr : HRel ⟨w, [], GQ m⟩ (env16 m 0 0 (nm16 b bp bs b1 cap1 b2 cap2)) (ofP (roH (EB .row .row))) 300 w := by
      refine HRel.ro (EB .row .row) (fun p hp => ?_) (fun i hi => nm16_hi hi) env16_G rfl
      simp only [EB, Kd.blk, List.cons_append, List.nil_append, List.mem_cons, List.not_mem_nil, or_false] at hp
      rcases hp with rfl | rfl | rfl | rfl | rfl
      · exact ⟨b, _, rfl, hob, srel (den_slice_of rfl rfl (varD rfl) (nvD rfl)) rfl rfl⟩
      · exact ⟨bp, _, rfl, hop, mrel rfl hem hbe⟩
      · exact ⟨bs, _, rfl, hos, mrel rfl hes hbs⟩
      · exact ⟨b1, _, rfl, ho1, qrel env16_G hr1 rfl⟩
      · exact ⟨b2, _, rfl, ho2, qrel env16_G hr2 rfl⟩
    have c6' : ∀ {ρ : Env}, (GQ m).at ρ → CRel ρ (c6 .row) := fun hG => qD (varD hG.1.2.1) (litD 1) (by simp [intCmp]; omega) (qD (varD hG.1.2.1) (litD 256) (by simp [intCmp]; omega) (qD (varD hG.1.2.1) (litD _) (by simp [intCmp]; omega) c0))
    have csT : ∀ {i ρ}, J16 m.Q.length i ρ → (GQ m).at ρ → CRel ρ T16.cs := fun j hG => CRel_app.2 ⟨cs9_ok j.i9 (varD hG.1.2.1) j.le, c6' hG⟩
    have loop := scanp (β := ⟨w, [], GQ m⟩) (pl := true) (sp := sp16 e f) (f := 16) (fn := Try.f16) (j := 0) (T := T16) (Ts := [T16]) hsp rfl (Q := fun v => v = .int .i64 1) (fun ρ => ∃ i, J16 m.Q.length i ρ) (fun ρ => ((m.Q.length : Int) - ρ.I 9).toNat) fun ρ ⟨i, j⟩ hG hcs _ ih => by
      have hi := j.le
      have e9 : at9.den ρ = some (i : Int) := varD j.i9
      by_cases hlt : i < m.Q.length
      · refine ⟨_, _, qD e9 (varD hG.1.2.1) (by simp [intCmp]; omega) c0, k16_r e f, Go.Vm.one (nextS rfl fun ρ' hle hG' => ?_)⟩
        have jn : J16 m.Q.length (i + 1) ((s16 up9 20 21 25).app ρ') := ⟨sbI (t := up9) rfl (upD (varD (by rw [hle.i]; exact j.i9)) (by omega)), hlt⟩
        have hGn := GQ.keep (a := 20) (b := 21) (c := 25) (t := up9) hG'
        exact ⟨hGn, csT jn hGn, fun a w' r => ih _ (by rw [jn.i9, j.i9]; omega) ⟨_, jn⟩ _ a w' (.inl rfl) r⟩
      · exact ⟨_, _, qD e9 (varD hG.1.2.1) (by simp [intCmp]; omega) c0, k16_e e f, Go.Vm.one (retS (z := .int .i64 1) (fun _ _ => rfl) rfl)⟩
    refine toE (callp (Q := fun v => v = .int .i64 1) hsp rfl Try.func16 rfl (k16_in e f) (ax env16_G rfl (den_slice_of rfl rfl (varD rfl) (nvD rfl))) hr (CRel_app.2 ⟨c6' env16_G, c1 (size_ok hm env16_G (varD rfl)) c0⟩) (Go.Vm.one (nextS rfl fun ρ' hle hG' => ?_)))
    have jn : J16 m.Q.length 0 ((s16 (.lit 0) 300 303 302).app ρ') := ⟨sbI (t := .lit 0) rfl rfl, by omega⟩
    have hGn := GQ.keep (a := 300) (b := 303) (c := 302) (t := .lit 0) hG'
    exact ⟨hGn, csT jn hGn, fun a w' r => loop _ ⟨0, jn⟩ _ a w' (.inr rfl) r⟩
end
end Lt
end Go.Proofs.Ytpgonpjakllnjaa
end
