/-
  LinearSearch: the search, plainly.
-/
import Derived.Test.YtpgonpjakllnjaaLt3
import Derived.Test.YtpgonpjakllnjaaLm0
import Derived.Test.YtpgonpjakllnjaaLt6
section
section
namespace Go.Proofs.Ytpgonpjakllnjaa
open Go.Vm Go.Vm.Md Lm Lt
namespace Ls

/-- The first that there is. -/
def firstS {α : Type} (p : Nat → Option α) : Nat → Option α
  | 0 => none
  | n + 1 => match firstS p n with
    | some x => some x
    | none => p n
theorem firstS_step {α : Type} {p : Nat → Option α} {n : Nat} (h : firstS p n = none) (g : p n = none) : firstS p (n + 1) = none := by simp only [firstS, h, g]
theorem firstS_at {α : Type} {p : Nat → Option α} {x : α} : ∀ {n i : Nat}, i < n → firstS p i = none → p i = some x → firstS p n = some x
  | n + 1, i, h, h1, h2 => by
    rcases Nat.lt_or_ge i n with h3 | h3
    · simp only [firstS, firstS_at h3 h1 h2]
    · obtain rfl : i = n := by omega
      simp only [firstS, h1, h2]
theorem firstS_some {α : Type} {p : Nat → Option α} {x : α} : ∀ {n : Nat}, firstS p n = some x → ∃ i, i < n ∧ p i = some x
  | n + 1, h => by
    simp only [firstS] at h
    split at h
    · rename_i y hy
      cases h
      obtain ⟨i, hi, hp⟩ := firstS_some hy
      exact ⟨i, by omega, hp⟩
    · exact ⟨n, by omega, h⟩
theorem firstS_none {α : Type} {p : Nat → Option α} : ∀ {n i : Nat}, firstS p n = none → i < n → p i = none
  | n + 1, i, h, hi => by
    simp only [firstS] at h
    split at h
    · cases h
    · rename_i h1
      rcases Nat.lt_or_ge i n with h2 | h2
      · exact firstS_none h1 h2
      · obtain rfl : i = n := by omega
        exact h
section
variable (d : Dt)
/-- May one be the next one, where these are left? -/
def freeQ (L : List Int) (i : Int) (j : Nat) : Bool := !decide (L.getD j 0 = i) && d.ahead (L.getD j 0) i
def freeP (L : List Int) (i : Int) : Bool := !anyT (freeQ d L i) L.length
def hasL (O : List Int) (i : Int) : Bool := anyT (fun j => decide (O.getD j 0 = i)) O.length
def doneQ (O : List Int) (j : Nat) : Bool := !hasL O (d.o j)
/-- Does all that must be stand there? -/
def doneP (O : List Int) : Bool := !anyT (doneQ d O) d.m
def alP (m : Mod) (i : Int) : Bool := decide ((d.go m i).1.1 = d.c i 9) && decide ((d.go m i).1.2 = d.c i 10)
def okA (m : Mod) (i : Int) : Bool := !d.ended i || alP d m i
def tryP (rec : Mod → List Int → List Int → Option (List Int)) (m : Mod) (O L : List Int) (t : Nat) : Option (List Int) :=
  if freeP d L (L.getD t 0) = true ∧ okA d m (L.getD t 0) = true then rec (d.go m (L.getD t 0)).2 (O ++ [L.getD t 0]) (L.eraseIdx t) else none
/-- On from a model, an order, with these left. -/
def onP : Nat → Mod → List Int → List Int → Option (List Int)
  | 0, _, O, _ => if doneP d O = true then some O else none
  | f + 1, m, O, L => if doneP d O = true then some O else firstS (tryP d (onP f) m O L) L.length
end
/-- What a call of 'on' is about. -/
structure Sd where
  d : Dt
  O : List Int
  L : List Int
  mo : Mod
  f : Nat
namespace Sd
variable (e : Sd)
def at_ (t : Nat) : Int := e.L.getD t 0
/-- What comes of the recursion with the one at a place. -/
def rc (t : Nat) : Option (List Int) := onP e.d e.f (e.d.go e.mo (e.at_ t)).2 (e.O ++ [e.at_ t]) (e.L.eraseIdx t)
def try_ (t : Nat) : Option (List Int) := tryP e.d (onP e.d e.f) e.mo e.O e.L t
theorem try_eq (t : Nat) : e.try_ t = if freeP e.d e.L (e.at_ t) = true ∧ okA e.d e.mo (e.at_ t) = true then e.rc t else none := rfl
def res : Option (List Int) := onP e.d (e.f + 1) e.mo e.O e.L
def pinsS : List (Nat × Int) := [(66, encL e.L), (67, (e.L.length : Int)), (68, e.mo.code), (69, if doneP e.d e.O then 1 else 0), (70, fstT (doneQ e.d e.O) e.d.m), (71, (e.O.length : Int)), (72, encL e.O)]
def g80 (u _ : Int) : Int := if freeP e.d e.L u then 1 else 0
def g81 (t _ : Int) : Int := encL (e.L.eraseIdx t.toNat)
def g82 (t _ : Int) : Int := if (e.rc t.toNat).isSome then 1 else 0
def g83 (t _ : Int) : Int := encL ((e.rc t.toNat).getD [])
def g84 (t _ : Int) : Int := (((e.rc t.toNat).getD []).length : Int)
def g85 (u _ : Int) : Int := if hasL e.O u then 1 else 0
def g86 (u _ : Int) : Int := fstT (freeQ e.d e.L u) e.L.length
def g87 (u _ : Int) : Int := fstT (fun j => decide (e.O.getD j 0 = u)) e.O.length
end Sd
def Gs (e : Sd) (vm : Value) : GP := fun I B S V F => Gd e.d I B S V F ∧ (∀ p ∈ e.pinsS, I p.1 = p.2) ∧ V 30 = vm ∧ F 80 = e.g80 ∧ F 81 = e.g81 ∧ F 82 = e.g82 ∧ F 83 = e.g83 ∧ F 84 = e.g84 ∧ F 85 = e.g85 ∧ F 86 = e.g86 ∧ F 87 = e.g87
theorem pinsS30 (e : Sd) : ∀ p ∈ e.pinsS, 30 ≤ p.1 := fun p hp => by
  have h : (e.pinsS.all fun p => Nat.ble 30 p.1) = true := rfl
  exact Nat.le_of_ble_eq_true (List.all_eq_true.1 h p hp)
section
variable {e : Sd} {vm : Value} {ρ : Env}
theorem gsD (h : (Gs e vm).at ρ) : (Gd e.d).at ρ := h.1
theorem pinS (h : (Gs e vm).at ρ) {i : Nat} {x : Int} (hp : (i, x) ∈ e.pinsS) : (IT.var i).den ρ = some x := varD (h.2.1 _ hp)
theorem pL (h : (Gs e vm).at ρ) : (IT.var 66).den ρ = some (encL e.L) := pinS h (by simp [Sd.pinsS])
theorem pLn (h : (Gs e vm).at ρ) : (IT.var 67).den ρ = some (e.L.length : Int) := pinS h (by simp [Sd.pinsS])
theorem gsKeep {σ : Sub} (hs : (σ.I.all fun p => Nat.blt p.1 30) = true) (hv : σ.V = []) (h : (Gs e vm).at ρ) : (Gs e vm).at (σ.app ρ) := by
  have key : ∀ i, 30 ≤ i → (σ.app ρ).I i = ρ.I i := fun i hi => by
    have : lk σ.I i = none := by
      cases hl : lk σ.I i with
      | none => rfl
      | some t =>
        have h1 := List.all_eq_true.1 hs _ (lk_mem hl)
        rw [Nat.blt_eq] at h1
        simp only at h1; omega
    simp only [Sub.app, this]
  refine ⟨gKeep hs h.1, fun p hp => ?_, ?_, h.2.2.2⟩
  · rw [key p.1 (pinsS30 e p hp)]; exact h.2.1 p hp
  · have hV : (σ.app ρ).V 30 = ρ.V 30 := by
      have e0 : lk σ.V 30 = none := by rw [hv]; rfl
      simp only [Sub.app, e0]
    show (σ.app ρ).V 30 = vm
    rw [hV]; exact h.2.2.1
end
/-- The one left at a place. -/
def lT (a : IT) : IT := .un 0 (.var 66) (.elem (.lit 0) 1 0 a)
theorem lT_den {e : Sd} {vm : Value} {ρ : Env} (h : (Gs e vm).at ρ) {a : IT} {i : Nat} (ha : a.den ρ = some (i : Int)) : (lT a).den ρ = some (e.L.getD i 0) := by
  refine (unD (pL h) (elemD (sz := 1) (j := 0) (litD ((0 : Nat) : Int)) ha)).trans ?_
  show some ((decL (encL e.L)).getD (((0 + (i * 1 + 0) : Nat) : Int)).toNat 0) = _
  rw [Int.toNat_natCast, show 0 + (i * 1 + 0) = i by omega, decL_encL]
end Ls
end Go.Proofs.Ytpgonpjakllnjaa
end

/-
  LinearSearch (1): a model's Clone.
-/
section
namespace Go.Proofs.Ytpgonpjakllnjaa
open Go.Vm Go.Vm.Md Lm Lt
namespace Ls

theorem xQ_ok : ExtOk Try.prog xQ := by
  intro g k h
  simp only [xQ, Exts.get] at h
  cases hb : Nat.beq 72 g with
  | false => rw [hb] at h; cases h
  | true =>
    rw [hb] at h; cases h
    obtain rfl := Nat.eq_of_beq_eq_true hb
    exact ⟨_, Try.func72, rfl, by kernel_rfl, by kernel_rfl⟩
def eMs (z : Bq) : List (Nat × ABlk) := (hM 1 z).map fun p => (p.1, p.2.k)
def eCl : List Tpl := [⟨[(0, .ptr 0 (.lit 0))], 1, hM 1 .row, 10, [], 0⟩, ⟨[(0, .ptr 0 (.lit 0))], 1, hM 1 .nil, 10, [], 0⟩, ⟨[(0, .ptr 0 (.lit 0))], 1, hM 1 .zero, 10, [], 0⟩]
noncomputable def RClo (z : Bq) (l : List LM) : Prop := (run Try.prog xQ (spL []) 4000 true 46 (entry Try.f46 (Try.f46.body.getD .ret) [me] (ofP (roH (eMs z))) 10 (csQ z))).map (·.filterMap (sumMD gM [] eCl [])) = some l
def kC : Bq → Sub
  | .nil => ⟨[(7, .var 7), (8, .var 8)], [], [], [], [(0, 12), (2, 10), (3, 11)]⟩
  | .zero => ⟨[(11, .lit 0), (7, .var 7), (8, .var 8)], [], [], [], [(0, 13), (1, 10), (2, 11), (3, 12)]⟩
  | .row => ⟨[(6, .var 6), (7, .var 7), (8, .var 8), (5, .var 5)], [], [], [], [(0, 15), (1, 12), (4, 11), (2, 13), (3, 14)]⟩
def qC : Bq → Nat
  | .row => 0
  | .nil => 1
  | .zero => 2
theorem clo_run (z : Bq) : RClo z [.done (qC z) [] (kC z)] := by unfold RClo; cases z <;> kernel_rfl
theorem eMs_get (z : Bq) : ∀ p ∈ eMs z, (ofP (hM 1 z)).get p.1 = some ⟨p.2, true⟩ := fun p hp => by
  cases z <;> simp only [eMs, hM, List.cons_append, List.nil_append, List.append_nil, List.map_cons, List.map_nil, List.mem_cons, List.not_mem_nil, or_false] at hp
  · rcases hp with rfl | rfl | rfl <;> rfl
  · rcases hp with rfl | rfl | rfl <;> rfl
  · rcases hp with rfl | rfl | rfl | rfl <;> rfl
theorem eMs_nb (z : Bq) : ((eMs z).all fun p => p.2.nb) = true := by cases z <;> rfl
theorem clone46 {w : World} {bb : Nat} {F : Nat → Prop} {m : Mod} (s : ModelIn w bb F m.Q m.M m.S) (hl : m.Q.length ≤ 1000) : Calls Try.prog 46 #[.pointer (some ⟨bb, 0, none⟩)] w fun e w' => ∃ b, e = .returned (.pointer (some ⟨b, 0, none⟩)) ∧ NewM w w' b m ∧ Framed w w' := by
  obtain ⟨z, ρ, hr0, sm, ho, hb⟩ := startM 0 0 0 0 s hl
  have hr : HRel ⟨w, [], GL⟩ ρ (ofP (Lt.roH (eMs z))) 10 w := HRel.ro (eMs z) (fun p hp => by
    obtain ⟨b, o, hb, ho, hr⟩ := hr0.blk _ _ (eMs_get z p hp)
    exact ⟨b, o, hb, ho, rel_ro hr⟩) (fun i hi => hr0.fresh i hi) hr0.g (eMs_nb z)
  have hT : eCl[qC z]? = some ⟨[(0, .ptr 0 (.lit 0))], 1, hM 1 z, 10, [], 0⟩ := by cases z <;> rfl
  have hx : AVal.denL ρ [me] = some [.pointer (some ⟨bb, 0, none⟩)] := denL1 (by simp only [me, AVal.den, hb]; rfl)
  refine (calls_sumsE (β := ⟨w, [], GL⟩) (R := fun x w' => ∃ b, x = .pointer (some ⟨b, 0, none⟩) ∧ NewM w w' b m ∧ Framed w w') (g := gM) (L := []) (Rs := eCl) (Ts := []) (pl := true) noCount xQ_ok (noSp0 _) follows Try.func46 rfl (clo_run z) hx hr (csQ_ok sm)
    (Go.Vm.one (doneR hT (fun l hl => by cases hl) fun ρ' hle hG => ⟨hG, c0, fun x w' r => ?_⟩))).mono fun e w' ⟨v, he, b, hv, h⟩ => ⟨b, by rw [he, hv], h⟩
  obtain ⟨y, hy, he⟩ := r.t 0 _ rfl
  obtain rfl : x = y := Option.some.inj he
  have sm' := sm.of_le hle
  obtain ⟨b, o, hb', _⟩ := r.h.blk 0 _ (show (ofP (hM 1 z)).get 0 = some (mdB (z.v 1)) by cases z <;> rfl)
  have h7 : decL (((kC z).app ρ').I 7) = m.M := by rw [sbI (t := .var 7) (by cases z <;> rfl) (varD sm'.i7), decL_encL]
  have h8 : decL (((kC z).app ρ').I 8) = m.S := by rw [sbI (t := .var 8) (by cases z <;> rfl) (varD sm'.i8), decL_encL]
  obtain ⟨F', hs, hm⟩ := mEnd (F := fun _ => False) z (.inl rfl) r.h (fun l hl => by cases hl) hb' h7 h8 (fun e => by
    subst e
    obtain ⟨h5, h6, h1⟩ := sm'.r rfl
    exact ⟨by rw [sbI (t := .var 5) rfl (varD h5), decL_encL], sbI (t := .var 6) rfl (varD h6), h1⟩) (fun e => sm'.n e)
  refine ⟨b, ?_, ⟨F', hm, fun y hy => (hs.sub y hy).elim False.elim id⟩, Framed.of r.h⟩
  have hp : (AVal.ptr 0 (.lit 0)).den ((kC z).app ρ') = some (.pointer (some ⟨b, 0, none⟩)) := by simp only [AVal.den, hb']; rfl
  exact Option.some.inj (hy.symm.trans hp)
def spClo : SpG := fun args H nl cs => match args with
  | [.ptr l (.lit (.ofNat 0))] => match H.get l with
    | some ⟨.big 0 c, _⟩ => some [.ret (.ptr nl (.lit 0)) (H.set nl ⟨.big 0 c, true⟩) (nl + 1) cs]
    | _ => none
  | _ => none
theorem spClo_ok {β : Base} : SpGOk Try.prog β 46 spClo := by
  intro args H nl cs ls ρ w xs hr hx hh hc
  unfold spClo at hr
  split at hr
  rotate_left
  · cases hr
  rename_i l
  split at hr
  rotate_left
  · cases hr
  rename_i c rw0 hl
  cases hr
  obtain ⟨b, x, F, hN, hcx, ⟨_, Q, M, S, rfl, s, ok⟩, _⟩ := hh.bigAt hl
  have hp : (AVal.ptr l (.lit (.ofNat 0))).den ρ = some (.pointer (some ⟨b, 0, none⟩)) := by simp only [AVal.den, hN]; rfl
  obtain rfl : [.pointer (some ⟨b, 0, none⟩)] = xs := Option.some.inj ((denL1 hp).symm.trans hx)
  refine (clone46 (m := ⟨Q, M, S⟩) s (by have := ok.1; show Q.length ≤ 1000; omega)).mono fun e w' ⟨b', he, ⟨F', s', hF'⟩, hf⟩ => ?_
  have hh' := hh.bigNew hf (k := 0) (b := b') (c := c) (F := F') ⟨rfl, Q, M, S, rfl, s', ok⟩ hF' hcx
  have hle := Env.le_put (b := b') (hh.fresh nl (Nat.le_refl _))
  exact ⟨_, he, _, _, _, _, ρ.put nl b', List.mem_cons_self, hle, by simp only [AVal.den, Env.put_same]; rfl, hh', hc.mono hle⟩
/-- An object that is there already, only read. -/
theorem _root_.Go.Vm.HRel.bigOld {w : World} {own : List Nat} {G : GP} {ρ : Env} {H : Heap} {nl : Nat} (h : HRel ⟨w, own, G⟩ ρ H nl w) (hnb : ∀ l k, H.get l = some k → k.k.nb = true) {k b : Nat} {c : IT} {x : Int} {F : Nat → Prop} (hf : fam k x w b F) (hx : c.den ρ = some x) (far : ∀ l k1 y, H.get l = some k1 → F y → ρ.N l ≠ some y) {H' : Heap} (key : ∀ l k1, H'.get l = some k1 → (l = nl ∧ k1 = ⟨.big k c, false⟩) ∨ (l ≠ nl ∧ H.get l = some k1)) :
    HRel ⟨w, own, G⟩ (ρ.put nl b) H' (nl + 1) w := by
  have hle : ρ.Le (ρ.put nl b) := Env.le_put (h.fresh nl (Nat.le_refl _))
  have hn := h.num b
  have hne : ∀ {l k1}, H.get l = some k1 → l ≠ nl := fun {l k1} g1 e => by
    obtain ⟨b1, _, hb1, _⟩ := h.blk l k1 g1
    rw [e, h.fresh nl (Nat.le_refl _)] at hb1; cases hb1
  have far2 : ∀ {l k1}, H.get l = some k1 → ∀ y, F y → (ρ.put nl b).N l ≠ some y := fun {l k1} g1 y hy => by
    rw [Env.put_other ρ b (hne g1)]; exact far _ _ _ g1 hy
  have hroot := fam_root hf
  refine ⟨fun l k' hl => ?_, fun l l' k1 k2 hl hl' hr he => ?_, fun l k' b' hl hr hb' => ?_, hn.fresh, hn.ownN, hn.size, hn.frame, hn.tape, hn.os, hn.out, hn.g, fun _ => F, ⟨fun l k1 c1 rw1 g1 => ?_, fun l l' k1 c1 rw1 h' g1 g2 hne' y hy => ?_⟩⟩
  · rcases key _ _ hl with ⟨rfl, rfl⟩ | ⟨_, hl⟩
    · have := fam_lt hf hroot
      exact ⟨b, w.heap[b], Env.put_same .., Array.getElem?_eq_getElem this, x, IT.den_mono hle hx⟩
    · exact hn.blk l k' hl
  · rcases key _ _ hl with ⟨_, e2⟩ | ⟨_, g1⟩
    · subst e2; cases hr
    · rcases key _ _ hl' with ⟨e3, _⟩ | ⟨_, g2⟩
      · rw [e3, Env.put_same] at he
        exact absurd he (far2 g1 b hroot)
      · exact hn.inj l l' k1 k2 g1 g2 hr he
  · rcases key _ _ hl with ⟨_, e2⟩ | ⟨_, hl⟩
    · subst e2; cases hr
    · exact hn.own l k' b' hl hr hb'
  · rcases key _ _ g1 with ⟨rfl, e⟩ | ⟨_, g1⟩
    · cases e
      exact ⟨b, x, Env.put_same .., IT.den_mono hle hx, hf, fun e => by cases e⟩
    · have := hnb _ _ g1; cases this
  · rcases key _ _ g1 with ⟨rfl, e⟩ | ⟨_, g1⟩
    · rcases key _ _ g2 with ⟨e3, _⟩ | ⟨_, g2⟩
      · exact absurd e3.symm hne'
      · exact ⟨far2 g2 y hy, fun hb => by have := hnb _ _ g2; rw [this] at hb; cases hb⟩
    · have := hnb _ _ g1; cases this
end Ls
end Go.Proofs.Ytpgonpjakllnjaa
end
end

/-
  LinearSearch (3): Index over an order; IndexFunc over what must be, and over what is left: heads.
-/
section
section
namespace Go.Proofs.Ytpgonpjakllnjaa
open Go.Vm Go.Vm.Md Lm Lt
namespace Ls

/-- The order's slice: none yet, or a row. -/
def ov : Bool → AVal
  | false => .sliceNil
  | true => .slice 5 (.lit 0) (.var 20) (.nv 10)
def lv : AVal := .slice 4 (.lit 0) (.var 67) (.nv 11)
def bO3 : ABlk := .arr (.code [.i64] (.var 21)) [.i64] 3 (.var 20) (.lit 0) (some (.nv 10))
def bL4 : ABlk := .arr (.code [.i64] (.var 66)) [.i64] 3 (.var 67) (.lit 0) none
/-- What a search's block holds, where there is what must be. -/
def bS (z : Bool) : ABlk := .cells [SL .row, SO .row, ov z, lv] 56 none
def eO (z : Bool) : List (Nat × ABlk) := match z with
  | false => []
  | true => [(5, bO3)]
def csN (t : IT) : Cs := [q9 .geq t (.lit 0) true, q9 .leq t (.lit 60) true, q9 .leq t (.lit 1000000) true]
def csO3 : Bool → Cs
  | false => []
  | true => csN (.var 20) ++ [q9 .eql (.var 20) (.var 71) true, q9 .eql (.var 21) (.var 72) true]
-- Index
def T71 : Tpl := ⟨[(0, ov true), (1, .int .i64 (.nv 600)), (6, ov true), (7, iV 20), (8, iV 9)], 19, roH (eO true), 610, cs9 (.var 20) ++ csN (.var 20), 3⟩
def o3T (a : IT) : IT := .un 0 (.var 21) (.elem (.lit 0) 1 0 a)
-- IndexFunc over what must be
def fn63 : AVal := .func (.func 63) [] [.ptr 500 (.lit 0)]
def bxS : Nat × ABlk := (500, .cells [.ptr 2 (.lit 0)] 54 none)
def e63 (z : Bool) : List (Nat × ABlk) := [(2, bS z), (0, bL), (1, bO)] ++ eO z
def T63 (z : Bool) : Tpl := ⟨[(0, SO .row), (1, fn63), (6, SO .row), (7, iV 38), (8, iV 9)], 19, roH ([bxS] ++ e63 z), 520, cs9 (.var 38) ++ csO .row ++ csO3 z, 3⟩
def ixT (u : IT) : IT := .fn 87 u (.lit 0)
def spIx71 (z : Bool) : SpG := fun args H nl cs => match args with
  | [v, .int .i64 u] => cond (AVal.beq v (ov z) && (hasE (eO z) H && (Nat.ble nl 600 && lookC (inL u ++ csO3 z) cs))) (some [.ret (.int .i64 (ixT u)) H nl cs]) none
  | _ => none
-- IndexFunc over what is left
def fn65 : AVal := .func (.func 65) [] [.ptr 501 (.lit 0), .ptr 500 (.lit 0)]
def bxI : Nat × ABlk := (501, .cells [.int .i64 (.nv 502)] 3 none)
def e65 (z : Bool) : List (Nat × ABlk) := [(2, bS z), (0, bL), (4, bL4)]
def T65 (z : Bool) : Tpl := ⟨[(0, lv), (1, fn65), (6, lv), (7, iV 67), (8, iV 9)], 19, roH ([bxS, bxI] ++ e65 z), 520, cs9 (.var 67) ++ csL .row ++ csN (.var 67), 3⟩
end Ls
end Go.Proofs.Ytpgonpjakllnjaa
end

/-
  LinearSearch (4): Index over an order, as the machine takes it.
-/
section
namespace Go.Proofs.Ytpgonpjakllnjaa
open Go.Vm Go.Vm.Md Lm Lt
namespace Ls

noncomputable def RCq (pl : PL) (nl : Nat) (sp : CallF) (f : FuncId) (fn : Func) (Ts : List Tpl) (args : List AVal) (H : Heap) (cs : Cs) (l : List LS) : Prop := (run Try.prog [] sp 4000 pl f (entry fn (fn.body.getD .ret) args H nl cs)).map (·.filterMap (sumD gM Ts)) = some l
theorem callq {β : Base} {sp : CallF} {f : FuncId} {fn : Func} {Ts : List Tpl} {pl : PL} (hsp : CallOk Try.prog β sp) (hown : β.own = []) {Q : Value → Prop} {nl : Nat} {args : List AVal} {xs : List Value} {H : Heap} {cs : Cs} {ρ : Env} {w : World} {sums : List LS} (hf : Try.prog.funcs[f]? = some fn) (hb : fn.body = some (fn.body.getD .ret))
    (hrun : RCq pl nl sp f fn Ts args H cs sums) (hx : AVal.denL ρ args = some xs) (hr : HRel β ρ H nl w) (hc : CRel ρ cs) (h : ∀ s ∈ sums, SumGood Try.prog β f Q Ts ρ s) :
    Calls Try.prog f xs.toArray w fun e w' => ∃ v, e = .returned v ∧ Q v ∧ Framed β.w0 w' :=
  calls_sumsD (g := gM) (Ts := Ts) (pl := pl) noCount noExt hsp follows hown hf hb hrun hx hr hc h
/-- Blocks that are there, and others, under more names. -/
theorem reLe {β : Base} {ρ ρ' : Env} {H : Heap} {nl : Nat} {w : World} (hh : HRel β ρ H nl w) (hle : ρ.Le ρ') {E X : List (Nat × ABlk)} {B : Nat} (hE : hasE E H = true) (hN : ∀ i, B ≤ i → ρ'.N i = none) (hG : β.G ρ'.I ρ'.B ρ'.S ρ'.V ρ'.F)
    (hX : ∀ p ∈ X, ∃ b o, ρ'.N p.1 = some b ∧ w.heap[b]? = some o ∧ p.2.rel ρ' false o) (hnb : ((X ++ E).all fun p => p.2.nb) = true) : HRel ⟨w, [], β.G⟩ ρ' (ofP (roH (X ++ E))) B w :=
  HRel.ro (X ++ E) (fun p hp => by
    rcases List.mem_append.1 hp with hp | hp
    · exact hX p hp
    · have h1 := List.all_eq_true.1 hE p hp
      split at h1
      · rename_i k hk
        obtain ⟨b, o, hb, ho, hr⟩ := hh.blk _ _ hk
        rw [ABlk.beq_eq h1] at hr
        exact ⟨b, o, hle.n _ _ hb, ho, ABlk.rel_mono hle (rel_ro hr)⟩
      · cases h1) hN hG hnb
theorem n60 (i : Nat) (h : i ≤ 60) {ρ : Env} {t : IT} (e : t.den ρ = some (i : Int)) : CRel ρ (csN t) :=
  qD e (litD 0) (by simp [intCmp]) (qD e (litD 60) (by simp [intCmp]; omega) (qD e (litD _) (by simp [intCmp]; omega) c0))
/-- What holds of the names of an order. -/
structure Ord (e : Sd) (z : Bool) (ρ : Env) : Prop where
  i20 : z = true → ρ.I 20 = (e.O.length : Int)
  i21 : z = true → ρ.I 21 = encL e.O
  no : z = false → e.O = []
  le : e.O.length ≤ 60
theorem Ord.of_le {e : Sd} {z : Bool} {ρ ρ' : Env} (h : Ord e z ρ) (g : ρ.Le ρ') : Ord e z ρ' := ⟨by rw [g.i]; exact h.i20, by rw [g.i]; exact h.i21, h.no, h.le⟩
theorem Ord.cs {e : Sd} {vm : Value} {z : Bool} {ρ : Env} (h : Ord e z ρ) (hg : (Gs e vm).at ρ) : CRel ρ (csO3 z) := by
  cases z with
  | false => exact c0
  | true =>
    have e71 : (IT.var 71).den ρ = some (e.O.length : Int) := pinS hg (by simp [Sd.pinsS])
    have e72 : (IT.var 72).den ρ = some (encL e.O) := pinS hg (by simp [Sd.pinsS])
    exact CRel_app.2 ⟨n60 _ h.le (varD (h.i20 rfl)), qD (varD (h.i20 rfl)) e71 (by simp [intCmp]) (qD (varD (h.i21 rfl)) e72 (by simp [intCmp]) c0)⟩
theorem o3_den {e : Sd} {ρ : Env} (h : Ord e true ρ) {a : IT} {i : Nat} (ha : a.den ρ = some (i : Int)) : (o3T a).den ρ = some (e.O.getD i 0) := by
  refine (unD (varD (h.i21 rfl)) (elemD (sz := 1) (j := 0) (litD ((0 : Nat) : Int)) ha)).trans ?_
  show some ((decL (encL e.O)).getD (((0 + (i * 1 + 0) : Nat) : Int)).toNat 0) = _
  rw [Int.toNat_natCast, show 0 + (i * 1 + 0) = i by omega, decL_encL]
-- INDEX
def hasQ (e : Sd) (k : Int) (j : Nat) : Bool := decide (e.O.getD j 0 = k)
def n600 : AVal := .int .i64 (.nv 600)
def sg71 (t : IT) : Sub := ⟨[(20, .var 20), (9, t), (21, .var 21)], [], [], [], [(5, 5), (10, 10), (600, 600)]⟩
theorem r71_in : RCq true 610 (spL []) 71 Try.f71 [T71] [ov true, n600] (ofP (roH (eO true))) (csN (.var 20)) [.next 0 (.code (.loop (lb Try.f71 0)) :: lq Try.f71 0) [] (sg71 (.lit 0))] := by unfold RCq; kernel_rfl
theorem r71_nil : RCq (PL.only []) 610 (spL []) 71 Try.f71 [] [ov false, n600] (ofP (roH (eO false))) [] [.ret (.int .i64 (.lit (-1))) []] := by unfold RCq; kernel_rfl
def f71 (b : Bool) : Cs := [q9 .lss at9 (.var 20) true, q9 .eql (.nv 600) (o3T at9) b]
theorem r71_go : RH (spL []) 71 Try.f71 0 [T71] T71 (f71 false) [.next 0 (.inLoop (lb Try.f71 0) :: lq Try.f71 0) [] (sg71 up9)] := by unfold RH; kernel_rfl
theorem r71_yes : RH (spL []) 71 Try.f71 0 [T71] T71 (f71 true) [.ret i9 []] := by unfold RH; kernel_rfl
theorem r71_end : RH (spL []) 71 Try.f71 0 [T71] T71 (lt9 (.var 20) false) [.ret (.int .i64 (.lit (-1))) []] := by unfold RH; kernel_rfl
structure J71 (e : Sd) (k : Int) (i : Nat) (ρ : Env) : Prop where
  o : Ord e true ρ
  i9 : ρ.I 9 = (i : Int)
  le : i ≤ e.O.length
  n : (IT.nv 600).den ρ = some k
  no : anyT (hasQ e k) i = false
theorem J71.of_le {e : Sd} {k : Int} {i : Nat} {ρ ρ' : Env} (h : J71 e k i ρ) (g : ρ.Le ρ') : J71 e k i ρ' := ⟨h.o.of_le g, by rw [g.i]; exact h.i9, h.le, IT.den_mono g h.n, h.no⟩
theorem J71.cs {e : Sd} {k : Int} {i : Nat} {ρ : Env} (h : J71 e k i ρ) : CRel ρ T71.cs :=
  CRel_app.2 ⟨cs9_ok h.i9 (varD (h.o.i20 rfl)) h.le, n60 _ h.o.le (varD (h.o.i20 rfl))⟩
theorem J71.next {e : Sd} {k : Int} {i : Nat} {ρ : Env} {t : IT} (o : Ord e true ρ) (hn : (IT.nv 600).den ρ = some k) (d : t.den ρ = some (i : Int)) (le : i ≤ e.O.length) (no : anyT (hasQ e k) i = false) : J71 e k i ((sg71 t).app ρ) :=
  ⟨⟨fun _ => sbI (t := .var 20) rfl (varD (o.i20 rfl)), fun _ => sbI (t := .var 21) rfl (varD (o.i21 rfl)), (fun h => by cases h), o.le⟩, sbI rfl d, le, hn, no⟩
theorem idx71 {e : Sd} {vm : Value} {z : Bool} {ρ : Env} {w : World} {xs : List Value} {k : Int} (hr : HRel ⟨w, [], Gs e vm⟩ ρ (ofP (roH (eO z))) 610 w) (o : Ord e z ρ) (hn : (IT.nv 600).den ρ = some k) (hx : AVal.denL ρ [ov z, n600] = some xs) :
    Calls Try.prog 71 xs.toArray w fun r w' => r = .returned (.int .i64 (fstT (hasQ e k) e.O.length)) ∧ Framed w w' := by
  cases z with
  | false =>
    have h0 := o.no rfl
    exact toE (callq (noSp0 _) rfl Try.func71 rfl r71_nil hx hr c0 (one (retS (z := .int .i64 (-1)) (fun _ _ => rfl) (by rw [h0]; rfl))))
  | true =>
    have loop := scan (β := ⟨w, [], Gs e vm⟩) (sp := spL []) (f := 71) (fn := Try.f71) (j := 0) (T := T71) (Ts := [T71]) (noSp0 _) rfl (Q := fun v => v = .int .i64 (fstT (hasQ e k) e.O.length)) (fun ρ => ∃ i, J71 e k i ρ) (fun ρ => ((e.O.length : Int) - ρ.I 9).toNat) fun ρ ⟨i, j⟩ hG hcs _ ih => by
      have hi := j.le
      by_cases hlt : i < e.O.length
      · have e9 : at9.den ρ = some (i : Int) := varD j.i9
        have f : ∀ b, decide (k = e.O.getD i 0) = b → CRel ρ (f71 b) := fun b hb => qD e9 (varD (j.o.i20 rfl)) (by simp [intCmp]; omega) (qD j.n (o3_den j.o e9) (by rw [← hb]; rfl) c0)
        cases hb : decide (k = e.O.getD i 0) with
        | true =>
          refine ⟨_, _, f true hb, r71_yes, one (retS (z := .int .i64 (i : Int)) (fun ρ' hle => ?_) (by rw [fstT_at hlt j.no (by simp only [decide_eq_true_eq] at hb; simp [hasQ, hb])]))⟩
          have := (j.of_le hle).i9
          simp only [i9, iV, AVal.den, IT.den, this, Option.map_some]
        | false =>
          refine ⟨_, _, f false hb, r71_go, one (nextS rfl fun ρ' hle hG' => ?_)⟩
          have j' := j.of_le hle
          have jn := J71.next (t := up9) j'.o j'.n (upD (varD j'.i9) (by have := j.o.le; omega)) hlt (anyT_step j'.no (by simp only [decide_eq_false_iff_not] at hb; simp only [hasQ, decide_eq_false_iff_not]; exact fun h => hb h.symm))
          exact ⟨gsKeep rfl rfl hG', jn.cs, fun a w' r => ih _ (by rw [jn.i9, j.i9]; omega) ⟨_, jn⟩ _ a w' (.inl rfl) r⟩
      · obtain rfl : i = e.O.length := by omega
        exact ⟨_, _, lt9_ok j.i9 (varD (j.o.i20 rfl)) (decide_eq_false hlt), r71_end, one (retS (z := .int .i64 (-1)) (fun _ _ => rfl) (by rw [fstT_no j.no]))⟩
    refine toE (callq (noSp0 _) rfl Try.func71 rfl r71_in hx hr (n60 _ o.le (varD (o.i20 rfl))) (one (nextS rfl fun ρ' hle hG' => ?_)))
    have jn := J71.next (i := 0) (t := .lit 0) (o.of_le hle) (IT.den_mono hle hn) rfl (Nat.zero_le _) rfl
    exact ⟨gsKeep rfl rfl hG', jn.cs, fun a w' r => loop _ ⟨0, jn⟩ _ a w' (.inr rfl) r⟩
theorem inL_of {d : Dt} {ρ : Env} (hG : (Gd d).at ρ) {u : IT} {C cs : Cs} (h : lookC (inL u ++ C) cs = true) (hc : CRel ρ cs) : ∃ k, u.den ρ = some k ∧ d.inR k = true := by
  obtain ⟨c2', _⟩ := CRel_app.1 (lookC_ok h hc)
  cases hu : u.den ρ with
  | none =>
    have := c2' _ List.mem_cons_self
    simp only [q9, BT.den, hu] at this
    cases this
  | some k =>
    have a1 := c2' _ List.mem_cons_self
    have a2 := c2' _ (List.mem_cons_of_mem _ List.mem_cons_self)
    simp only [q9] at a1 a2
    rw [cmpD hu (litD 0)] at a1
    rw [cmpD hu (pN hG)] at a2
    simp only [intCmp, Option.some.injEq, decide_eq_true_eq] at a1 a2
    exact ⟨k, rfl, by simp only [Dt.inR, Bool.and_eq_true, decide_eq_true_eq]; exact ⟨a1, a2⟩⟩
theorem ord_of {e : Sd} {vm : Value} {z : Bool} {ρ : Env} (hg : (Gs e vm).at ρ) {cs : Cs} (h : lookC (csO3 z) cs = true) (hc : CRel ρ cs) (no : z = false → e.O = []) (le : e.O.length ≤ 60) : Ord e z ρ := by
  cases z with
  | false => exact ⟨(fun h => by cases h), (fun h => by cases h), no, le⟩
  | true =>
    have e71 : (IT.var 71).den ρ = some (e.O.length : Int) := pinS hg (by simp [Sd.pinsS])
    have e72 : (IT.var 72).den ρ = some (encL e.O) := pinS hg (by simp [Sd.pinsS])
    obtain ⟨_, c2'⟩ := CRel_app.1 (lookC_ok h hc)
    have a1 := c2' _ List.mem_cons_self
    have a2 := c2' _ (List.mem_cons_of_mem _ List.mem_cons_self)
    simp only [q9] at a1 a2
    rw [cmpD (varD rfl) e71] at a1
    rw [cmpD (varD rfl) e72] at a2
    simp only [intCmp, Option.some.injEq, beq_iff_eq] at a1 a2
    exact ⟨fun _ => a1, fun _ => a2, no, le⟩
theorem lookC_app {A B cs : Cs} (h : lookC (A ++ B) cs = true) : lookC B cs = true := by
  unfold lookC at h ⊢
  rw [List.all_append, Bool.and_eq_true] at h
  exact h.2
theorem spIx71_ok {e : Sd} {vm : Value} {β : Base} (hβ : β.G = Gs e vm) {z : Bool} (no : z = false → e.O = []) (le : e.O.length ≤ 60) : SpGOk Try.prog β 71 (spIx71 z) := by
  intro args H nl cs ls ρ w xs hr hx hh hc
  have hg : (Gs e vm).at ρ := by have := hh.g; rw [hβ] at this; exact this
  unfold spIx71 at hr
  split at hr
  rotate_left
  · cases hr
  rename_i v u
  cases hb : (AVal.beq v (ov z) && (hasE (eO z) H && (Nat.ble nl 600 && lookC (inL u ++ csO3 z) cs))) with
  | false => rw [hb] at hr; cases hr
  | true =>
    rw [hb] at hr; simp only [cond_true, Option.some.injEq] at hr
    subst hr
    simp only [Bool.and_eq_true] at hb
    obtain ⟨h1, h2, h3, h4⟩ := hb
    obtain rfl := AVal.beq_eq _ _ h1
    obtain ⟨k, hu, hk⟩ := inL_of (gsD hg) h4 hc
    have o := ord_of hg (lookC_app h4) hc no le
    have hk0 : 0 ≤ k := by simp only [Dt.inR, Bool.and_eq_true, decide_eq_true_eq] at hk; exact hk.1
    have hle : ρ.Le (ρ.put 600 k.toNat) := Env.le_put (hh.fresh 600 (Nat.le_of_ble_eq_true h3))
    have hr2 := reLe (X := []) (B := 610) hh hle h2 (fun i hi => by rw [Env.put_other ρ _ (by omega)]; exact hh.fresh i (by have := Nat.le_of_ble_eq_true h3; omega)) hh.g (fun p hp => by cases hp) (by cases z <;> rfl)
    rw [hβ] at hr2
    have hn : (IT.nv 600).den (ρ.put 600 k.toNat) = some k := by
      have : (IT.nv 600).den (ρ.put 600 k.toNat) = some ((k.toNat : Nat) : Int) := nvD (Env.put_same ..)
      rw [this, Int.toNat_of_nonneg hk0]
    have hx2 : AVal.denL (ρ.put 600 k.toNat) [ov z, n600] = some xs := by
      have h0 := AVal.denL_mono hle _ hx
      have e1 : (AVal.int .i64 u).den (ρ.put 600 k.toNat) = some (.int .i64 k) := by simp only [AVal.den, IT.den_mono hle hu, Option.map_some]
      have e2 : n600.den (ρ.put 600 k.toNat) = some (.int .i64 k) := by simp only [n600, AVal.den, hn, Option.map_some]
      simp only [AVal.denL, e1] at h0
      simp only [AVal.denL, e2]
      exact h0
    refine spV_ok (idx71 (z := z) hr2 (o.of_le hle) hn hx2) ?_ hh hc
    have e87 : (ixT u).den ρ = some (fstT (hasQ e k) e.O.length) := by
      unfold ixT
      rw [fnD hu (litD 0), hg.2.2.2.2.2.2.2.2.2.2]; rfl
    simp only [AVal.den, e87, Option.map_some]
end Ls
end Go.Proofs.Ytpgonpjakllnjaa
end

/-
  LinearSearch (5): IndexFunc over what must be, and over what is left.
-/
section
namespace Go.Proofs.Ytpgonpjakllnjaa
open Go.Vm Go.Vm.Md Lm Lt
namespace Ls

/-- What is known of a search: what must be stands in the history, as does what is left. -/
structure SOk (e : Sd) : Prop where
  d : DOk e.d
  hl : e.d.kl = .row
  hk : e.d.ko = .row
  o : e.O.length ≤ 60
  l : e.L.length ≤ 60
  inM : ∀ i, i < e.d.m → e.d.inR (e.d.o i) = true
  inL : ∀ i, i < e.L.length → e.d.inR (e.L.getD i 0) = true
-- IndexFunc over what must be
def iN (z : Bool) : List (Nat × IT) := match z with
  | true => [(20, .var 20), (21, .var 21)]
  | false => []
def nN (z : Bool) : List (Nat × Nat) := match z with
  | true => [(5, 5), (10, 10)]
  | false => []
def sg63 (z : Bool) (t : IT) : Sub := ⟨[(9, t)] ++ iN z, [], [], [], [(1, 1), (500, 500), (2, 2), (0, 0)] ++ nN z ++ [(4, 4), (11, 11)]⟩
def sp71 (z : Bool) : CallF := spL [(71, spIx71 z)]
def cs63 (z : Bool) : Cs := csO .row ++ csO3 z
theorem r63_in (z : Bool) : RCq true 510 (sp71 z) 67 Try.f67 [T63 z] [SO .row, fn63] (ofP (roH ([bxS] ++ e63 z))) (cs63 z) [.next 0 (.code (.loop (lb Try.f67 0)) :: lq Try.f67 0) [] (sg63 z (.lit 0))] := by unfold RCq; cases z <;> kernel_rfl
def go63 (b : Bool) : Cs := lt9 (.var 38) true ++ (Lt.inL (oT at9) ++ [q9 .geq (ixT (oT at9)) (.lit 0) b])
theorem r63_go (z : Bool) : RH (sp71 z) 67 Try.f67 0 [T63 z] (T63 z) (go63 true) [.next 0 (.inLoop (lb Try.f67 0) :: lq Try.f67 0) [] (sg63 z up9)] := by unfold RH; cases z <;> kernel_rfl
theorem r63_yes (z : Bool) : RH (sp71 z) 67 Try.f67 0 [T63 z] (T63 z) (go63 false) [.ret i9 []] := by unfold RH; cases z <;> kernel_rfl
theorem r63_end (z : Bool) : RH (sp71 z) 67 Try.f67 0 [T63 z] (T63 z) (lt9 (.var 38) false) [.ret (.int .i64 (.lit (-1))) []] := by unfold RH; cases z <;> kernel_rfl
structure J63 (e : Sd) (z : Bool) (p : Nat → Bool) (n : Nat) (i : Nat) (ρ : Env) : Prop where
  o : Ord e z ρ
  i9 : ρ.I 9 = (i : Int)
  le : i ≤ n
  no : anyT p i = false
theorem J63.of_le {e : Sd} {z : Bool} {p : Nat → Bool} {n i : Nat} {ρ ρ' : Env} (h : J63 e z p n i ρ) (g : ρ.Le ρ') : J63 e z p n i ρ' := ⟨h.o.of_le g, by rw [g.i]; exact h.i9, h.le, h.no⟩
theorem Ord.app {e : Sd} {z : Bool} {ρ : Env} (o : Ord e z ρ) {σ : Sub} (h20 : z = true → lk σ.I 20 = some (.var 20)) (h21 : z = true → lk σ.I 21 = some (.var 21)) : Ord e z (σ.app ρ) :=
  ⟨fun hz => sbI (t := .var 20) (h20 hz) (varD (o.i20 hz)), fun hz => sbI (t := .var 21) (h21 hz) (varD (o.i21 hz)), o.no, o.le⟩
theorem ix_den {e : Sd} {vm : Value} {ρ : Env} (hg : (Gs e vm).at ρ) {u : IT} {k : Int} (hu : u.den ρ = some k) : (ixT u).den ρ = some (fstT (hasQ e k) e.O.length) := by
  unfold ixT
  rw [fnD hu (litD 0), hg.2.2.2.2.2.2.2.2.2.2]; rfl
theorem hasL_ix (e : Sd) (k : Int) : decide (0 ≤ fstT (hasQ e k) e.O.length) = hasL e.O k := fstT_ge _
theorem idx63 {e : Sd} (ok : SOk e) {vm : Value} {z : Bool} {ρ : Env} {w : World} {xs : List Value} (hr : HRel ⟨w, [], Gs e vm⟩ ρ (ofP (roH ([bxS] ++ e63 z))) 510 w) (o : Ord e z ρ) (hx : AVal.denL ρ [SO .row, fn63] = some xs) :
    Calls Try.prog 67 xs.toArray w fun r w' => r = .returned (.int .i64 (fstT (doneQ e.d e.O) e.d.m)) ∧ Framed w w' := by
  have hm := ok.d.m60
  have hsp : CallOk Try.prog ⟨w, [], Gs e vm⟩ (sp71 z) := spL_ok fun p hp => by
    rw [List.mem_singleton.1 hp]; exact spIx71_ok rfl o.no o.le
  have csO' : ∀ {ρ}, (Gs e vm).at ρ → CRel ρ (csO .row) := fun hg => by have := dcO ok.d (gsD hg); rw [ok.hk] at this; exact this
  have cs : ∀ {i ρ}, J63 e z (doneQ e.d e.O) e.d.m i ρ → (Gs e vm).at ρ → CRel ρ (T63 z).cs := fun j hG => CRel_app.2 ⟨CRel_app.2 ⟨cs9_ok j.i9 (pM (gsD hG)) j.le, csO' hG⟩, j.o.cs hG⟩
  have loop := scan (β := ⟨w, [], Gs e vm⟩) (sp := sp71 z) (f := 67) (fn := Try.f67) (j := 0) (T := T63 z) (Ts := [T63 z]) hsp rfl (Q := fun v => v = .int .i64 (fstT (doneQ e.d e.O) e.d.m)) (fun ρ => ∃ i, J63 e z (doneQ e.d e.O) e.d.m i ρ) (fun ρ => ((e.d.m : Int) - ρ.I 9).toNat) fun ρ ⟨i, j⟩ hG hcs _ ih => by
    have hi := j.le
    by_cases hlt : i < e.d.m
    · have e9 : at9.den ρ = some (i : Int) := varD j.i9
      have eo := oT_den (gsD hG) e9
      have f : ∀ b, hasL e.O (e.d.o i) = b → CRel ρ (go63 b) := fun b hb => CRel_app.2 ⟨lt9_ok j.i9 (pM (gsD hG)) (decide_eq_true hlt), CRel_app.2 ⟨inL_ok (gsD hG) eo (ok.inM i hlt), qD (ix_den hG eo) (litD 0) (by rw [← hb, ← hasL_ix]; rfl) c0⟩⟩
      cases hb : hasL e.O (e.d.o i) with
      | false =>
        refine ⟨_, _, f false hb, r63_yes z, one (retS (z := .int .i64 (i : Int)) (fun ρ' hle => ?_) (by rw [fstT_at hlt j.no (by simp [doneQ, hb])]))⟩
        have := (j.of_le hle).i9
        simp only [i9, iV, AVal.den, IT.den, this, Option.map_some]
      | true =>
        refine ⟨_, _, f true hb, r63_go z, one (nextS rfl fun ρ' hle hG' => ?_)⟩
        have j' := j.of_le hle
        have jn : J63 e z (doneQ e.d e.O) e.d.m (i + 1) ((sg63 z up9).app ρ') := ⟨j'.o.app (fun h => by subst h; rfl) (fun h => by subst h; rfl), sbI (t := up9) rfl (upD (varD j'.i9) (by omega)), hlt, anyT_step j'.no (by simp [doneQ, hb])⟩
        have hGn : (Gs e vm).at ((sg63 z up9).app ρ') := gsKeep (by cases z <;> rfl) rfl hG'
        exact ⟨hGn, cs jn hGn, fun a w' r => ih _ (by rw [jn.i9, j.i9]; omega) ⟨_, jn⟩ _ a w' (.inl rfl) r⟩
    · obtain rfl : i = e.d.m := by omega
      exact ⟨_, _, lt9_ok j.i9 (pM (gsD hG)) (decide_eq_false hlt), r63_end z, one (retS (z := .int .i64 (-1)) (fun _ _ => rfl) (by rw [fstT_no j.no]))⟩
  refine toE (callq hsp rfl Try.func67 rfl (r63_in z) hx hr (CRel_app.2 ⟨csO' hr.g, o.cs hr.g⟩) (one (nextS rfl fun ρ' hle hG' => ?_)))
  have jn : J63 e z (doneQ e.d e.O) e.d.m 0 ((sg63 z (.lit 0)).app ρ') := ⟨(o.of_le hle).app (fun h => by subst h; rfl) (fun h => by subst h; rfl), sbI (t := .lit 0) rfl rfl, Nat.zero_le _, rfl⟩
  have hGn : (Gs e vm).at ((sg63 z (.lit 0)).app ρ') := gsKeep (by cases z <;> rfl) rfl hG'
  exact ⟨hGn, cs jn hGn, fun a w' r => loop _ ⟨0, jn⟩ _ a w' (.inr rfl) r⟩
-- IndexFunc over what is left
def n502 : IT := .nv 502
def i20 (z : Bool) : List (Nat × IT) := match z with
  | true => [(20, .var 20)]
  | false => []
def sg65 (z : Bool) (t : IT) : Sub := ⟨[(9, t)] ++ i20 z, [], [], [], [(4, 4), (11, 11), (501, 501), (500, 500), (2, 2), (502, 502), (0, 0), (1, 1)] ++ nN z⟩
def cs65 : Cs := csL .row ++ csN (.var 67)
theorem r65_in (z : Bool) : RCq true 510 (spL []) 67 Try.f67 [T65 z] [lv, fn65] (ofP (roH ([bxS, bxI] ++ e65 z))) cs65 [.next 0 (.code (.loop (lb Try.f67 0)) :: lq Try.f67 0) [] (sg65 z (.lit 0))] := by unfold RCq; cases z <;> kernel_rfl
def go65 (b : Bool) : Cs := lt9 (.var 67) true ++ (Lt.inL (lT at9) ++ (Lt.inL n502 ++ [q9 .neq (lT at9) n502 b]))
theorem r65_same (z : Bool) : RH (spL []) 67 Try.f67 0 [T65 z] (T65 z) (go65 false) [.next 0 (.inLoop (lb Try.f67 0) :: lq Try.f67 0) [] (sg65 z up9)] := by unfold RH; cases z <;> kernel_rfl
theorem r65_A (z : Bool) : RH (spL []) 67 Try.f67 0 [T65 z] (T65 z) (go65 true ++ gA (lT at9) n502) [.ret i9 []] := by unfold RH; cases z <;> kernel_rfl
theorem r65_B (z : Bool) : RH (spL []) 67 Try.f67 0 [T65 z] (T65 z) (go65 true ++ gB (lT at9) n502) [.next 0 (.inLoop (lb Try.f67 0) :: lq Try.f67 0) [] (sg65 z up9)] := by unfold RH; cases z <;> kernel_rfl
theorem r65_D (z : Bool) : RH (spL []) 67 Try.f67 0 [T65 z] (T65 z) (go65 true ++ fD (lT at9)) [.next 0 (.inLoop (lb Try.f67 0) :: lq Try.f67 0) [] (sg65 z up9)] := by unfold RH; cases z <;> kernel_rfl
theorem r65_end (z : Bool) : RH (spL []) 67 Try.f67 0 [T65 z] (T65 z) (lt9 (.var 67) false) [.ret (.int .i64 (.lit (-1))) []] := by unfold RH; cases z <;> kernel_rfl
structure J65 (e : Sd) (k : Int) (i : Nat) (ρ : Env) : Prop where
  n : n502.den ρ = some k
  i9 : ρ.I 9 = (i : Int)
  le : i ≤ e.L.length
  no : anyT (freeQ e.d e.L k) i = false
theorem J65.of_le {e : Sd} {k : Int} {i : Nat} {ρ ρ' : Env} (h : J65 e k i ρ) (g : ρ.Le ρ') : J65 e k i ρ' := ⟨IT.den_mono g h.n, by rw [g.i]; exact h.i9, h.le, h.no⟩
theorem idx65 {e : Sd} (ok : SOk e) {vm : Value} {z : Bool} {ρ : Env} {w : World} {xs : List Value} {k : Int} (hkk : e.d.inR k = true) (hn : n502.den ρ = some k) (hr : HRel ⟨w, [], Gs e vm⟩ ρ (ofP (roH ([bxS, bxI] ++ e65 z))) 510 w) (hx : AVal.denL ρ [lv, fn65] = some xs) :
    Calls Try.prog 67 xs.toArray w fun r w' => r = .returned (.int .i64 (fstT (freeQ e.d e.L k) e.L.length)) ∧ Framed w w' := by
  have hll := ok.l
  have csL' : ∀ {ρ}, (Gs e vm).at ρ → CRel ρ (csL .row) := fun hg => by have := dcL ok.d (gsD hg); rw [ok.hl] at this; exact this
  have cs : ∀ {i ρ}, J65 e k i ρ → (Gs e vm).at ρ → CRel ρ (T65 z).cs := fun j hG => CRel_app.2 ⟨CRel_app.2 ⟨cs9_ok j.i9 (pLn hG) j.le, csL' hG⟩, n60 _ ok.l (pLn hG)⟩
  have loop := scan (β := ⟨w, [], Gs e vm⟩) (sp := spL []) (f := 67) (fn := Try.f67) (j := 0) (T := T65 z) (Ts := [T65 z]) (noSp0 _) rfl (Q := fun v => v = .int .i64 (fstT (freeQ e.d e.L k) e.L.length)) (fun ρ => ∃ i, J65 e k i ρ) (fun ρ => ((e.L.length : Int) - ρ.I 9).toNat) fun ρ ⟨i, j⟩ hG hcs _ ih => by
    have hi := j.le
    by_cases hlt : i < e.L.length
    · have e9 : at9.den ρ = some (i : Int) := varD j.i9
      have el := lT_den hG e9
      have go : ∀ b, (!decide (e.L.getD i 0 = k)) = b → CRel ρ (go65 b) := fun b hb => CRel_app.2 ⟨lt9_ok j.i9 (pLn hG) (decide_eq_true hlt), CRel_app.2 ⟨inL_ok (gsD hG) el (ok.inL i hlt), CRel_app.2 ⟨inL_ok (gsD hG) j.n hkk, qD el j.n (by rw [← hb]; rfl) c0⟩⟩⟩
      have nxt : freeQ e.d e.L k i = false → ∀ s ∈ [LS.next 0 (.inLoop (lb Try.f67 0) :: lq Try.f67 0) [] (sg65 z up9)], SumGood Try.prog ⟨w, [], Gs e vm⟩ 67 (fun v => v = .int .i64 (fstT (freeQ e.d e.L k) e.L.length)) [T65 z] ρ s := fun hf => one (nextS rfl fun ρ' hle hG' => by
        have j' := j.of_le hle
        have jn : J65 e k (i + 1) ((sg65 z up9).app ρ') := ⟨by cases z <;> exact j'.n, sbI (t := up9) rfl (upD (varD j'.i9) (by omega)), hlt, anyT_step j'.no hf⟩
        have hGn : (Gs e vm).at ((sg65 z up9).app ρ') := gsKeep (by cases z <;> rfl) rfl hG'
        exact ⟨hGn, cs jn hGn, fun a w' r => ih _ (by rw [jn.i9, j.i9]; omega) ⟨_, jn⟩ _ a w' (.inl rfl) r⟩)
      by_cases heq : e.L.getD i 0 = k
      · exact ⟨_, _, go false (by rw [decide_eq_true heq]; rfl), r65_same z, nxt (by unfold freeQ; rw [decide_eq_true heq]; rfl)⟩
      · have g := go true (by rw [decide_eq_false heq]; rfl)
        rcases ahead_ways (gsD hG) el j.n with ⟨ha, f⟩ | ⟨ha, f | f⟩
        · refine ⟨_, _, CRel_app.2 ⟨g, f⟩, r65_A z, one (retS (z := .int .i64 (i : Int)) (fun ρ' hle => ?_) (by rw [fstT_at hlt j.no (by unfold freeQ; rw [decide_eq_false heq, ha]; rfl)]))⟩
          have := (j.of_le hle).i9
          simp only [i9, iV, AVal.den, IT.den, this, Option.map_some]
        · exact ⟨_, _, CRel_app.2 ⟨g, f⟩, r65_B z, nxt (by unfold freeQ; rw [ha, Bool.and_false])⟩
        · exact ⟨_, _, CRel_app.2 ⟨g, f⟩, r65_D z, nxt (by unfold freeQ; rw [ha, Bool.and_false])⟩
    · obtain rfl : i = e.L.length := by omega
      exact ⟨_, _, lt9_ok j.i9 (pLn hG) (decide_eq_false hlt), r65_end z, one (retS (z := .int .i64 (-1)) (fun _ _ => rfl) (by rw [fstT_no j.no]))⟩
  refine toE (callq (noSp0 _) rfl Try.func67 rfl (r65_in z) hx hr (CRel_app.2 ⟨csL' hr.g, n60 _ ok.l (pLn hr.g)⟩) (one (nextS rfl fun ρ' hle hG' => ?_)))
  have jn : J65 e k 0 ((sg65 z (.lit 0)).app ρ') := ⟨by cases z <;> exact IT.den_mono hle hn, sbI (t := .lit 0) rfl rfl, Nat.zero_le _, rfl⟩
  have hGn : (Gs e vm).at ((sg65 z (.lit 0)).app ρ') := gsKeep (by cases z <;> rfl) rfl hG'
  exact ⟨hGn, cs jn hGn, fun a w' r => loop _ ⟨0, jn⟩ _ a w' (.inr rfl) r⟩
end Ls
end Go.Proofs.Ytpgonpjakllnjaa
end
end
