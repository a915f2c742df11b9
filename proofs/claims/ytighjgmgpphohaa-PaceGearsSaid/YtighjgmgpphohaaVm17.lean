/-
  A machine for abstract states over the model (part 17): what is known of functions; what follows from conditions.
-/
import Derived.Test.YtighjgmgpphohaaVm16
namespace Go.Vm

-- MEMORY OF OTHERS
structure Framed (w w' : World) : Prop where
  size : w.heap.size ≤ w'.heap.size
  frame : ∀ b, b < w.heap.size → w'.heap[b]? = w.heap[b]?
  tape : w'.tape = w.tape
  os : w'.os = w.os
  out : w'.output = w.output
theorem Framed.refl (w : World) : Framed w w := ⟨Nat.le_refl _, fun _ _ => rfl, rfl, rfl, rfl⟩
theorem Framed.of {ρ : Env} {w w' : World} {H : Heap} {nl : Nat} {G : (Nat → Int) → (Nat → Bool) → (Nat → ByteArray) → (Nat → Value) → (Nat → Int → Int → Int) → Prop} (h : HRel ⟨w, [], G⟩ ρ H nl w') : Framed w w' :=
  ⟨h.size, fun b hb => h.frame b hb (fun l hl => by cases hl), h.tape, h.os, h.out⟩
theorem HRel.framed {β : Base} {ρ : Env} {H : Heap} {nl : Nat} {w w' : World} (h : HRel β ρ H nl w) (f : Framed w w') : HRel β ρ H nl w' := by
  refine ⟨fun l k hl => ?_, h.inj, h.own, h.fresh, h.ownN, Nat.le_trans h.size f.size, fun b hb hn => ?_, f.tape.trans h.tape, f.os.trans h.os, f.out.trans h.out, h.g⟩
  · obtain ⟨b, o, h1, h2, h3⟩ := h.blk l k hl
    have hlt : b < w.heap.size := (Array.getElem?_eq_some_iff.1 h2).1
    exact ⟨b, o, h1, by rw [f.frame b hlt]; exact h2, h3⟩
  · rw [f.frame b (Nat.lt_of_lt_of_le hb h.size)]; exact h.frame b hb hn

-- WHAT IS KNOWN OF FUNCTIONS
abbrev SpecF := List AVal → Option (List (AVal × Cs))
def SpecOk (P : Program) (f : FuncId) (F : SpecF) : Prop := ∀ args alts ρ w xs, F args = some alts → AVal.denL ρ args = some xs →
  Calls P f xs.toArray w (fun e w' => ∃ v, e = .returned v ∧ Framed w w' ∧ ∃ u ∈ alts, u.1.den ρ = some v ∧ CRel ρ u.2)
abbrev Specs := List (FuncId × SpecF)
def spOf (L : Specs) : CallF := fun g args H nl cs => match L.find? (fun p => Nat.beq p.1 g) with
  | some p => (p.2 args).map fun alts => alts.map fun u => Leaf.ret u.1 H nl (u.2 ++ cs)
  | none => none
theorem spOf_ok {P : Program} {β : Base} {L : Specs} (h : ∀ p ∈ L, SpecOk P p.1 p.2) : CallOk P β (spOf L) := by
  intro g args H nl cs ls ρ w xs hr hx hh hc _
  unfold spOf at hr
  split at hr
  · rename_i p hp
    have hg0 : (fun p : FuncId × SpecF => Nat.beq p.1 g) p = true := List.find?_some (p := fun p : FuncId × SpecF => Nat.beq p.1 g) hp
    have hg : p.1 = g := Nat.eq_of_beq_eq_true hg0
    obtain ⟨alts, ha, rfl⟩ := Option.map_eq_some_iff.1 hr
    have hs := h p (List.mem_of_find?_eq_some hp) args alts ρ w xs ha hx
    rw [hg] at hs
    refine hs.mono fun e w' ⟨v, hv, hf, u, hu, hd, hcu⟩ => ⟨v, hv, u.1, H, nl, u.2 ++ cs, ρ, List.mem_map.2 ⟨u, hu, rfl⟩, Env.Le.refl ρ, hd, hh.framed hf, fun q hq => ?_⟩
    rcases List.mem_append.1 hq with hq | hq
    · exact hcu q hq
    · exact hc q hq
  · cases hr

-- WHAT FOLLOWS
abbrev Bnd := Option Int × Option Int
def loB (a : Option Int) (n : Int) : Option Int := match a with
  | none => some n
  | some m => some (cond (iLt m n) n m)
def hiB (a : Option Int) (n : Int) : Option Int := match a with
  | none => some n
  | some m => some (cond (iLt n m) n m)
def isI (a : Option Int) (n : Int) : Bool := match a with
  | none => false
  | some m => iEq m n
def bndF (op : BinOp) (c : Int) (b : Bool) (r : Bnd) : Bnd :=
  match op, b with
  | .lss, true | .geq, false => (r.1, hiB r.2 (c - 1))
  | .lss, false | .geq, true => (loB r.1 c, r.2)
  | .leq, true | .gtr, false => (r.1, hiB r.2 c)
  | .leq, false | .gtr, true => (loB r.1 (c + 1), r.2)
  | .eql, true | .neq, false => (loB r.1 c, hiB r.2 c)
  | .eql, false | .neq, true => (cond (isI r.1 c) (some (c + 1)) r.1, cond (isI r.2 c) (some (c - 1)) r.2)
  | _, _ => r
def bnd (t : IT) : Cs → Bnd
  | [] => (none, none)
  | (.cmp op u (.lit c), b) :: r => cond (IT.beq u t) (bndF op c b (bnd t r)) (bnd t r)
  | _ :: r => bnd t r
def InB (r : Bnd) (z : Int) : Prop := (∀ l, r.1 = some l → l ≤ z) ∧ ∀ h, r.2 = some h → z ≤ h
theorem loB_ok {a : Option Int} {n z : Int} (ha : ∀ l, a = some l → l ≤ z) (h : n ≤ z) : ∀ l, loB a n = some l → l ≤ z := by
  intro l hl
  cases a with
  | none => cases hl; exact h
  | some m =>
    simp only [loB, Option.some.injEq] at hl
    subst hl
    cases iLt m n with
    | true => exact h
    | false => exact ha m rfl
theorem hiB_ok {a : Option Int} {n z : Int} (ha : ∀ l, a = some l → z ≤ l) (h : z ≤ n) : ∀ l, hiB a n = some l → z ≤ l := by
  intro l hl
  cases a with
  | none => cases hl; exact h
  | some m =>
    simp only [hiB, Option.some.injEq] at hl
    subst hl
    cases iLt n m with
    | true => exact h
    | false => exact ha m rfl
theorem isI_ok {a : Option Int} {n : Int} (h : isI a n = true) : a = some n := by
  cases a with
  | none => cases h
  | some m => simp only [isI, iEq_eq, decide_eq_true_eq] at h; rw [h]
theorem bndF_ok {op : BinOp} {c z : Int} {b : Bool} {r : Bnd} (h : intCmp op z c = some b) (hr : InB r z) : InB (bndF op c b r) z := by
  obtain ⟨h1, h2⟩ := hr
  have ne : z ≠ c → InB (cond (isI r.1 c) (some (c + 1)) r.1, cond (isI r.2 c) (some (c - 1)) r.2) z := by
    intro hne
    refine ⟨fun l hl => ?_, fun l hl => ?_⟩
    · cases hi : isI r.1 c with
      | true => rw [hi] at hl; cases hl; have := h1 c (isI_ok hi); omega
      | false => rw [hi] at hl; exact h1 l hl
    · cases hi : isI r.2 c with
      | true => rw [hi] at hl; cases hl; have := h2 c (isI_ok hi); omega
      | false => rw [hi] at hl; exact h2 l hl
  cases op <;> cases b <;> first | (cases h; done) | skip
  all_goals (simp only [intCmp, Option.some.injEq, decide_eq_true_eq, decide_eq_false_iff_not, beq_iff_eq, beq_eq_false_iff_ne, bne_iff_ne, bne_eq_false_iff_eq, ne_eq] at h)
  all_goals (simp only [bndF])
  all_goals first
    | exact ne h
    | exact ⟨loB_ok h1 (by omega), hiB_ok h2 (by omega)⟩
    | exact ⟨h1, hiB_ok h2 (by omega)⟩
    | exact ⟨loB_ok h1 (by omega), h2⟩
theorem bnd_ok {ρ : Env} {t : IT} {z : Int} (hz : t.den ρ = some z) : ∀ {cs : Cs}, CRel ρ cs → InB (bnd t cs) z
  | [], _ => ⟨(fun l h => by cases h), (fun l h => by cases h)⟩
  | p :: r, hc => by
    have hr := bnd_ok hz (cs := r) fun p hp => hc p (List.mem_cons_of_mem _ hp)
    unfold bnd
    split
    · rename_i heq; cases heq
    · rename_i op u c b r' heq
      cases heq
      cases hb : IT.beq u t with
      | true =>
        have h1 := hc _ List.mem_cons_self
        rw [IT.beq_eq hb] at h1
        simp only [BT.den, hz, IT.den] at h1
        exact bndF_ok h1 hr
      | false => exact hr
    · rename_i heq
      cases heq
      exact hr

def cmpB (op : BinOp) (r : Bnd) (c : Int) : Option Bool :=
  match op with
  | .lss => match r with
    | (_, some h) => cond (iLt h c) (some true) (match r.1 with
      | some l => cond (iLt l c) none (some false)
      | none => none)
    | (some l, none) => cond (iLt l c) none (some false)
    | _ => none
  | .eql => match r with
    | (some l, some h) => cond (iEq l c && iEq h c) (some true) (cond (iLt c l || iLt h c) (some false) none)
    | (some l, none) => cond (iLt c l) (some false) none
    | (none, some h) => cond (iLt h c) (some false) none
    | _ => none
  | _ => none
theorem cmpB_ok {op : BinOp} {r : Bnd} {c z : Int} {b : Bool} (h : cmpB op r c = some b) (hr : InB r z) : intCmp op z c = some b := by
  obtain ⟨h1, h2⟩ := hr
  obtain ⟨lo, hi⟩ := r
  simp only at h1 h2
  cases op <;> first | (cases h; done) | skip
  · cases lo with
    | none => cases hi with
      | none => cases h
      | some hv =>
        have := h2 hv rfl
        simp only [cmpB, iLt_eq] at h
        by_cases hh : hv < c
        · simp [hh] at h; subst h; simp only [intCmp, Option.some.injEq, beq_eq_false_iff_ne]; omega
        · simp [hh] at h
    | some lv => cases hi with
      | none =>
        have := h1 lv rfl
        simp only [cmpB, iLt_eq] at h
        by_cases hh : c < lv
        · simp [hh] at h; subst h; simp only [intCmp, Option.some.injEq, beq_eq_false_iff_ne]; omega
        · simp [hh] at h
      | some hv =>
        have a1 := h1 lv rfl
        have a2 := h2 hv rfl
        simp only [cmpB, iLt_eq, iEq_eq] at h
        by_cases hh : lv = c ∧ hv = c
        · simp [hh.1, hh.2] at h; subst h; simp only [intCmp, Option.some.injEq, beq_iff_eq]; omega
        · have hf : (decide (lv = c) && decide (hv = c)) = false := by
            cases hq : (decide (lv = c) && decide (hv = c)) with
            | false => rfl
            | true => simp at hq; exact (hh hq).elim
          rw [hf] at h
          simp only [cond_false] at h
          by_cases h3 : c < lv ∨ hv < c
          · have hf : (decide (c < lv) || decide (hv < c)) = true := by simpa using h3
            rw [hf] at h; cases h
            simp only [intCmp, Option.some.injEq, beq_eq_false_iff_ne]; omega
          · have hf : (decide (c < lv) || decide (hv < c)) = false := by simpa using h3
            rw [hf] at h; cases h
  · cases hi with
    | none => cases lo with
      | none => cases h
      | some lv =>
        have := h1 lv rfl
        simp only [cmpB, iLt_eq] at h
        by_cases hh : lv < c
        · simp [hh] at h
        · simp [hh] at h; subst h; simp only [intCmp, Option.some.injEq, decide_eq_false_iff_not]; omega
    | some hv =>
      have a2 := h2 hv rfl
      simp only [cmpB, iLt_eq] at h
      by_cases hh : hv < c
      · simp [hh] at h; subst h; simp only [intCmp, Option.some.injEq, decide_eq_true_eq]; omega
      · simp only [hh, decide_false, cond_false] at h
        cases lo with
        | none => cases h
        | some lv =>
          have := h1 lv rfl
          simp only at h
          by_cases hh : lv < c
          · simp [hh] at h
          · simp [hh] at h; subst h; simp only [intCmp, Option.some.injEq, decide_eq_false_iff_not]; omega

/-- What a condition is under others; only some comparisons are looked into. -/
def evalB (cs : Cs) : BT → Option Bool
  | .lit b => some b
  | .not b => match lookB cs (.not b) with
    | some c => some c
    | none => (evalB cs b).map (!·)
  | .and a b => match lookB cs (.and a b) with
    | some c => some c
    | none => match evalB cs a, evalB cs b with
      | some true, some c => some c
      | some false, some _ => some false
      | _, _ => none
  | .cmp op u (.lit c) => match lookB cs (.cmp op u (.lit c)) with
    | some c => some c
    | none => match op with
      | .lss | .eql => cmpB op (bnd u cs) c
      | .geq => (cmpB .lss (bnd u cs) c).map (!·)
      | .leq => cmpB .lss (bnd u cs) (c + 1)
      | .gtr => (cmpB .lss (bnd u cs) (c + 1)).map (!·)
      | .neq => (cmpB .eql (bnd u cs) c).map (!·)
      | _ => none
  | t => lookB cs t
theorem evalB_ok {ρ : Env} {cs : Cs} (hc : CRel ρ cs) : ∀ {t : BT} {b y : Bool}, evalB cs t = some b → t.den ρ = some y → y = b := by
  intro t
  have look : ∀ {t : BT} {b y : Bool}, lookB cs t = some b → t.den ρ = some y → y = b := fun h hy => by
    have := lookB_ok h hc; rw [hy] at this; exact Option.some.inj this
  induction t with
  | lit x => intro b y h hy; cases h; cases hy; rfl
  | var i => intro b y h hy; exact look h hy
  | seq s t => intro b y h hy; exact look h hy
  | not t ih =>
    intro b y h hy
    simp only [evalB] at h
    split at h
    · rename_i c hl; cases h; exact look hl hy
    · obtain ⟨x, hx, rfl⟩ := Option.map_eq_some_iff.1 h
      simp only [BT.den] at hy
      obtain ⟨z, hz, rfl⟩ := Option.map_eq_some_iff.1 hy
      rw [ih hx hz]
  | and s t ihs iht =>
    intro b y h hy
    simp only [evalB] at h
    split at h
    · rename_i c hl; cases h; exact look hl hy
    · simp only [BT.den] at hy
      split at hy
      · rename_i xs xt hs ht
        cases hy
        split at h
        · rename_i c h1 h2; cases h; rw [ihs h1 hs, iht h2 ht]; rfl
        · rename_i h1 h2; cases h; rw [ihs h1 hs]; rfl
        · cases h
      · cases hy
  | cmp op u v =>
    intro b y h hy
    have key : ∀ (c : Int) (op' : BinOp) (b' : Bool) (z : Int), u.den ρ = some z → cmpB op' (bnd u cs) c = some b' → intCmp op' z c = some b' := fun c op' b' z hz hb => cmpB_ok hb (bnd_ok hz hc)
    unfold evalB at h
    split at h
    · rename_i heq; cases heq
    · rename_i heq; cases heq
    · rename_i heq; cases heq
    · rename_i op0 u0 c heq
      cases heq
      split at h
      · rename_i c hl; cases h; exact look hl hy
      · cases hz : u.den ρ with
        | none => simp [BT.den, hz] at hy
        | some z =>
          simp only [BT.den, hz, IT.den] at hy
          split at h
          · have := key _ _ _ _ hz h
            rw [hy] at this; exact Option.some.inj this
          · have := key _ _ _ _ hz h
            rw [hy] at this; exact Option.some.inj this
          · obtain ⟨x, hx, rfl⟩ := Option.map_eq_some_iff.1 h
            have := key _ _ _ _ hz hx
            simp only [intCmp, Option.some.injEq] at this hy
            rw [← this, ← hy]; by_cases hh : z < c <;> simp [hh] <;> omega
          · have := key _ _ _ _ hz h
            simp only [intCmp, Option.some.injEq] at this hy
            rw [← this, ← hy]; by_cases hh : z < c + 1 <;> simp [hh] <;> omega
          · obtain ⟨x, hx, rfl⟩ := Option.map_eq_some_iff.1 h
            have := key _ _ _ _ hz hx
            simp only [intCmp, Option.some.injEq] at this hy
            rw [← this, ← hy]; by_cases hh : z < c + 1 <;> simp [hh] <;> omega
          · obtain ⟨x, hx, rfl⟩ := Option.map_eq_some_iff.1 h
            have := key _ _ _ _ hz hx
            simp only [intCmp, Option.some.injEq] at this hy
            rw [← this, ← hy]; rfl
          · cases h
    · exact look h hy

/-- Conditions that cannot all be. -/
def noneB (r : Bnd) : Bool := match r with
  | (some l, some h) => iLt h l
  | _ => false
def badIn (all : Cs) : Cs → Bool
  | [] => false
  | (p, b) :: r => (match evalB r p with
    | some c => !(c == b)
    | none => false) || (match p with
    | .cmp _ u (.lit _) => noneB (bnd u all)
    | _ => false) || badIn all r
def bad (cs : Cs) : Bool := badIn cs cs
theorem badIn_ok {ρ : Env} {all : Cs} (ha : CRel ρ all) : ∀ {cs : Cs}, badIn all cs = true → CRel ρ cs → False
  | [], h, _ => by cases h
  | (p, b) :: r, h, hc => by
    have hr : CRel ρ r := fun p hp => hc p (List.mem_cons_of_mem _ hp)
    have hp := hc _ List.mem_cons_self
    simp only [badIn, Bool.or_eq_true] at h
    rcases h with (h | h) | h
    · split at h
      · rename_i c he
        have := evalB_ok hr he hp
        subst this; simp at h
      · cases h
    · split at h
      · rename_i op u c
        simp only [BT.den] at hp
        split at hp
        · rename_i z _ hz _
          have hb := bnd_ok hz ha
          unfold noneB at h
          split at h
          · rename_i l hh heq
            rw [iLt_eq, decide_eq_true_eq] at h
            have h1 := hb.1 l (by rw [heq])
            have h2 := hb.2 hh (by rw [heq])
            omega
          · cases h
        · cases hp
      · cases h
    · exact badIn_ok ha h hr
theorem bad_dead {ρ : Env} {cs : Cs} (h : bad cs = true) : Dead ρ cs := fun _ _ hc => badIn_ok hc h hc

end Go.Vm
