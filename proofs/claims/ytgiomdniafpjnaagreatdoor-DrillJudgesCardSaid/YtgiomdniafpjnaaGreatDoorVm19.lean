/-
  A machine for abstract states over the model (part 17): what is known of functions; what follows from conditions.
-/
import Derived.Test.YtgiomdniafpjnaaGreatDoorVm16
section
namespace Go.Vm

-- MEMORY OF OTHERS
structure Framed (w w' : World) : Prop where
  size : w.heap.size ≤ w'.heap.size
  frame : ∀ b, b < w.heap.size → w'.heap[b]? = w.heap[b]?
  tape : w'.tape = w.tape
  os : w'.os = w.os
  out : w'.output = w.output
theorem Framed.refl (w : World) : Framed w w := ⟨Nat.le_refl _, fun _ _ => rfl, rfl, rfl, rfl⟩
theorem Framed.of {ρ : Env} {w w' : World} {H : Heap} {nl : Nat} {G : (Nat → Int) → (Nat → Bool) → (Nat → ByteArray) → (Nat → Value) → (Nat → Int → Int → Int) → Prop} (h : HRel ⟨w, noO, G⟩ ρ H nl w') : Framed w w' :=
  ⟨h.size, fun b hb => h.frame b hb (fun h => h), h.tape, h.os, h.out⟩
theorem HRel.framed {β : Base} {ρ : Env} {H : Heap} {nl : Nat} {w w' : World} (h : HRel β ρ H nl w) (f : Framed w w') : HRel β ρ H nl w' := by
  refine ⟨fun l k hl => ?_, h.inj, h.own, h.fresh, h.ownN, Nat.le_trans h.size f.size, fun b hb hn => ?_, f.tape.trans h.tape, f.os.trans h.os, f.out.trans h.out, h.g, h.big.imp fun _ hB => hB.agree fun y hy => f.frame y hy⟩
  · obtain ⟨b, o, h1, h2, h3⟩ := h.blk l k hl
    have hlt : b < w.heap.size := (Array.getElem?_eq_some_iff.1 h2).1
    exact ⟨b, o, h1, by rw [f.frame b hlt]; exact h2, h3⟩
  · rw [f.frame b (Nat.lt_of_lt_of_le hb h.size)]; exact h.frame b hb hn

-- WHAT IS KNOWN OF FUNCTIONS
abbrev SpecF := List AVal → Option (List (AVal × Cs))
def SpecOk (P : Program) (f : FuncId) (F : SpecF) : Prop := ∀ args alts ρ w xs, F args = some alts → AVal.denL ρ args = some xs →
  Calls P f xs.toArray w (fun e w' => ∃ v, e = .returned v ∧ Framed w w' ∧ ∃ u ∈ alts, u.1.den ρ = some v ∧ CRel ρ u.2)
abbrev Specs := List (FuncId × SpecF)
def spOf (L : Specs) : CallF := { fn := fun g args H nl cs => match L.find? (fun p => Nat.beq p.1 g) with
  | some p => (p.2 args).map fun alts => alts.map fun u => Leaf.ret u.1 H nl (u.2 ++ cs)
  | none => none }
theorem spOf_ok {P : Program} {β : Base} {L : Specs} (h : ∀ p ∈ L, SpecOk P p.1 p.2) : CallOk P β (spOf L) := by
  refine ⟨?_, noOp_ok⟩
  intro g args H nl cs ls ρ w xs hr hx hh hc _
  simp only [spOf] at hr
  split at hr
  · rename_i p hp
    have hg0 : (fun p : FuncId × SpecF => Nat.beq p.1 g) p = true := List.find?_some (p := fun p : FuncId × SpecF => Nat.beq p.1 g) hp
    have hg : p.1 = g := Nat.eq_of_beq_eq_true hg0
    obtain ⟨alts, ha, rfl⟩ := Option.map_eq_some_iff.1 hr
    have hs := h p (List.mem_of_find?_eq_some hp) args alts ρ w xs ha hx
    rw [hg] at hs
    refine hs.mono fun e w' ⟨v, hv, hf, u, hu, hd, hcu⟩ => ⟨v, hv, u.1, H, nl, u.2 ++ cs, ρ, List.mem_map.2 ⟨u, hu, rfl⟩, Env.Le.refl ρ, hd, hh.framed hf, fun q hq => ?_⟩
    rcases List.mem_append.1 hq with hq | hq
    · exact hcu q hq
    · exact hc q hq
  · cases hr

-- WHAT FOLLOWS
abbrev Bnd := Option Int × Option Int
def loB (a : Option Int) (n : Int) : Option Int := match a with
  | none => some n
  | some m => some (cond (iLt m n) n m)
def hiB (a : Option Int) (n : Int) : Option Int := match a with
  | none => some n
  | some m => some (cond (iLt n m) n m)
def isI (a : Option Int) (n : Int) : Bool := match a with
  | none => false
  | some m => iEq m n
def bndF (op : BinOp) (c : Int) (b : Bool) (r : Bnd) : Bnd :=
  match op, b with
  | .lss, true | .geq, false => (r.1, hiB r.2 (c - 1))
  | .lss, false | .geq, true => (loB r.1 c, r.2)
  | .leq, true | .gtr, false => (r.1, hiB r.2 c)
  | .leq, false | .gtr, true => (loB r.1 (c + 1), r.2)
  | .eql, true | .neq, false => (loB r.1 c, hiB r.2 c)
  | .eql, false | .neq, true => (cond (isI r.1 c) (some (c + 1)) r.1, cond (isI r.2 c) (some (c - 1)) r.2)
  | _, _ => r
def bnd (t : IT) : Cs → Bnd
  | [] => (none, none)
  | (.cmp op u (.lit c), b) :: r => cond (IT.beq u t) (bndF op c b (bnd t r)) (bnd t r)
  | _ :: r => bnd t r
def InB (r : Bnd) (z : Int) : Prop := (∀ l, r.1 = some l → l ≤ z) ∧ ∀ h, r.2 = some h → z ≤ h
theorem loB_ok {a : Option Int} {n z : Int} (ha : ∀ l, a = some l → l ≤ z) (h : n ≤ z) : ∀ l, loB a n = some l → l ≤ z := by
  intro l hl
  cases a with
  | none => cases hl; exact h
  | some m =>
    simp only [loB, Option.some.injEq] at hl
    subst hl
    cases iLt m n with
    | true => exact h
    | false => exact ha m rfl
theorem hiB_ok {a : Option Int} {n z : Int} (ha : ∀ l, a = some l → z ≤ l) (h : z ≤ n) : ∀ l, hiB a n = some l → z ≤ l := by
  intro l hl
  cases a with
  | none => cases hl; exact h
  | some m =>
    simp only [hiB, Option.some.injEq] at hl
    subst hl
    cases iLt n m with
    | true => exact h
    | false => exact ha m rfl
theorem isI_ok {a : Option Int} {n : Int} (h : isI a n = true) : a = some n := by
  cases a with
  | none => cases h
  | some m => simp only [isI, iEq_eq, decide_eq_true_eq] at h; rw [h]
theorem bndF_ok {op : BinOp} {c z : Int} {b : Bool} {r : Bnd} (h : intCmp op z c = some b) (hr : InB r z) : InB (bndF op c b r) z := by
  obtain ⟨h1, h2⟩ := hr
  have ne : z ≠ c → InB (cond (isI r.1 c) (some (c + 1)) r.1, cond (isI r.2 c) (some (c - 1)) r.2) z := by
    intro hne
    refine ⟨fun l hl => ?_, fun l hl => ?_⟩
    · cases hi : isI r.1 c with
      | true => rw [hi] at hl; cases hl; have := h1 c (isI_ok hi); omega
      | false => rw [hi] at hl; exact h1 l hl
    · cases hi : isI r.2 c with
      | true => rw [hi] at hl; cases hl; have := h2 c (isI_ok hi); omega
      | false => rw [hi] at hl; exact h2 l hl
  cases op <;> cases b <;> first | (cases h; done) | skip
  all_goals (simp only [intCmp, Option.some.injEq, decide_eq_true_eq, decide_eq_false_iff_not, beq_iff_eq, beq_eq_false_iff_ne, bne_iff_ne, bne_eq_false_iff_eq, ne_eq] at h)
  all_goals (simp only [bndF])
  all_goals first
    | exact ne h
    | exact ⟨loB_ok h1 (by omega), hiB_ok h2 (by omega)⟩
    | exact ⟨h1, hiB_ok h2 (by omega)⟩
    | exact ⟨loB_ok h1 (by omega), h2⟩
theorem bnd_ok {ρ : Env} {t : IT} {z : Int} (hz : t.den ρ = some z) : ∀ {cs : Cs}, CRel ρ cs → InB (bnd t cs) z
  | [], _ => ⟨(fun l h => by cases h), (fun l h => by cases h)⟩
  | p :: r, hc => by
    have hr := bnd_ok hz (cs := r) fun p hp => hc p (List.mem_cons_of_mem _ hp)
    unfold bnd
    split
    · rename_i heq; cases heq
    · rename_i op u c b r' heq
      cases heq
      cases hb : IT.beq u t with
      | true =>
        have h1 := hc _ List.mem_cons_self
        rw [IT.beq_eq hb] at h1
        simp only [BT.den, hz, IT.den] at h1
        exact bndF_ok h1 hr
      | false => exact hr
    · rename_i heq
      cases heq
      exact hr

def cmpB (op : BinOp) (r : Bnd) (c : Int) : Option Bool :=
  match op with
  | .lss => match r with
    | (_, some h) => cond (iLt h c) (some true) (match r.1 with
      | some l => cond (iLt l c) none (some false)
      | none => none)
    | (some l, none) => cond (iLt l c) none (some false)
    | _ => none
  | .eql => match r with
    | (some l, some h) => cond (iEq l c && iEq h c) (some true) (cond (iLt c l || iLt h c) (some false) none)
    | (some l, none) => cond (iLt c l) (some false) none
    | (none, some h) => cond (iLt h c) (some false) none
    | _ => none
  | _ => none
theorem cmpB_ok {op : BinOp} {r : Bnd} {c z : Int} {b : Bool} (h : cmpB op r c = some b) (hr : InB r z) : intCmp op z c = some b := by
  obtain ⟨h1, h2⟩ := hr
  obtain ⟨lo, hi⟩ := r
  simp only at h1 h2
  cases op <;> first | (cases h; done) | skip
  · cases lo with
    | none => cases hi with
      | none => cases h
      | some hv =>
        have := h2 hv rfl
        simp only [cmpB, iLt_eq] at h
        by_cases hh : hv < c
        · simp [hh] at h; subst h; simp only [intCmp, Option.some.injEq, beq_eq_false_iff_ne]; omega
        · simp [hh] at h
    | some lv => cases hi with
      | none =>
        have := h1 lv rfl
        simp only [cmpB, iLt_eq] at h
        by_cases hh : c < lv
        · simp [hh] at h; subst h; simp only [intCmp, Option.some.injEq, beq_eq_false_iff_ne]; omega
        · simp [hh] at h
      | some hv =>
        have a1 := h1 lv rfl
        have a2 := h2 hv rfl
        simp only [cmpB, iLt_eq, iEq_eq] at h
        by_cases hh : lv = c ∧ hv = c
        · simp [hh.1, hh.2] at h; subst h; simp only [intCmp, Option.some.injEq, beq_iff_eq]; omega
        · have hf : (decide (lv = c) && decide (hv = c)) = false := by
            cases hq : (decide (lv = c) && decide (hv = c)) with
            | false => rfl
            | true => simp at hq; exact (hh hq).elim
          rw [hf] at h
          simp only [cond_false] at h
          by_cases h3 : c < lv ∨ hv < c
          · have hf : (decide (c < lv) || decide (hv < c)) = true := by simpa using h3
            rw [hf] at h; cases h
            simp only [intCmp, Option.some.injEq, beq_eq_false_iff_ne]; omega
          · have hf : (decide (c < lv) || decide (hv < c)) = false := by simpa using h3
            rw [hf] at h; cases h
  · cases hi with
    | none => cases lo with
      | none => cases h
      | some lv =>
        have := h1 lv rfl
        simp only [cmpB, iLt_eq] at h
        by_cases hh : lv < c
        · simp [hh] at h
        · simp [hh] at h; subst h; simp only [intCmp, Option.some.injEq, decide_eq_false_iff_not]; omega
    | some hv =>
      have a2 := h2 hv rfl
      simp only [cmpB, iLt_eq] at h
      by_cases hh : hv < c
      · simp [hh] at h; subst h; simp only [intCmp, Option.some.injEq, decide_eq_true_eq]; omega
      · simp only [hh, decide_false, cond_false] at h
        cases lo with
        | none => cases h
        | some lv =>
          have := h1 lv rfl
          simp only at h
          by_cases hh : lv < c
          · simp [hh] at h
          · simp [hh] at h; subst h; simp only [intCmp, Option.some.injEq, decide_eq_false_iff_not]; omega

/-- What a condition is under others; only some comparisons are looked into. -/
def evalB (cs : Cs) : BT → Option Bool
  | .lit b => some b
  | .not b => match lookB cs (.not b) with
    | some c => some c
    | none => (evalB cs b).map (!·)
  | .and a b => match lookB cs (.and a b) with
    | some c => some c
    | none => match evalB cs a, evalB cs b with
      | some true, some c => some c
      | some false, some _ => some false
      | _, _ => none
  | .cmp op u (.lit c) => match lookB cs (.cmp op u (.lit c)) with
    | some c => some c
    | none => match op with
      | .lss | .eql => cmpB op (bnd u cs) c
      | .geq => (cmpB .lss (bnd u cs) c).map (!·)
      | .leq => cmpB .lss (bnd u cs) (c + 1)
      | .gtr => (cmpB .lss (bnd u cs) (c + 1)).map (!·)
      | .neq => (cmpB .eql (bnd u cs) c).map (!·)
      | _ => none
  | t => lookB cs t
theorem evalB_ok {ρ : Env} {cs : Cs} (hc : CRel ρ cs) : ∀ {t : BT} {b y : Bool}, evalB cs t = some b → t.den ρ = some y → y = b := by
  intro t
  have look : ∀ {t : BT} {b y : Bool}, lookB cs t = some b → t.den ρ = some y → y = b := fun h hy => by
    have := lookB_ok h hc; rw [hy] at this; exact Option.some.inj this
  induction t with
  | lit x => intro b y h hy; cases h; cases hy; rfl
  | var i => intro b y h hy; exact look h hy
  | seq s t => intro b y h hy; exact look h hy
  | not t ih =>
    intro b y h hy
    simp only [evalB] at h
    split at h
    · rename_i c hl; cases h; exact look hl hy
    · obtain ⟨x, hx, rfl⟩ := Option.map_eq_some_iff.1 h
      simp only [BT.den] at hy
      obtain ⟨z, hz, rfl⟩ := Option.map_eq_some_iff.1 hy
      rw [ih hx hz]
  | and s t ihs iht =>
    intro b y h hy
    simp only [evalB] at h
    split at h
    · rename_i c hl; cases h; exact look hl hy
    · simp only [BT.den] at hy
      split at hy
      · rename_i xs xt hs ht
        cases hy
        split at h
        · rename_i c h1 h2; cases h; rw [ihs h1 hs, iht h2 ht]; rfl
        · rename_i h1 h2; cases h; rw [ihs h1 hs]; rfl
        · cases h
      · cases hy
  | cmp op u v =>
    intro b y h hy
    have key : ∀ (c : Int) (op' : BinOp) (b' : Bool) (z : Int), u.den ρ = some z → cmpB op' (bnd u cs) c = some b' → intCmp op' z c = some b' := fun c op' b' z hz hb => cmpB_ok hb (bnd_ok hz hc)
    unfold evalB at h
    split at h
    · rename_i heq; cases heq
    · rename_i heq; cases heq
    · rename_i heq; cases heq
    · rename_i op0 u0 c heq
      cases heq
      split at h
      · rename_i c hl; cases h; exact look hl hy
      · cases hz : u.den ρ with
        | none => simp [BT.den, hz] at hy
        | some z =>
          simp only [BT.den, hz, IT.den] at hy
          split at h
          · have := key _ _ _ _ hz h
            rw [hy] at this; exact Option.some.inj this
          · have := key _ _ _ _ hz h
            rw [hy] at this; exact Option.some.inj this
          · obtain ⟨x, hx, rfl⟩ := Option.map_eq_some_iff.1 h
            have := key _ _ _ _ hz hx
            simp only [intCmp, Option.some.injEq] at this hy
            rw [← this, ← hy]; by_cases hh : z < c <;> simp [hh] <;> omega
          · have := key _ _ _ _ hz h
            simp only [intCmp, Option.some.injEq] at this hy
            rw [← this, ← hy]; by_cases hh : z < c + 1 <;> simp [hh] <;> omega
          · obtain ⟨x, hx, rfl⟩ := Option.map_eq_some_iff.1 h
            have := key _ _ _ _ hz hx
            simp only [intCmp, Option.some.injEq] at this hy
            rw [← this, ← hy]; by_cases hh : z < c + 1 <;> simp [hh] <;> omega
          · obtain ⟨x, hx, rfl⟩ := Option.map_eq_some_iff.1 h
            have := key _ _ _ _ hz hx
            simp only [intCmp, Option.some.injEq] at this hy
            rw [← this, ← hy]; rfl
          · cases h
    · exact look h hy

/-- Conditions that cannot all be. -/
def noneB (r : Bnd) : Bool := match r with
  | (some l, some h) => iLt h l
  | _ => false
def badIn (all : Cs) : Cs → Bool
  | [] => false
  | (p, b) :: r => (match evalB r p with
    | some c => !(c == b)
    | none => false) || (match p with
    | .cmp _ u (.lit _) => noneB (bnd u all)
    | _ => false) || badIn all r
def bad (cs : Cs) : Bool := badIn cs cs
theorem badIn_ok {ρ : Env} {all : Cs} (ha : CRel ρ all) : ∀ {cs : Cs}, badIn all cs = true → CRel ρ cs → False
  | [], h, _ => by cases h
  | (p, b) :: r, h, hc => by
    have hr : CRel ρ r := fun p hp => hc p (List.mem_cons_of_mem _ hp)
    have hp := hc _ List.mem_cons_self
    simp only [badIn, Bool.or_eq_true] at h
    rcases h with (h | h) | h
    · split at h
      · rename_i c he
        have := evalB_ok hr he hp
        subst this; simp at h
      · cases h
    · split at h
      · rename_i op u c
        simp only [BT.den] at hp
        split at hp
        · rename_i z _ hz _
          have hb := bnd_ok hz ha
          unfold noneB at h
          split at h
          · rename_i l hh heq
            rw [iLt_eq, decide_eq_true_eq] at h
            have h1 := hb.1 l (by rw [heq])
            have h2 := hb.2 hh (by rw [heq])
            omega
          · cases h
        · cases hp
      · cases h
    · exact badIn_ok ha h hr
theorem bad_dead {ρ : Env} {cs : Cs} (h : bad cs = true) : Dead ρ cs := fun _ _ hc => badIn_ok hc h hc

end Go.Vm
end

/-
  A machine for abstract states over the model (part 18): conditions that cannot all be; laws and what is known of functions, by a run.
-/
section
namespace Go.Vm

/-- The first is at most so much more than the second. -/
structure DC where
  x : IT
  y : IT
  c : Int
def DC.ok (ρ : Env) (d : DC) : Prop := ∃ a b, d.x.den ρ = some a ∧ d.y.den ρ = some b ∧ a - b ≤ d.c
def mkDC (u v : IT) (c : Int) : DC :=
  match u, v with
  | .lit n, .lit m => ⟨.lit 0, .lit 0, c - n + m⟩
  | .lit n, v => ⟨.lit 0, v, c - n⟩
  | u, .lit m => ⟨u, .lit 0, c + m⟩
  | u, v => ⟨u, v, c⟩
theorem mkDC_ok {ρ : Env} {u v : IT} {a b c : Int} (hu : u.den ρ = some a) (hv : v.den ρ = some b) (h : a - b ≤ c) : (mkDC u v c).ok ρ := by
  unfold mkDC
  split
  · cases hu; cases hv; exact ⟨0, 0, rfl, rfl, by simp only; omega⟩
  · cases hu; exact ⟨0, b, rfl, hv, by simp only; omega⟩
  · cases hv; exact ⟨a, 0, hu, rfl, by simp only; omega⟩
  · exact ⟨a, b, hu, hv, h⟩
def insD (d : DC) : List DC → List DC
  | [] => [d]
  | e :: r => cond (IT.beq e.x d.x && IT.beq e.y d.y) (cond (iLt d.c e.c) (d :: r) (e :: r)) (e :: insD d r)
theorem insD_ok {ρ : Env} {d : DC} (hd : d.ok ρ) : ∀ {L : List DC}, (∀ e ∈ L, e.ok ρ) → ∀ e ∈ insD d L, e.ok ρ
  | [], _, e, he => by
    rcases List.mem_cons.1 he with rfl | h
    · exact hd
    · cases h
  | f :: r, h, e, he => by
    simp only [insD] at he
    have hr : ∀ e ∈ r, e.ok ρ := fun e he => h e (List.mem_cons_of_mem _ he)
    cases hb : (IT.beq f.x d.x && IT.beq f.y d.y) with
    | true =>
      rw [hb] at he; simp only [cond_true] at he
      cases hc : iLt d.c f.c with
      | true =>
        rw [hc] at he
        rcases List.mem_cons.1 he with rfl | h1
        · exact hd
        · exact hr e h1
      | false => rw [hc] at he; exact h e he
    | false =>
      rw [hb] at he; simp only [cond_false] at he
      rcases List.mem_cons.1 he with rfl | h1
      · exact h e List.mem_cons_self
      · exact insD_ok hd hr e h1
/-- Those that end where one begins, put before it; and so behind it. -/
def pre (d : DC) : List DC → List DC
  | [] => [d]
  | e :: r => cond (IT.beq e.y d.x) (⟨e.x, d.y, e.c + d.c⟩ :: pre d r) (pre d r)
def post (d : DC) : List DC → List DC
  | [] => [d]
  | e :: r => cond (IT.beq d.y e.x) (⟨d.x, e.y, d.c + e.c⟩ :: post d r) (post d r)
theorem pre_ok {ρ : Env} {d : DC} (hd : d.ok ρ) : ∀ {L : List DC}, (∀ e ∈ L, e.ok ρ) → ∀ e ∈ pre d L, e.ok ρ
  | [], _, e, he => by
    rcases List.mem_cons.1 he with rfl | h
    · exact hd
    · cases h
  | f :: r, h, e, he => by
    have hr : ∀ e ∈ r, e.ok ρ := fun e he => h e (List.mem_cons_of_mem _ he)
    simp only [pre] at he
    cases hb : IT.beq f.y d.x with
    | true =>
      rw [hb] at he
      rcases List.mem_cons.1 he with rfl | h1
      · obtain ⟨a, b, h1, h2, h3⟩ := h f List.mem_cons_self
        obtain ⟨a', b', h1', h2', h3'⟩ := hd
        rw [IT.beq_eq hb, h1'] at h2; cases h2
        exact ⟨a, b', h1, h2', by simp only; omega⟩
      · exact pre_ok hd hr e h1
    | false => rw [hb] at he; exact pre_ok hd hr e he
theorem post_ok {ρ : Env} {d : DC} (hd : d.ok ρ) : ∀ {L : List DC}, (∀ e ∈ L, e.ok ρ) → ∀ e ∈ post d L, e.ok ρ
  | [], _, e, he => by
    rcases List.mem_cons.1 he with rfl | h
    · exact hd
    · cases h
  | f :: r, h, e, he => by
    have hr : ∀ e ∈ r, e.ok ρ := fun e he => h e (List.mem_cons_of_mem _ he)
    simp only [post] at he
    cases hb : IT.beq d.y f.x with
    | true =>
      rw [hb] at he
      rcases List.mem_cons.1 he with rfl | h1
      · obtain ⟨a, b, h1, h2, h3⟩ := h f List.mem_cons_self
        obtain ⟨a', b', h1', h2', h3'⟩ := hd
        rw [← IT.beq_eq hb, h2'] at h1; cases h1
        exact ⟨a', b, h1', h2, by simp only; omega⟩
      · exact post_ok hd hr e h1
    | false => rw [hb] at he; exact post_ok hd hr e he
def insAll (l L : List DC) : List DC := l.foldl (fun L d => insD d L) L
theorem insAll_ok {ρ : Env} : ∀ {l L : List DC}, (∀ e ∈ l, e.ok ρ) → (∀ e ∈ L, e.ok ρ) → ∀ e ∈ insAll l L, e.ok ρ
  | [], _, _, h => h
  | d :: l, _, hl, h => insAll_ok (l := l) (fun e he => hl e (List.mem_cons_of_mem _ he)) (insD_ok (hl d List.mem_cons_self) h)
def addD (d : DC) (L : List DC) : List DC := insAll ((pre d L).flatMap fun e => post e L) L
theorem addD_ok {ρ : Env} {d : DC} (hd : d.ok ρ) {L : List DC} (h : ∀ e ∈ L, e.ok ρ) : ∀ e ∈ addD d L, e.ok ρ :=
  insAll_ok (fun e he => by
    obtain ⟨f, hf, he⟩ := List.mem_flatMap.1 he
    exact post_ok (pre_ok hd h f hf) h e he) h
def contra (L : List DC) : Bool := L.any fun d => IT.beq d.x d.y && iLt d.c 0
theorem contra_ok {ρ : Env} {L : List DC} (h : ∀ e ∈ L, e.ok ρ) : contra L = false := by
  cases hc : contra L with
  | false => rfl
  | true =>
    obtain ⟨d, hd, hb⟩ := List.any_eq_true.1 hc
    simp only [Bool.and_eq_true, iLt_eq, decide_eq_true_eq] at hb
    obtain ⟨a, b, h1, h2, h3⟩ := h d hd
    rw [IT.beq_eq hb.1, h2] at h1; cases h1
    omega

/-- What a comparison is good for: one of these. -/
def altsD (op : BinOp) (b : Bool) (u v : IT) : Option (List (List DC)) :=
  match op, b with
  | .lss, true | .geq, false => some [[mkDC u v (-1)]]
  | .lss, false | .geq, true => some [[mkDC v u 0]]
  | .leq, true | .gtr, false => some [[mkDC u v 0]]
  | .leq, false | .gtr, true => some [[mkDC v u (-1)]]
  | .eql, true | .neq, false => some [[mkDC u v 0, mkDC v u 0]]
  | .eql, false | .neq, true => some [[mkDC u v (-1)], [mkDC v u (-1)]]
  | _, _ => none
theorem altsD_ok {ρ : Env} {op : BinOp} {b : Bool} {u v : IT} {l : List (List DC)} (h : altsD op b u v = some l) (hd : (BT.cmp op u v).den ρ = some b) : ∃ ds ∈ l, ∀ d ∈ ds, d.ok ρ := by
  simp only [BT.den] at hd
  split at hd
  · rename_i x y hx hy
    have one : ∀ {d : DC}, d.ok ρ → ∀ e ∈ [d], e.ok ρ := fun hd e he => by
      rcases List.mem_cons.1 he with rfl | h
      · exact hd
      · cases h
    cases op <;> cases b <;> first | (cases h; done) | skip
    all_goals (simp only [intCmp, Option.some.injEq, decide_eq_true_eq, decide_eq_false_iff_not, beq_iff_eq, beq_eq_false_iff_ne, bne_iff_ne, bne_eq_false_iff_eq, ne_eq] at hd)
    all_goals (simp only [altsD, Option.some.injEq] at h; subst h)
    all_goals first
      | exact ⟨_, List.mem_cons_self, one (mkDC_ok hx hy (by omega))⟩
      | exact ⟨_, List.mem_cons_self, one (mkDC_ok hy hx (by omega))⟩
      | exact ⟨_, List.mem_cons_self, fun e he => by
          rcases List.mem_cons.1 he with rfl | he
          · exact mkDC_ok hx hy (by omega)
          · exact one (mkDC_ok hy hx (by omega)) e he⟩
      | (rcases (show x < y ∨ y < x by omega) with h1 | h1
         · exact ⟨_, List.mem_cons_self, one (mkDC_ok hx hy (by omega))⟩
         · exact ⟨_, List.mem_cons_of_mem _ List.mem_cons_self, one (mkDC_ok hy hx (by omega))⟩)
  · cases hd

def addAll (ds L : List DC) : List DC := ds.foldl (fun L d => addD d L) L
theorem addAll_ok {ρ : Env} : ∀ {ds L : List DC}, (∀ e ∈ ds, e.ok ρ) → (∀ e ∈ L, e.ok ρ) → ∀ e ∈ addAll ds L, e.ok ρ
  | [], _, _, h => h
  | d :: l, _, hl, h => addAll_ok (ds := l) (fun e he => hl e (List.mem_cons_of_mem _ he)) (addD_ok (hl d List.mem_cons_self) h)

/-- Can't all of these be? -/
def refute : Nat → Cs → Cs → List DC → Bool
  | 0, _, _, _ => false
  | n + 1, todo, late, L => match todo with
    | (.lit x, b) :: r => cond (x == b) (refute n r late L) true
    | (.not t, b) :: r => refute n ((t, !b) :: r) late L
    | (.and s t, true) :: r => refute n ((s, true) :: (t, true) :: r) late L
    | (.and s t, false) :: r => refute n r (late ++ [(.and s t, false)]) L
    | (.cmp op u v, b) :: r => match altsD op b u v with
      | some [ds] => let L' := addAll ds L; contra L' || refute n r late L'
      | some _ => refute n r (late ++ [(.cmp op u v, b)]) L
      | none => refute n r late L
    | _ :: r => refute n r late L
    | [] => match late with
      | (.and s t, false) :: r => refute n [(s, false)] r L && refute n [(t, false)] r L
      | (.cmp op u v, b) :: r => match altsD op b u v with
        | some l => l.all fun ds => let L' := addAll ds L; contra L' || refute n [] r L'
        | none => refute n [] r L
      | _ :: r => refute n [] r L
      | [] => false
theorem CRel.snoc {ρ : Env} {t : BT} {b : Bool} {cs : Cs} (c : CRel ρ cs) (h : t.den ρ = some b) : CRel ρ (cs ++ [(t, b)]) := fun p hp => by
  rcases List.mem_append.1 hp with hp | hp
  · exact c p hp
  · rcases List.mem_cons.1 hp with rfl | hp
    · exact h
    · cases hp
theorem refute_ok {ρ : Env} : ∀ (n : Nat) (todo late : Cs) (L : List DC), refute n todo late L = true → CRel ρ todo → CRel ρ late → (∀ e ∈ L, e.ok ρ) → False := by
  intro n
  induction n with
  | zero => intro todo late L h; simp [refute] at h
  | succ n ih =>
    intro todo late L h ht hl hL
    have one : ∀ {t : BT} {b : Bool}, t.den ρ = some b → CRel ρ [(t, b)] := fun h p hp => by
      rcases List.mem_cons.1 hp with rfl | hp
      · exact h
      · cases hp
    unfold refute at h
    split at h
    · rename_i x b r
      have h0 : (BT.lit x).den ρ = some b := ht _ List.mem_cons_self
      have hr : CRel ρ r := fun p hp => ht p (List.mem_cons_of_mem _ hp)
      obtain rfl : x = b := Option.some.inj h0
      simp only [beq_self_eq_true, cond_true] at h
      exact ih r late L h hr hl hL
    · rename_i t b r
      have h0 := ht _ List.mem_cons_self
      have hr : CRel ρ r := fun p hp => ht p (List.mem_cons_of_mem _ hp)
      simp only [BT.den] at h0
      obtain ⟨x, hx, rfl⟩ := Option.map_eq_some_iff.1 h0
      exact ih _ late L h (hr.cons (by simpa using hx)) hl hL
    · rename_i s t r
      have h0 := ht _ List.mem_cons_self
      have hr : CRel ρ r := fun p hp => ht p (List.mem_cons_of_mem _ hp)
      simp only [BT.den] at h0
      split at h0
      · rename_i x y hx hy
        simp only [Option.some.injEq, Bool.and_eq_true] at h0
        obtain ⟨rfl, rfl⟩ := h0
        exact ih _ late L h ((hr.cons hy).cons hx) hl hL
      · cases h0
    · rename_i s t r
      have h0 := ht _ List.mem_cons_self
      have hr : CRel ρ r := fun p hp => ht p (List.mem_cons_of_mem _ hp)
      exact ih _ _ L h hr (hl.snoc h0) hL
    · rename_i op u v b r
      have h0 := ht _ List.mem_cons_self
      have hr : CRel ρ r := fun p hp => ht p (List.mem_cons_of_mem _ hp)
      split at h
      · rename_i ds ha
        obtain ⟨ds', hm, hok⟩ := altsD_ok ha h0
        obtain rfl := List.mem_singleton.1 hm
        have hL' := addAll_ok hok hL
        simp only [contra_ok hL', Bool.false_or] at h
        exact ih _ _ _ h hr hl hL'
      · exact ih _ _ L h hr (hl.snoc h0) hL
      · exact ih _ _ L h hr hl hL
    · rename_i p r _ _ _ _ _
      exact ih _ _ L h (fun p hp => ht p (List.mem_cons_of_mem _ hp)) hl hL
    · split at h
      · rename_i s t r
        have h0 := hl _ List.mem_cons_self
        have hr : CRel ρ r := fun p hp => hl p (List.mem_cons_of_mem _ hp)
        simp only [Bool.and_eq_true] at h
        simp only [BT.den] at h0
        split at h0
        · rename_i x y hx hy
          simp only [Option.some.injEq] at h0
          cases x with
          | false => exact ih _ _ L h.1 (one hx) hr hL
          | true =>
            simp only [Bool.true_and] at h0
            subst h0
            exact ih _ _ L h.2 (one hy) hr hL
        · cases h0
      · rename_i op u v b r
        have h0 := hl _ List.mem_cons_self
        have hr : CRel ρ r := fun p hp => hl p (List.mem_cons_of_mem _ hp)
        split at h
        · rename_i l ha
          obtain ⟨ds, hm, hok⟩ := altsD_ok ha h0
          have hL' := addAll_ok hok hL
          have h1 := List.all_eq_true.1 h ds hm
          simp only [contra_ok hL', Bool.false_or] at h1
          exact ih _ _ _ h1 ht hr hL'
        · exact ih _ _ L h ht hr hL
      · rename_i p r _ _
        exact ih _ _ L h ht (fun p hp => hl p (List.mem_cons_of_mem _ hp)) hL
      · cases h
def dead (cs : Cs) : Bool := refute 2000 cs [] []
theorem dead_ok {ρ : Env} {cs : Cs} (h : dead cs = true) : Dead ρ cs := fun _ _ hc => refute_ok 2000 cs [] [] h hc (fun _ hp => by cases hp) (fun _ he => by cases he)

-- BY A RUN
/-- Every end answers a truth value that is this condition. -/
def leafB (T : BT) : Leaf → Bool
  | .ret (.bool (.lit b)) _ _ cs => dead ((T, !b) :: cs)
  | .ret (.bool t) _ _ cs => dead ((T, true) :: (t, false) :: cs) && dead ((T, false) :: (t, true) :: cs)
  | .ret _ _ _ cs => dead cs
  | .pause S => dead S.cs
  | .stop cs => dead cs
theorem calls_bool {P : Program} (hc : NoCount P) {E : Exts} (hE : ExtOk P E) {L : Specs} (hL : ∀ p ∈ L, SpecOk P p.1 p.2) (hm : P.follows .mixedOrders = true) {n : Nat} {f : FuncId} {fn : Func} {c : Code} {args : List AVal} {xs : List Value} {cs : Cs} {ρ : Env} {w : World} {T : BT} {b : Bool}
    (hf : P.funcs[f]? = some fn) (hb : fn.body = some c) (hrun : (run P E (spOf L) n false f (entry fn c args .leaf 0 cs)).map (·.all (leafB T)) = some true) (hx : AVal.denL ρ args = some xs) (hN : ∀ i, ρ.N i = none) (hcs : CRel ρ cs) (hT : T.den ρ = some b) (hTT : ∀ i, ρ.T i = none := by exact fun _ => rfl) :
    Calls P f xs.toArray w (fun e w' => e = .returned (.bool b) ∧ Framed w w') := by
  obtain ⟨ls, hls, hall⟩ := Option.map_eq_some_iff.1 hrun
  refine (run_calls (β := .plain w) hc hE (spOf_ok hL) hm hf hb hls hx (HRel.start w ρ hN hTT) hcs (R := fun v w' => v = .bool b ∧ Framed w w') (fun l hl => ?_)).mono fun e w' ⟨v, he, hv, hfr⟩ => ⟨by rw [he, hv], hfr⟩
  have h1 := List.all_eq_true.1 hall l hl
  cases l with
  | stop cs' => exact dead_ok h1
  | pause S => exact fun ρ' a' w' hle hr => (dead_ok (ρ := ρ) h1 ρ' hle hr.c).elim
  | ret v H nl cs' =>
    intro ρ' w' x hle hxd hr hc'
    refine ⟨?_, Framed.of hr⟩
    unfold leafB at h1
    split at h1
    · rename_i b' _ _ cs'' heq
      cases heq
      have := den_litb hxd
      subst this
      cases hbb : (b' == b) with
      | true => simp at hbb; rw [hbb]
      | false =>
        have hb' : b = !b' := by cases b <;> cases b' <;> simp_all
        exact (dead_ok (ρ := ρ') h1 ρ' (Env.Le.refl ρ') (hc'.cons (by rw [BT.den_mono hle hT, hb']))).elim
    · rename_i t _ _ cs'' _ heq
      cases heq
      obtain ⟨b', rfl, hb'⟩ := den_bool hxd
      have hT' := BT.den_mono hle hT
      simp only [Bool.and_eq_true] at h1
      cases b <;> cases b' <;> first
        | rfl
        | exact (dead_ok (ρ := ρ') h1.1 ρ' (Env.Le.refl ρ') ((hc'.cons hb').cons hT')).elim
        | exact (dead_ok (ρ := ρ') h1.2 ρ' (Env.Le.refl ρ') ((hc'.cons hb').cons hT')).elim
    · rename_i heq
      cases heq
      exact (dead_ok (ρ := ρ) h1 ρ' hle hc').elim
    · rename_i heq; cases heq
    · rename_i heq; cases heq

end Go.Vm
end

/-
  A machine for abstract states over the model (part 19): what is known of functions with any results, by a run.
-/
section
namespace Go.Vm

/-- Every end is one of these. -/
def leafA (alts : List (AVal × Cs)) : Leaf → Bool
  | .ret v _ _ cs => alts.any (fun p => AVal.beq v p.1 && p.2.all fun q => dead ((q.1, !q.2) :: cs)) || dead cs
  | .pause S => dead S.cs
  | .stop cs => dead cs
theorem calls_alts {P : Program} (hc : NoCount P) {E : Exts} (hE : ExtOk P E) {L : Specs} (hL : ∀ p ∈ L, SpecOk P p.1 p.2) (hm : P.follows .mixedOrders = true) {n : Nat} {f : FuncId} {fn : Func} {c : Code} {args : List AVal} {xs : List Value} {cs : Cs} {ρ : Env} {w : World} {alts : List (AVal × Cs)}
    (hf : P.funcs[f]? = some fn) (hb : fn.body = some c) (hrun : (run P E (spOf L) n false f (entry fn c args .leaf 0 cs)).map (·.all (leafA alts)) = some true) (hx : AVal.denL ρ args = some xs) (hN : ∀ i, ρ.N i = none) (hcs : CRel ρ cs)
    (hA : ∀ u ∈ alts, (u.1.den ρ).isSome = true ∧ ∀ q ∈ u.2, (q.1.den ρ).isSome = true) (hTT : ∀ i, ρ.T i = none := by exact fun _ => rfl) :
    Calls P f xs.toArray w (fun e w' => ∃ v, e = .returned v ∧ Framed w w' ∧ ∃ u ∈ alts, u.1.den ρ = some v ∧ CRel ρ u.2) := by
  obtain ⟨ls, hls, hall⟩ := Option.map_eq_some_iff.1 hrun
  refine (run_calls (β := .plain w) hc hE (spOf_ok hL) hm hf hb hls hx (HRel.start w ρ hN hTT) hcs (R := fun v w' => Framed w w' ∧ ∃ u ∈ alts, u.1.den ρ = some v ∧ CRel ρ u.2) (fun l hl => ?_)).mono fun e w' ⟨v, he, hfr, hu⟩ => ⟨v, he, hfr, hu⟩
  have h1 := List.all_eq_true.1 hall l hl
  cases l with
  | stop cs' => exact dead_ok h1
  | pause S => exact fun ρ' a' w' hle hr => (dead_ok (ρ := ρ) h1 ρ' hle hr.c).elim
  | ret v H nl cs' =>
    intro ρ' w' x hle hxd hr hc'
    refine ⟨Framed.of hr, ?_⟩
    simp only [leafA, Bool.or_eq_true] at h1
    rcases h1 with h1 | h1
    · obtain ⟨p, hp, hb⟩ := List.any_eq_true.1 h1
      simp only [Bool.and_eq_true] at hb
      obtain ⟨hs, hq⟩ := hA p hp
      have := AVal.beq_eq _ _ hb.1
      subst this
      obtain ⟨y, hy⟩ := Option.isSome_iff_exists.1 hs
      have := AVal.den_mono hle _ hy
      rw [hxd] at this; cases this
      refine ⟨p, hp, hy, fun q hqm => ?_⟩
      obtain ⟨b, hbq⟩ := Option.isSome_iff_exists.1 (hq q hqm)
      cases hbb : (b == q.2) with
      | true => simp at hbb; rw [hbq, hbb]
      | false =>
        have hb' : b = !q.2 := by cases b <;> cases hq2 : q.2 <;> simp_all
        have hdq := List.all_eq_true.1 hb.2 q hqm
        exact (dead_ok (ρ := ρ') hdq ρ' (Env.Le.refl ρ') (hc'.cons (by rw [BT.den_mono hle hbq, hb']))).elim
    · exact (dead_ok (ρ := ρ) h1 ρ' hle hc').elim

/-- An answer that hangs on nothing. -/
theorem spec_of_alts {P : Program} (hc : NoCount P) {E : Exts} (hE : ExtOk P E) {L : Specs} (hL : ∀ p ∈ L, SpecOk P p.1 p.2) (hm : P.follows .mixedOrders = true) {n : Nat} {f : FuncId} {fn : Func} {c : Code} {args : List AVal} {alts : List (AVal × Cs)} {F : SpecF}
    (hf : P.funcs[f]? = some fn) (hb : fn.body = some c) (hrun : (run P E (spOf L) n false f (entry fn c args .leaf 0 [])).map (·.all (leafA alts)) = some true)
    (hF : ∀ l al, F l = some al → l = args ∧ al = alts) (hA : ∀ ρ : Env, ∀ u ∈ alts, (u.1.den ρ).isSome = true ∧ ∀ q ∈ u.2, (q.1.den ρ).isSome = true)
    (hI : ∀ (ρ ρ' : Env), ρ'.I = ρ.I → ρ'.B = ρ.B → ρ'.S = ρ.S → ρ'.V = ρ.V → AVal.denL ρ' args = AVal.denL ρ args ∧ ∀ u ∈ alts, u.1.den ρ' = u.1.den ρ ∧ ∀ q ∈ u.2, q.1.den ρ' = q.1.den ρ) : SpecOk P f F := by
  intro l al ρ w xs h hx
  obtain ⟨rfl, rfl⟩ := hF l al h
  obtain ⟨h1, h2⟩ := hI { ρ with N := fun _ => none, T := fun _ => none } ρ rfl rfl rfl rfl
  rw [h1] at hx
  refine (calls_alts (w := w) hc hE hL hm hf hb hrun hx (fun _ => rfl) (fun _ hp => by cases hp) (hA _)).mono fun e w' ⟨v, he, hfr, u, hu, hd, hcr⟩ => ⟨v, he, hfr, u, hu, ?_, fun q hq => ?_⟩
  · rw [(h2 u hu).1]; exact hd
  · rw [(h2 u hu).2 q hq]; exact hcr q hq

end Go.Vm
end
