/-
  A machine for abstract states over the model (part 21): what is known of functions, with memory; rows that came in.
-/
import Derived.Test.YtighjgmgpphohaaVm20
import Derived.Laws.BitsLemmas
import Derived.Laws.Bits64
namespace Go.Vm

abbrev SpG := List AVal → Heap → Nat → Cs → Option (List Leaf)
def SpGOk (P : Program) (β : Base) (g : FuncId) (F : SpG) : Prop := ∀ args H nl cs ls ρ w xs, F args H nl cs = some ls → AVal.denL ρ args = some xs → HRel β ρ H nl w → CRel ρ cs →
  Calls P g xs.toArray w (fun e w' => ∃ v, e = .returned v ∧ ∃ u H' nl' cs' ρ', Leaf.ret u H' nl' cs' ∈ ls ∧ ρ.Le ρ' ∧ u.den ρ' = some v ∧ HRel β ρ' H' nl' w' ∧ CRel ρ' cs')
def spL (L : List (FuncId × SpG)) : CallF := fun g args H nl cs => match lk L g with
  | some F => F args H nl cs
  | none => none
theorem spL_ok {P : Program} {β : Base} {L : List (FuncId × SpG)} (h : ∀ p ∈ L, SpGOk P β p.1 p.2) : CallOk P β (spL L) := by
  intro g args H nl cs ls ρ w xs hr hx hh hc _
  unfold spL at hr
  split at hr
  · rename_i F hF
    exact h _ (lk_mem hF) args H nl cs ls ρ w xs hr hx hh hc
  · cases hr
/-- What answers out of its arguments alone. -/
def spA (F : SpecF) : SpG := fun args H nl cs => (F args).map fun alts => alts.map fun u => Leaf.ret u.1 H nl (u.2 ++ cs)
theorem spA_ok {P : Program} {β : Base} {g : FuncId} {F : SpecF} (h : SpecOk P g F) : SpGOk P β g (spA F) := by
  intro args H nl cs ls ρ w xs hr hx hh hc
  obtain ⟨alts, ha, rfl⟩ := Option.map_eq_some_iff.1 hr
  refine (h args alts ρ w xs ha hx).mono fun e w' ⟨v, hv, hf, u, hu, hd, hcu⟩ => ⟨v, hv, u.1, H, nl, u.2 ++ cs, ρ, List.mem_map.2 ⟨u, hu, rfl⟩, Env.Le.refl ρ, hd, hh.framed hf, fun q hq => ?_⟩
  rcases List.mem_append.1 hq with hq | hq
  · exact hcu q hq
  · exact hc q hq
/-- A value, and memory as it was. -/
theorem spV_ok {P : Program} {β : Base} {g : FuncId} {xs : List Value} {ρ : Env} {w : World} {H : Heap} {nl : Nat} {cs : Cs} {u : AVal} {x : Value}
    (h : Calls P g xs.toArray w (fun e w' => e = .returned x ∧ Framed w w')) (hu : u.den ρ = some x) (hh : HRel β ρ H nl w) (hc : CRel ρ cs) :
    Calls P g xs.toArray w (fun e w' => ∃ v, e = .returned v ∧ ∃ u' H' nl' cs' ρ', Leaf.ret u' H' nl' cs' ∈ [Leaf.ret u H nl cs] ∧ ρ.Le ρ' ∧ u'.den ρ' = some v ∧ HRel β ρ' H' nl' w' ∧ CRel ρ' cs') :=
  h.mono fun _ _ ⟨he, hf⟩ => ⟨x, he, u, H, nl, cs, ρ, List.mem_cons_self, Env.Le.refl ρ, hu, hh.framed hf, hc⟩

/-- No argument, true. -/
def spTrue : SpG := fun args H nl cs => match args with
  | [] => some [.ret (.bool (.lit true)) H nl cs]
  | _ => none
theorem spTrue_ok {P : Program} {β : Base} {g : FuncId} (h : ∀ w, Calls P g #[] w (fun e w' => e = .returned (.bool true) ∧ Framed w w')) : SpGOk P β g spTrue := by
  intro args H nl cs ls ρ w xs hr hx hh hc
  unfold spTrue at hr
  split at hr
  · cases hr; cases hx
    exact spV_ok (h w) rfl hh hc
  · cases hr
/-- One number, two numbers: a number under a function's name. -/
def spI1 (k : Nat) : SpG := fun args H nl cs => match args with
  | [.int .i64 a] => some [.ret (.int .i64 (.fn k a (.lit 0))) H nl cs]
  | _ => none
def spI2 (k : Nat) : SpG := fun args H nl cs => match args with
  | [.int .i64 a, .int .i64 b] => some [.ret (.int .i64 (.fn k a b)) H nl cs]
  | _ => none
theorem spI1_ok {P : Program} {β : Base} {g : FuncId} {k : Nat} {f : Int → Int} (h : ∀ w x, Calls P g #[.int .i64 x] w (fun e w' => e = .returned (.int .i64 (f x)) ∧ Framed w w')) (hG : ∀ I B S V F, β.G I B S V F → ∀ x, F k x 0 = f x) : SpGOk P β g (spI1 k) := by
  intro args H nl cs ls ρ w xs hr hx hh hc
  unfold spI1 at hr
  split at hr
  · cases hr
    simp only [AVal.denL, AVal.den] at hx
    rename_i a
    cases ha : a.den ρ with
    | none => rw [ha] at hx; cases hx
    | some y =>
      rw [ha] at hx; cases hx
      exact spV_ok (h w y) (by simp only [AVal.den, IT.den, ha, hG _ _ _ _ _ hh.g]; rfl) hh hc
  · cases hr
theorem spI2_ok {P : Program} {β : Base} {g : FuncId} {k : Nat} {f : Int → Int → Int} (h : ∀ w x y, Calls P g #[.int .i64 x, .int .i64 y] w (fun e w' => e = .returned (.int .i64 (f x y)) ∧ Framed w w')) (hG : ∀ I B S V F, β.G I B S V F → F k = f) : SpGOk P β g (spI2 k) := by
  intro args H nl cs ls ρ w xs hr hx hh hc
  unfold spI2 at hr
  split at hr
  · cases hr
    simp only [AVal.denL, AVal.den] at hx
    rename_i a b
    cases ha : a.den ρ with
    | none => rw [ha] at hx; cases hx
    | some y =>
      cases hb : b.den ρ with
      | none => rw [ha, hb] at hx; cases hx
      | some z =>
        rw [ha, hb] at hx; cases hx
        exact spV_ok (h w y z) (by simp only [AVal.den, IT.den, ha, hb, hG _ _ _ _ _ hh.g]; rfl) hh hc
  · cases hr

-- ROWS THAT CAME IN
structure RowAt (w : World) (b o : Nat) (ks : List IntKind) (m : Nat) (v : Value) : Prop where
  row : ∃ c fr el xs, w.heap[b]? = some (.cells c el fr) ∧ aggCells v = some xs ∧ o ≤ c.size ∧ xs <+: c.toList.drop o ∧ Typed ks m xs
theorem RowAt.framed {w w' : World} {b o : Nat} {ks : List IntKind} {m : Nat} {v : Value} (h : RowAt w b o ks m v) (f : Framed w w') : RowAt w' b o ks m v := by
  obtain ⟨c, fr, el, xs, h1, h2⟩ := h.row
  exact ⟨c, fr, el, xs, by rw [f.frame b (Array.getElem?_eq_some_iff.1 h1).1]; exact h1, h2⟩
theorem RowAt.rel {w : World} {b o : Nat} {ks : List IntKind} {m : Nat} {v : Value} (h : RowAt w b o ks m v) {ρ : Env} {a : Nat} {n off : IT} (hv : ρ.V a = v) (hn : n.den ρ = some (m : Int)) (ho : off.den ρ = some (o : Int)) (el : TypeId) :
    ∃ ob, w.heap[b]? = some ob ∧ (ABlk.arr (.var a) ks el n off none).rel ρ false ob := by
  obtain ⟨c, fr, el', xs, h1, h2, h3, h4, h5⟩ := h.row
  exact ⟨_, h1, xs, c, fr, el', m, o, rfl, (fun h => by cases h), by simp only [AT.den, hv, h2], ho, ⟨h3, h4⟩, hn, h5, trivial, (fun h => by cases h)⟩
/-- One row, whose block is named 0, and nothing else. -/
theorem HRel.row {w : World} {ρ : Env} {b o : Nat} {ks : List IntKind} {m : Nat} {a : Nat} {n off : IT} {el : TypeId} {G : (Nat → Int) → (Nat → Bool) → (Nat → ByteArray) → (Nat → Value) → (Nat → Int → Int → Int) → Prop}
    (h : RowAt w b o ks m (ρ.V a)) (hn : n.den ρ = some (m : Int)) (ho : off.den ρ = some (o : Int)) (hN : ∀ i, ρ.N i = if i = 0 then some b else none) (hG : G ρ.I ρ.B ρ.S ρ.V ρ.F) :
    HRel ⟨w, [], G⟩ ρ (ofP [(0, ⟨.arr (.var a) ks el n off none, false⟩)]) 1 w := by
  have one : ∀ l k, (ofP [(0, (⟨.arr (.var a) ks el n off none, false⟩ : HB))]).get l = some k → l = 0 ∧ k = ⟨.arr (.var a) ks el n off none, false⟩ := fun l k hl => by
    have := ofP_mem hl
    rcases List.mem_cons.1 this with e | h
    · cases e; exact ⟨rfl, rfl⟩
    · cases h
  refine ⟨fun l k hl => ?_, fun l l' k k' hl _ hr _ => ?_, fun l k b' hl hr => ?_, fun i hi => ?_, (fun l hl => by cases hl), Nat.le_refl _, fun _ _ _ => rfl, rfl, rfl, rfl, hG⟩
  · obtain ⟨rfl, rfl⟩ := one l k hl
    obtain ⟨ob, h1, h2⟩ := h.rel rfl hn ho el
    exact ⟨b, ob, by rw [hN]; rfl, h1, h2⟩
  · obtain ⟨_, rfl⟩ := one l k hl; cases hr
  · obtain ⟨_, rfl⟩ := one l k hl; cases hr
  · rw [hN, if_neg (by omega)]

/-- An argument that is a row as it came in: how many. -/
def rowArg (H : Heap) (x : AVal) (a : Nat) (ks : List IntKind) : Option IT :=
  match x with
  | .slice l o n _ => match H.get l with
    | some ⟨.arr (.var a') ks' _ n' o' _, _⟩ => cond (Nat.beq a a' && decide (ks = ks') && IT.beq n n' && IT.beq o o') (some n) none
    | _ => none
  | _ => none
theorem rowArg_ok {β : Base} {ρ : Env} {H : Heap} {nl : Nat} {w : World} {x : AVal} {xv : Value} {a : Nat} {ks : List IntKind} {n : IT} (h : rowArg H x a ks = some n) (hx : x.den ρ = some xv) (hr : HRel β ρ H nl w) :
    ∃ b o m cap : Nat, xv = .slice (some ⟨b, o, none⟩) m cap ∧ n.den ρ = some (m : Int) ∧ RowAt w b o ks m (ρ.V a) := by
  unfold rowArg at h
  split at h
  · rename_i l o n1 c
    split at h
    · rename_i a' ks' e n' o' cp rw hg
      cases hb : (Nat.beq a a' && decide (ks = ks') && IT.beq n1 n' && IT.beq o o') with
      | false => rw [hb] at h; cases h
      | true =>
        rw [hb] at h; cases h
        simp only [Bool.and_eq_true, decide_eq_true_eq] at hb
        obtain ⟨⟨⟨h1, rfl⟩, h2⟩, h3⟩ := hb
        have h1 := Nat.eq_of_beq_eq_true h1
        have h2 := IT.beq_eq h2
        have h3 := IT.beq_eq h3
        subst h1; subst h2; subst h3
        obtain ⟨b, o1, m, cap, rfl, hN, ho, hn, _⟩ := den_slice hx
        obtain ⟨b', ob, hb', hob, xs, c1, fr, el, m', st, rfl, _, hd, hst, ⟨h4, h5⟩, hn', hty, _, _⟩ := hr.blk l _ hg
        rw [hN] at hb'; cases hb'
        have e1 : m' = m := by have := hn'.symm.trans hn; exact Int.ofNat.inj (Option.some.inj this)
        have e2 : st = o1 := by have := hst.symm.trans ho; exact Int.ofNat.inj (Option.some.inj this)
        subst e1; subst e2
        exact ⟨b, st, m', cap, rfl, hn, c1, fr, el, xs, hob, hd, h4, h5, hty⟩
    · cases h
  · cases h

-- CONDITIONS, ONE BY ONE
theorem CRel_cons {ρ : Env} {t : BT} {b : Bool} {cs : Cs} : CRel ρ ((t, b) :: cs) ↔ t.den ρ = some b ∧ CRel ρ cs :=
  ⟨fun h => ⟨h _ List.mem_cons_self, fun p hp => h p (List.mem_cons_of_mem _ hp)⟩, fun h => h.2.cons h.1⟩
theorem CRel_nil {ρ : Env} : CRel ρ [] ↔ True := ⟨fun _ => trivial, fun _ _ h => by cases h⟩

end Go.Vm
