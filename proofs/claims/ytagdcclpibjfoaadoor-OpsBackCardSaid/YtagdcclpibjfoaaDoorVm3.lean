/-
  A machine for abstract states over the model (part 3): blocks, heaps, and what is done to them.
-/
import Derived.Test.YtagdcclpibjfoaaDoorVm2
import Derived.Laws.Rows
import Derived.Laws.Cells
import Derived.Laws.World
namespace Go.Vm

/-- The cells of a row whose length is no number: those that are known under a name, these, those and these behind them. -/
inductive AT where
  | var (a : Nat)
  | lits (vs : List AVal)
  | snoc (t : AT) (vs : List AVal)
def aggCells : Value → Option (List Value)
  | .agg c => some c.toList
  | _ => none
def AT.den (ρ : Env) : AT → Option (List Value)
  | .var a => aggCells (ρ.V a)
  | .lits vs => AVal.denL ρ vs
  | .snoc t vs => match t.den ρ, AVal.denL ρ vs with
    | some x, some y => some (x ++ y)
    | _, _ => none
theorem AT.den_mono {ρ ρ' : Env} (h : ρ.Le ρ') : ∀ {t : AT} {xs : List Value}, t.den ρ = some xs → t.den ρ' = some xs
  | .var a, xs, e => by simp only [AT.den, h.v] at e ⊢; exact e
  | .lits vs, xs, e => by simp only [AT.den] at e ⊢; exact AVal.denL_mono h _ e
  | .snoc t vs, xs, e => by
    simp only [AT.den] at e ⊢
    split at e
    · rename_i x y hx hy
      rw [AT.den_mono h hx, AVal.denL_mono h _ hy]; exact e
    · cases e
/-- Row by row, these kinds of numbers. -/
def Typed (ks : List IntKind) (m : Nat) (xs : List Value) : Prop := xs.length = m * ks.length ∧ ∀ i j k, i < m → ks[j]? = some k → ∃ z, xs[i * ks.length + j]? = some (.int k z)

inductive ABlk where
  /-- so many elements, of cells of these kinds; all in all room for so many -/
  | arr (t : AT) (ks : List IntKind) (elem : TypeId) (n o : IT) (cp : Option IT)
  /-- cells from the beginning; behind them more, if tail: all in all (number of the tail's name) times so many -/
  | cells (vals : List AVal) (elem : TypeId) (tail : Option (Nat × Nat))
  | map (es : List (AVal × AVal × Nat)) (clock : Nat)

structure HB where
  k : ABlk
  rw : Bool

def esDen (ρ : Env) : List (AVal × AVal × Nat) → Option (List MapEntry)
  | [] => some []
  | (a, b, n) :: r => match a.den ρ, b.den ρ, esDen ρ r with
    | some x, some y, some l => some (⟨x, y, n⟩ :: l)
    | _, _, _ => none

def tailOk (ρ : Env) (vals : Nat) (size : Nat) : Option (Nat × Nat) → Prop
  | none => size = vals
  | some (i, sz) => vals ≤ size ∧ ∃ n, ρ.N i = some n ∧ size = n * sz

/-- No cell of the row is frozen. -/
def FrOk (fr : Nat × Nat) (n : Nat) : Prop := fr.2 ≤ fr.1 ∨ n ≤ fr.1

def roomOk (ρ : Env) (sz size : Nat) : Option IT → Prop
  | none => True
  | some c => ∃ n : Nat, c.den ρ = some (n : Int) ∧ size = n * sz
theorem roomOk_mono {ρ ρ' : Env} (h : ρ.Le ρ') {sz s : Nat} {t : Option IT} (e : roomOk ρ sz s t) : roomOk ρ' sz s t := by
  cases t with
  | none => exact e
  | some p => obtain ⟨n, hn, hs⟩ := e; exact ⟨n, IT.den_mono h hn, hs⟩

def ABlk.rel (ρ : Env) : ABlk → Bool → Obj → Prop
  | .arr t ks elem n off cp, rw, o => ∃ xs c fr el, ∃ m b : Nat, o = .cells c el fr ∧ (rw = true → el = elem) ∧ t.den ρ = some xs ∧ off.den ρ = some (b : Int) ∧ (b ≤ c.size ∧ xs <+: c.toList.drop b) ∧ n.den ρ = some (m : Int) ∧ Typed ks m xs ∧ roomOk ρ ks.length (c.size - b) cp ∧ (rw = true → FrOk fr c.size)
  | .cells vals elem tail, rw, o => ∃ xs c fr, o = .cells c elem fr ∧ AVal.denL ρ vals = some xs ∧ xs <+: c.toList ∧ tailOk ρ vals.length c.size tail ∧ (rw = true → FrOk fr c.size)
  | .map es clock, _, o => ∃ l, o = .map l.toArray clock ∧ esDen ρ es = some l

theorem esDen_mono {ρ ρ' : Env} (h : ρ.Le ρ') : ∀ (l : List (AVal × AVal × Nat)) {xs : List MapEntry}, esDen ρ l = some xs → esDen ρ' l = some xs
  | [], xs, e => e
  | (a, b, n) :: r, xs, e => by
    simp only [esDen] at e ⊢
    split at e
    · rename_i x y l hx hy hl
      rw [AVal.den_mono h a hx, AVal.den_mono h b hy, esDen_mono h r hl]; exact e
    · cases e
theorem tailOk_mono {ρ ρ' : Env} (h : ρ.Le ρ') {v s : Nat} {t : Option (Nat × Nat)} (e : tailOk ρ v s t) : tailOk ρ' v s t := by
  cases t with
  | none => exact e
  | some p => obtain ⟨a, n, hn, hs⟩ := e; exact ⟨a, n, h.n _ _ hn, hs⟩
theorem ABlk.rel_mono {ρ ρ' : Env} (h : ρ.Le ρ') {k : ABlk} {rw : Bool} {o : Obj} (e : k.rel ρ rw o) : k.rel ρ' rw o := by
  cases k with
  | arr t ks elem n off cp =>
    obtain ⟨xs, c, fr, el, m, b, ho, hel, hd, hb, hp, hn, ht, hr, hf⟩ := e
    exact ⟨xs, c, fr, el, m, b, ho, hel, AT.den_mono h hd, IT.den_mono h hb, hp, IT.den_mono h hn, ht, roomOk_mono h hr, hf⟩
  | cells vals elem tail =>
    obtain ⟨xs, c, fr, ho, hd, hp, ht, hf⟩ := e
    exact ⟨xs, c, fr, ho, AVal.denL_mono h _ hd, hp, tailOk_mono h ht, hf⟩
  | map es clock =>
    obtain ⟨l, ho, hd⟩ := e
    exact ⟨l, ho, esDen_mono h _ hd⟩

abbrev Heap := Tr HB

/-- What a walk goes by: the world ahead of it, what may be written of that. -/
structure Base where
  w0 : World
  own : List Nat
  /-- what is known of the names -/
  G : (Nat → Int) → (Nat → Bool) → (Nat → ByteArray) → (Nat → Value) → (Nat → Int → Int → Int) → Prop
def Base.plain (w : World) : Base := ⟨w, [], fun _ _ _ _ _ => True⟩

structure HRel (β : Base) (ρ : Env) (H : Heap) (nl : Nat) (w : World) : Prop where
  blk : ∀ l k, H.get l = some k → ∃ b o, ρ.N l = some b ∧ w.heap[b]? = some o ∧ k.k.rel ρ k.rw o
  inj : ∀ l l' k k', H.get l = some k → H.get l' = some k' → k.rw = true → ρ.N l = ρ.N l' → l = l'
  own : ∀ l k b, H.get l = some k → k.rw = true → ρ.N l = some b → β.w0.heap.size ≤ b ∨ ∃ l' ∈ β.own, ρ.N l' = some b
  fresh : ∀ i, nl ≤ i → ρ.N i = none
  ownN : ∀ l ∈ β.own, l < nl
  size : β.w0.heap.size ≤ w.heap.size
  frame : ∀ b, b < β.w0.heap.size → (∀ l ∈ β.own, ρ.N l ≠ some b) → w.heap[b]? = β.w0.heap[b]?
  tape : w.tape = β.w0.tape
  os : w.os = β.w0.os
  out : w.output = β.w0.output
  g : β.G ρ.I ρ.B ρ.S ρ.V ρ.F

section
variable {β : Base} {ρ : Env} {H : Heap} {nl : Nat} {w : World}

theorem HRel.drew (h : HRel β ρ H nl w) : HRel β ρ H nl { w with drawn := w.drawn + 1 } :=
  ⟨h.blk, h.inj, h.own, h.fresh, h.ownN, h.size, h.frame, h.tape, h.os, h.out, h.g⟩

theorem HRel.lt (h : HRel β ρ H nl w) {l : Nat} {k : HB} {b : Nat} (hl : H.get l = some k) (hb : ρ.N l = some b) : b < w.heap.size := by
  obtain ⟨b', o, hb', ho, _⟩ := h.blk l k hl
  rw [hb] at hb'; cases hb'
  exact (Array.getElem?_eq_some_iff.1 ho).1

/-- The numbers' names grow. -/
theorem HRel.num (h : HRel β ρ H nl w) (n : Nat) : HRel β (ρ.put nl n) H (nl + 1) w := by
  have hle : ρ.Le (ρ.put nl n) := Env.le_put (h.fresh nl (Nat.le_refl _))
  have hN : ∀ l, l < nl → (ρ.put nl n).N l = ρ.N l := fun l hl => Env.put_other ρ n (by omega)
  have hlt : ∀ l k, H.get l = some k → l < nl := fun l k hl => by
    obtain ⟨b, o, hb, _⟩ := h.blk l k hl
    rcases Nat.lt_or_ge l nl with h1 | h1
    · exact h1
    · rw [h.fresh l h1] at hb; cases hb
  refine ⟨fun l k hl => ?_, fun l l' k k' hl hl' hr he => ?_, fun l k b hl hr hb => ?_, fun i hi => ?_, fun l hl => Nat.lt_succ_of_lt (h.ownN l hl), h.size, fun b hb hn => ?_, h.tape, h.os, h.out, h.g⟩
  · obtain ⟨b, o, hb, ho, hk⟩ := h.blk l k hl
    exact ⟨b, o, hle.n _ _ hb, ho, ABlk.rel_mono hle hk⟩
  · rw [hN l (hlt l k hl), hN l' (hlt l' k' hl')] at he
    exact h.inj l l' k k' hl hl' hr he
  · rw [hN l (hlt l k hl)] at hb
    rcases h.own l k b hl hr hb with h1 | ⟨l', hl', hb'⟩
    · exact .inl h1
    · exact .inr ⟨l', hl', hle.n _ _ hb'⟩
  · rw [Env.put_other ρ n (by omega)]; exact h.fresh i (by omega)
  · exact h.frame b hb fun l hl e => hn l hl (hle.n _ _ e)

/-- A new block. -/
theorem HRel.new (h : HRel β ρ H nl w) (o : Obj) (k : ABlk) (rw : Bool) (hk : k.rel ρ rw o) :
    HRel β (ρ.put nl w.heap.size) (H.set nl ⟨k, rw⟩) (nl + 1) { w with heap := w.heap.push o } := by
  have hle : ρ.Le (ρ.put nl w.heap.size) := Env.le_put (h.fresh nl (Nat.le_refl _))
  have hn := h.num w.heap.size
  have hold : ∀ b, b < w.heap.size → (w.heap.push o)[b]? = w.heap[b]? := fun b hb => by rw [Array.getElem?_push]; simp [Nat.ne_of_lt hb]
  have hlt : ∀ l k, H.get l = some k → l < nl := fun l k hl => by
    obtain ⟨b, o, hb, _⟩ := h.blk l k hl
    rcases Nat.lt_or_ge l nl with h1 | h1
    · exact h1
    · rw [h.fresh l h1] at hb; cases hb
  refine ⟨fun l k' hl => ?_, fun l l' k1 k2 hl hl' hr he => ?_, fun l k' b hl hr hb => ?_, hn.fresh, hn.ownN, ?_, fun b hb hf => ?_, h.tape, h.os, h.out, h.g⟩
  · rcases Tr.get_set hl with ⟨rfl, rfl⟩ | ⟨hne, hl⟩
    · exact ⟨w.heap.size, o, Env.put_same .., by simp, ABlk.rel_mono hle hk⟩
    · obtain ⟨b, o', hb, ho, hk'⟩ := hn.blk l k' hl
      have hb' : ρ.N l = some b := by rw [← Env.put_other ρ w.heap.size hne]; exact hb
      exact ⟨b, o', hb, by show (w.heap.push o)[b]? = _; rw [hold b (h.lt hl hb')]; exact ho, hk'⟩
  · rcases Tr.get_set hl with ⟨e1, e2⟩ | ⟨hne, g1⟩
    · rcases Tr.get_set hl' with ⟨e3, e4⟩ | ⟨hne', g2⟩
      · rw [e1, e3]
      · obtain ⟨b, o', hb, _⟩ := h.blk l' k2 g2
        rw [e1, Env.put_same, Env.put_other ρ _ hne', hb] at he
        have := h.lt g2 hb
        injection he with he; omega
    · rcases Tr.get_set hl' with ⟨e3, e4⟩ | ⟨hne', g2⟩
      · obtain ⟨b, o', hb, _⟩ := h.blk l k1 g1
        rw [e3, Env.put_same, Env.put_other ρ _ hne, hb] at he
        have := h.lt g1 hb
        injection he with he; omega
      · exact hn.inj l l' k1 k2 g1 g2 hr he
  · rcases Tr.get_set hl with ⟨rfl, rfl⟩ | ⟨hne, hl⟩
    · rw [Env.put_same] at hb; cases hb; exact .inl h.size
    · exact hn.own l k' b hl hr hb
  · show β.w0.heap.size ≤ (w.heap.push o).size
    have := h.size; simp; omega
  · show (w.heap.push o)[b]? = _
    rw [hold b (by have := h.size; omega)]
    exact hn.frame b hb hf

/-- A block is forgotten. -/
theorem HRel.del (h : HRel β ρ H nl w) (l : Nat) : HRel β ρ (H.del l) nl w :=
  ⟨fun l k hl => h.blk l k (Tr.get_del hl).2, fun l l' k k' hl hl' => h.inj l l' k k' (Tr.get_del hl).2 (Tr.get_del hl').2, fun l k b hl => h.own l k b (Tr.get_del hl).2,
    h.fresh, h.ownN, h.size, h.frame, h.tape, h.os, h.out, h.g⟩

/-- A block that may be written turns into another one. -/
theorem HRel.write (h : HRel β ρ H nl w) {l b : Nat} {k k' : HB} (hl : H.get l = some k) (hrw : k.rw = true) (hb : ρ.N l = some b) {w' : World} {o' : Obj}
    (hk' : k'.k.rel ρ k'.rw o') (hw : w'.heap = w.heap.setIfInBounds b o') (ht : w'.tape = w.tape) (hos : w'.os = w.os) (hout : w'.output = w.output) :
    HRel β ρ (H.set l k') nl w' := by
  have hblt := h.lt hl hb
  have hsame : w'.heap[b]? = some o' := by rw [hw]; simp [hblt]
  have hother : ∀ c, c ≠ b → w'.heap[c]? = w.heap[c]? := fun c hc => by rw [hw]; simp [hc.symm]
  refine ⟨fun l1 k1 h1 => ?_, fun l1 l2 k1 k2 h1 h2 hr he => ?_, fun l1 k1 b1 h1 hr hb1 => ?_, h.fresh, h.ownN, ?_, fun c hc hf => ?_, ht.trans h.tape, hos.trans h.os, hout.trans h.out, h.g⟩
  · rcases Tr.get_set h1 with ⟨rfl, rfl⟩ | ⟨hne, h1⟩
    · exact ⟨b, o', hb, hsame, hk'⟩
    · obtain ⟨c, oc, hc, hoc, hkc⟩ := h.blk l1 k1 h1
      refine ⟨c, oc, hc, ?_, hkc⟩
      rw [hother c]
      · exact hoc
      · intro e; subst e
        exact hne (h.inj l l1 k k1 hl h1 hrw (hb.trans hc.symm)).symm
  · rcases Tr.get_set h1 with ⟨e1, e2⟩ | ⟨hne, g1⟩
    · rcases Tr.get_set h2 with ⟨e3, e4⟩ | ⟨hne2, g2⟩
      · rw [e1, e3]
      · rw [e1]; rw [e1] at he; exact h.inj _ _ _ _ hl g2 hrw he
    · rcases Tr.get_set h2 with ⟨e3, e4⟩ | ⟨hne2, g2⟩
      · rw [e3]; rw [e3] at he; exact (h.inj _ _ _ _ hl g1 hrw he.symm).symm
      · exact h.inj _ _ _ _ g1 g2 hr he
  · rcases Tr.get_set h1 with ⟨rfl, rfl⟩ | ⟨hne, h1⟩
    · exact h.own _ k b1 hl hrw hb1
    · exact h.own l1 k1 b1 h1 hr hb1
  · rw [hw]; simp; exact h.size
  · rw [hother c]
    · exact h.frame c hc hf
    · intro e; subst e
      rcases h.own l k c hl hrw hb with h1 | ⟨l', hl', hb'⟩
      · omega
      · exact hf l' hl' hb'

end

-- THE MODEL'S OWN READS AND WRITES OF CELLS
theorem cell_of (w : World) {b j : Nat} {c : Array Value} {t : TypeId} {fr : Nat × Nat} (hg : w.heap[b]? = some (.cells c t fr)) : w.cell? ⟨b, j, none⟩ = c[j]? :=
  cell_of_row w b j c t fr hg

theorem addr_add (b o n : Nat) : (Addr.mk b o none).add n = ⟨b, o + n, none⟩ := by
  unfold Addr.add
  split
  · rename_i h; subst h; rfl
  · rfl

theorem loadCells_run {P : Program} {w : World} {b o n : Nat} {c : Array Value} {t : TypeId} {fr : Nat × Nat} (hg : w.heap[b]? = some (.cells c t fr)) (hn : o + n ≤ c.size) :
    (loadCells ⟨b, o, none⟩ n).run P w = .ok ((c.toList.drop o).take n).toArray w := by
  have hlen : ((c.toList.drop o).take n).length = n := by simp; omega
  have := run_loadCells_list (P := P) (w := w) ⟨b, o, none⟩ ((c.toList.drop o).take n) (fun j v hj => by
    rw [addr_add, cell_of w hg]
    have hjn : j < n := by
      have := (List.getElem?_eq_some_iff.1 hj).1; omega
    rw [List.getElem?_take_of_lt hjn, List.getElem?_drop] at hj
    simpa using hj)
  rw [hlen] at this
  exact this

/-- A value that fills one cell. -/
def isOne : Value → Bool
  | .agg _ | .tuple _ => false
  | _ => true

theorem setCell_heap (w : World) {b j : Nat} {c : Array Value} {t : TypeId} {fr : Nat × Nat} (v : Value) (hg : w.heap[b]? = some (.cells c t fr)) :
    (w.setCell ⟨b, j, none⟩ v).heap = w.heap.setIfInBounds b (.cells (c.setIfInBounds j v) t fr) := by
  have hb : b < w.heap.size := (Array.getElem?_eq_some_iff.1 hg).1
  have hg' : w.heap[b] = .cells c t fr := (Array.getElem?_eq_some_iff.1 hg).2
  apply Array.ext_getElem?
  intro i
  simp only [World.setCell, Array.getElem?_modify, Array.getElem?_setIfInBounds]
  by_cases hi : b = i
  · subst hi; simp [hb, hg']
  · simp [hi]

theorem run_store_one {P : Program} {w : World} {b j : Nat} {c : Array Value} {t : TypeId} {fr : Nat × Nat} {v : Value} (hg : w.heap[b]? = some (.cells c t fr)) (hj : j < c.size)
    (hv : isOne v = true) (hfr : FrOk fr c.size) : (store ⟨b, j, none⟩ v).run P w = .ok () (w.setCell ⟨b, j, none⟩ v) := by
  have hc : w.cell? ⟨b, j, none⟩ = some c[j] := by rw [cell_of w hg]; simp [hj]
  have hf : w.frozen? ⟨b, j, none⟩ = false := by
    simp only [World.frozen?, hg]
    rw [Bool.eq_false_iff]; simp; unfold FrOk at hfr; omega
  unfold store
  cases v <;> first
    | (simp [isOne] at hv; done)
    | simp [Sem.run, hc, hf]

theorem storeCells_run {P : Program} {b : Nat} {t : TypeId} {fr : Nat × Nat} : ∀ (vs : List Value) (i o : Nat) (w : World) (c : Array Value), FrOk fr c.size →
    w.heap[b]? = some (.cells c t fr) → o + i + vs.length ≤ c.size → (∀ v ∈ vs, isOne v = true) →
    ∃ w' c', (storeCells ⟨b, o, none⟩ vs i).run P w = .ok () w' ∧ w'.heap = w.heap.setIfInBounds b (.cells c' t fr) ∧
      c'.toList = c.toList.take (o + i) ++ vs ++ c.toList.drop (o + i + vs.length) ∧ w'.tape = w.tape ∧ w'.os = w.os ∧ w'.output = w.output := by
  intro vs
  induction vs with
  | nil =>
    intro i o w c _ hg hn hv
    refine ⟨w, c, rfl, ?_, by simp, rfl, rfl, rfl⟩
    have hb : b < w.heap.size := (Array.getElem?_eq_some_iff.1 hg).1
    apply Array.ext_getElem?
    intro j
    rw [Array.getElem?_setIfInBounds]
    by_cases hj : b = j
    · subst hj; simp [hb, (Array.getElem?_eq_some_iff.1 hg).2]
    · simp [hj]
  | cons v r ih =>
    intro i o w c hfr hg hn hv
    simp only [List.length_cons] at hn
    have hb : b < w.heap.size := (Array.getElem?_eq_some_iff.1 hg).1
    have hs := run_store_one (P := P) hg (show o + i < c.size by omega) (hv v (by simp)) hfr
    have hheap := setCell_heap w (j := o + i) v hg
    have hg1 : (w.setCell ⟨b, o + i, none⟩ v).heap[b]? = some (.cells (c.setIfInBounds (o + i) v) t fr) := by rw [hheap]; simp [hb]
    obtain ⟨w', c', hr, hh, hc, ht, hos, hout⟩ := ih (i + 1) o _ _ (by simpa using hfr) hg1 (by simp; omega) (fun x hx => hv x (by simp [hx]))
    refine ⟨w', c', ?_, ?_, ?_, ht, hos, hout⟩
    · simp only [storeCells, addr_add, Sem.run_bind, hs, Result.andThen_ok]
      exact hr
    · rw [hh, hheap]; simp
    · rw [hc]
      have e1 : (c.setIfInBounds (o + i) v).toList = c.toList.set (o + i) v := by simp
      rw [e1, List.set_eq_take_append_cons_drop]
      have hlt : o + i < c.toList.length := by simp; omega
      rw [if_pos hlt]
      have e2 : o + (i + 1) = (List.take (o + i) c.toList).length + 1 := by simp; omega
      rw [e2, List.take_append, List.drop_append]
      simp only [List.append_assoc, List.cons_append, List.length_cons]
      have l0 : (List.take (o + i) c.toList).length = o + i := by simp; omega
      simp only [l0]
      have l1 : List.take (o + i + 1) (List.take (o + i) c.toList) = List.take (o + i) c.toList := by rw [List.take_take]; congr 1; omega
      have l2 : o + i + 1 - (o + i) = 1 := by omega
      have l3 : List.drop (o + i + 1 + r.length) (List.take (o + i) c.toList) = [] := by apply List.drop_eq_nil_of_le; simp; omega
      have l4 : o + i + 1 + r.length - (o + i) = r.length + 1 := by omega
      rw [l1, l2, l3, l4]
      simp only [List.take_succ_cons, List.take_zero, List.nil_append, List.drop_succ_cons, List.drop_drop, List.cons_append]
      congr 3
      congr 1; omega

end Go.Vm
