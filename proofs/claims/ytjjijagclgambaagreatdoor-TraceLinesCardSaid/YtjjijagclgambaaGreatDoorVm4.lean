/-
  A machine for abstract states over the model (part 3): blocks, heaps, and what is done to them.
-/
import Derived.Test.YtjjijagclgambaaGreatDoorVmF
import Derived.Laws.Rows
import Derived.Laws.Cells
import Derived.Laws.World
import Derived.Lib.Strings
section
namespace Go.Vm

/-- The cells of a row whose length is no number: those that are known under a name, these, those and these behind them. -/
inductive AT where
  | var (a : Nat)
  | lits (vs : List AVal)
  | snoc (t : AT) (vs : List AVal)
  /-- a list of numbers, told as one number, of these kinds in turn -/
  | code (ks : List IntKind) (c : IT)
  /-- the bytes of a text -/
  | bts (s : ST)
def rowOf (ks : List IntKind) (l : List Int) : List Value := l.mapIdx fun i z => .int (ks.getD (i % ks.length) .i64) z
def aggCells : Value → Option (List Value)
  | .agg c => some c.toList
  | _ => none
def AT.den (ρ : Env) : AT → Option (List Value)
  | .var a => aggCells (ρ.V a)
  | .lits vs => AVal.denL ρ vs
  | .snoc t vs => match t.den ρ, AVal.denL ρ vs with
    | some x, some y => some (x ++ y)
    | _, _ => none
  | .code ks c => (c.den ρ).map fun x => rowOf ks (decL x)
  | .bts s => some ((s.den ρ).data.toList.map fun b => .int .u8 b.toNat)
theorem AT.den_mono {ρ ρ' : Env} (h : ρ.Le ρ') : ∀ {t : AT} {xs : List Value}, t.den ρ = some xs → t.den ρ' = some xs
  | .var a, xs, e => by simp only [AT.den, h.v] at e ⊢; exact e
  | .lits vs, xs, e => by simp only [AT.den] at e ⊢; exact AVal.denL_mono h _ e
  | .snoc t vs, xs, e => by
    simp only [AT.den] at e ⊢
    split at e
    · rename_i x y hx hy
      rw [AT.den_mono h hx, AVal.denL_mono h _ hy]; exact e
    · cases e
  | .code ks c, xs, e => by
    simp only [AT.den] at e ⊢
    obtain ⟨x, hx, rfl⟩ := Option.map_eq_some_iff.1 e
    rw [IT.den_mono h hx]; rfl
  | .bts s, xs, e => by simp only [AT.den, ST.den_mono h] at e ⊢; exact e
/-- Row by row, these kinds of numbers. -/
def Typed (ks : List IntKind) (m : Nat) (xs : List Value) : Prop := xs.length = m * ks.length ∧ ∀ i j k, i < m → ks[j]? = some k → ∃ z, xs[i * ks.length + j]? = some (.int k z)

def toZ : Value → Int
  | .int _ z => z
  | _ => 0
theorem rowOf_get (ks : List IntKind) (l : List Int) (i : Nat) : (rowOf ks l)[i]? = (l[i]?).map fun z => .int (ks.getD (i % ks.length) .i64) z := by
  simp [rowOf, List.getElem?_mapIdx]
theorem rowOf_length (ks : List IntKind) (l : List Int) : (rowOf ks l).length = l.length := by simp [rowOf]
theorem rowOf_toZ (ks : List IntKind) (l : List Int) : (rowOf ks l).map toZ = l := by
  apply List.ext_getElem?
  intro i
  rw [List.getElem?_map, rowOf_get]
  cases l[i]? <;> rfl
theorem Typed.rowOf {ks : List IntKind} {m : Nat} {xs : List Value} (h : Typed ks m xs) : xs = Go.Vm.rowOf ks (xs.map toZ) := by
  apply List.ext_getElem?
  intro i
  rw [rowOf_get, List.getElem?_map]
  cases hx : xs[i]? with
  | none => rfl
  | some x =>
    have hi : i < xs.length := (List.getElem?_eq_some_iff.1 hx).1
    rw [h.1] at hi
    have hk : 0 < ks.length := by
      rcases Nat.eq_zero_or_pos ks.length with h0 | h0
      · rw [h0, Nat.mul_zero] at hi; omega
      · exact h0
    have h1 : i / ks.length < m := Nat.div_lt_of_lt_mul (by rw [Nat.mul_comm]; exact hi)
    have h2 : i % ks.length < ks.length := Nat.mod_lt _ hk
    obtain ⟨z, hz⟩ := h.2 (i / ks.length) (i % ks.length) (ks[i % ks.length]) h1 (List.getElem?_eq_getElem h2)
    rw [Nat.div_add_mod' i ks.length, hx] at hz
    cases hz
    simp only [Option.map_some, toZ, List.getD_eq_getElem?_getD, List.getElem?_eq_getElem h2, Option.getD_some]
theorem rowOf_typed {ks : List IntKind} {m : Nat} {l : List Int} (h : l.length = m * ks.length) : Typed ks m (Go.Vm.rowOf ks l) := by
  refine ⟨by rw [rowOf_length, h], fun i j k hi hk => ?_⟩
  have hj : j < ks.length := (List.getElem?_eq_some_iff.1 hk).1
  have hlt : i * ks.length + j < l.length := by
    rw [h]
    have := Nat.mul_le_mul_right ks.length (show i + 1 ≤ m by omega)
    rw [Nat.add_mul] at this; omega
  refine ⟨l[i * ks.length + j], ?_⟩
  have hmod : (i * ks.length + j) % ks.length = j := by rw [Nat.mul_comm i, Nat.mul_add_mod, Nat.mod_eq_of_lt hj]
  rw [rowOf_get, List.getElem?_eq_getElem hlt, Option.map_some, hmod]
  simp only [List.getD_eq_getElem?_getD, hk, Option.getD_some]

inductive ABlk where
  /-- so many elements, of cells of these kinds; all in all room for so many -/
  | arr (t : AT) (ks : List IntKind) (elem : TypeId) (n o : IT) (cp : Option IT)
  /-- cells from the beginning; behind them more, if tail: all in all (number of the tail's name) times so many -/
  | cells (vals : List AVal) (elem : TypeId) (tail : Option (Nat × Nat))
  | map (es : List (AVal × AVal × Nat)) (clock : Nat)
  /-- a row of texts, told as one number; so many; all in all room for so many -/
  | srow (c : IT) (elem : TypeId) (n : IT) (cp : Option IT)
  /-- a map from ints to ints, told as one number: keys and values in turn -/
  | mapc (c : IT)
  /-- an object of a family, that lies in many blocks and begins here, told as one number -/
  | big (k : Nat) (c : IT)
  /-- an iterator over a map: over which; what the clock was; which have come; what the clock was then -/
  | iter (l : Nat) (since : Nat) (seen : List Nat) (last : Nat)
/-- Entries of a map, told in turn. -/
def entOf : List Int → List (Value × Value)
  | k :: v :: r => (.int .i64 k, .int .i64 v) :: entOf r
  | _ => []
def kvOf (e : MapEntry) : Value × Value := (e.key, e.val)
/-- All entries were born before, each at a time of its own. -/
def Born (es : Array MapEntry) (cl : Nat) : Prop := (∀ e ∈ es.toList, e.born < cl) ∧ (es.toList.map (·.born)).Nodup
/-- The texts that a number tells. -/
def strsOf (x : Int) : List Value := (decL x).map fun z => .string (decS z)

structure HB where
  k : ABlk
  rw : Bool

def esDen (ρ : Env) : List (AVal × AVal × Nat) → Option (List MapEntry)
  | [] => some []
  | (a, b, n) :: r => match a.den ρ, b.den ρ, esDen ρ r with
    | some x, some y, some l => some (⟨x, y, n⟩ :: l)
    | _, _, _ => none

def tailOk (ρ : Env) (vals : Nat) (size : Nat) : Option (Nat × Nat) → Prop
  | none => size = vals
  | some (i, sz) => vals ≤ size ∧ ∃ n, ρ.N i = some n ∧ size = n * sz

/-- No cell of the row is frozen. -/
def FrOk (fr : Nat × Nat) (n : Nat) : Prop := fr.2 ≤ fr.1 ∨ n ≤ fr.1

def roomOk (ρ : Env) (sz size : Nat) : Option IT → Prop
  | none => True
  | some c => ∃ n : Nat, c.den ρ = some (n : Int) ∧ size = n * sz
theorem roomOk_mono {ρ ρ' : Env} (h : ρ.Le ρ') {sz s : Nat} {t : Option IT} (e : roomOk ρ sz s t) : roomOk ρ' sz s t := by
  cases t with
  | none => exact e
  | some p => obtain ⟨n, hn, hs⟩ := e; exact ⟨n, IT.den_mono h hn, hs⟩

def ABlk.rel (ρ : Env) : ABlk → Bool → Obj → Prop
  | .arr t ks elem n off cp, rw, o => ∃ xs c fr el, ∃ m b : Nat, o = .cells c el fr ∧ (rw = true → el = elem) ∧ t.den ρ = some xs ∧ off.den ρ = some (b : Int) ∧ (b ≤ c.size ∧ xs <+: c.toList.drop b) ∧ n.den ρ = some (m : Int) ∧ Typed ks m xs ∧ roomOk ρ ks.length (c.size - b) cp ∧ (rw = true → FrOk fr c.size)
  | .cells vals elem tail, rw, o => ∃ xs c fr, o = .cells c elem fr ∧ AVal.denL ρ vals = some xs ∧ xs <+: c.toList ∧ tailOk ρ vals.length c.size tail ∧ (rw = true → FrOk fr c.size)
  | .map es clock, _, o => ∃ l, o = .map l.toArray clock ∧ esDen ρ es = some l
  | .srow ct elem n cp, rw, o => ∃ x c fr el, o = .cells c el fr ∧ (rw = true → el = elem) ∧ ct.den ρ = some x ∧ strsOf x <+: c.toList ∧ n.den ρ = some ((decL x).length : Int) ∧ roomOk ρ 1 c.size cp ∧ (rw = true → FrOk fr c.size)
  | .mapc ct, _, o => ∃ x es cl, o = .map es cl ∧ ct.den ρ = some x ∧ es.toList.map kvOf = entOf (decL x) ∧ Born es cl
  | .big _ c, _, _ => ∃ x, c.den ρ = some x
  | .iter l since seen last, _, o => ∃ b, ρ.N l = some b ∧ o = .mapIter (some b) since seen.toArray last

theorem esDen_mono {ρ ρ' : Env} (h : ρ.Le ρ') : ∀ (l : List (AVal × AVal × Nat)) {xs : List MapEntry}, esDen ρ l = some xs → esDen ρ' l = some xs
  | [], xs, e => e
  | (a, b, n) :: r, xs, e => by
    simp only [esDen] at e ⊢
    split at e
    · rename_i x y l hx hy hl
      rw [AVal.den_mono h a hx, AVal.den_mono h b hy, esDen_mono h r hl]; exact e
    · cases e
theorem tailOk_mono {ρ ρ' : Env} (h : ρ.Le ρ') {v s : Nat} {t : Option (Nat × Nat)} (e : tailOk ρ v s t) : tailOk ρ' v s t := by
  cases t with
  | none => exact e
  | some p => obtain ⟨a, n, hn, hs⟩ := e; exact ⟨a, n, h.n _ _ hn, hs⟩
theorem ABlk.rel_mono {ρ ρ' : Env} (h : ρ.Le ρ') {k : ABlk} {rw : Bool} {o : Obj} (e : k.rel ρ rw o) : k.rel ρ' rw o := by
  cases k with
  | arr t ks elem n off cp =>
    obtain ⟨xs, c, fr, el, m, b, ho, hel, hd, hb, hp, hn, ht, hr, hf⟩ := e
    exact ⟨xs, c, fr, el, m, b, ho, hel, AT.den_mono h hd, IT.den_mono h hb, hp, IT.den_mono h hn, ht, roomOk_mono h hr, hf⟩
  | cells vals elem tail =>
    obtain ⟨xs, c, fr, ho, hd, hp, ht, hf⟩ := e
    exact ⟨xs, c, fr, ho, AVal.denL_mono h _ hd, hp, tailOk_mono h ht, hf⟩
  | map es clock =>
    obtain ⟨l, ho, hd⟩ := e
    exact ⟨l, ho, esDen_mono h _ hd⟩
  | srow ct elem n cp =>
    obtain ⟨x, c, fr, el, ho, hel, hx, hp, hn, hr, hf⟩ := e
    exact ⟨x, c, fr, el, ho, hel, IT.den_mono h hx, hp, IT.den_mono h hn, roomOk_mono h hr, hf⟩
  | mapc ct =>
    obtain ⟨x, es, cl, ho, hx, he⟩ := e
    exact ⟨x, es, cl, ho, IT.den_mono h hx, he⟩
  | big k c =>
    obtain ⟨x, hx⟩ := e
    exact ⟨x, IT.den_mono h hx⟩
  | iter l since seen last =>
    obtain ⟨b, hb, ho⟩ := e
    exact ⟨b, h.n _ _ hb, ho⟩
def ABlk.nb : ABlk → Bool
  | .big _ _ => false
  | _ => true

abbrev Heap := Tr HB

-- OBJECTS IN MANY BLOCKS
/-- The objects that lie in many blocks: which these are; they lie apart from each other, and from all else that has a name. -/
structure BigAt (ρ : Env) (H : Heap) (n0 : Nat) (w : World) (Fp : Nat → Nat → Prop) : Prop where
  ok : ∀ l k c rw, H.get l = some ⟨.big k c, rw⟩ → ∃ b x, ρ.N l = some b ∧ c.den ρ = some x ∧ fam k x w b (Fp l) ∧ (rw = true → ∀ y, Fp l y → n0 ≤ y)
  apart : ∀ l l' k c rw h', H.get l = some ⟨.big k c, rw⟩ → H.get l' = some h' → l ≠ l' → ∀ y, Fp l y → ρ.N l' ≠ some y ∧ (h'.k.nb = false → ¬ Fp l' y)
theorem ABlk.nb_of {k : ABlk} (h : k.nb = false) : ∃ n c, k = .big n c := by
  cases k <;> simp [ABlk.nb] at h; exact ⟨_, _, rfl⟩
theorem BigAt.move {ρ ρ' : Env} {H H' : Heap} {n0 : Nat} {w w' : World} {Fp : Nat → Nat → Prop} (h : BigAt ρ H n0 w Fp) (τ : Nat → Nat)
    (h1 : ∀ l k c rw, H'.get l = some ⟨.big k c, rw⟩ → ∃ c' rw', H.get (τ l) = some ⟨.big k c', rw'⟩ ∧ (rw = true → rw' = true) ∧ ρ'.N l = ρ.N (τ l) ∧ ∀ x, c'.den ρ = some x → c.den ρ' = some x)
    (h2 : ∀ l k c rw y, H.get l = some ⟨.big k c, rw⟩ → Fp l y → w'.heap[y]? = w.heap[y]?)
    (h3 : ∀ l l' k c rw h', H'.get l = some ⟨.big k c, rw⟩ → H'.get l' = some h' → l ≠ l' → (∀ y, Fp (τ l) y → ρ'.N l' ≠ some y) ∧ (h'.k.nb = false → τ l ≠ τ l')) : BigAt ρ' H' n0 w' fun l => Fp (τ l) := by
  refine ⟨fun l k c rw hl => ?_, fun l l' k c rw h' hl hl' hne y hy => ?_⟩
  · obtain ⟨c', rw', g1, g2, g3, g4⟩ := h1 l k c rw hl
    obtain ⟨b, x, e1, e2, e3, e4⟩ := h.ok _ _ _ _ g1
    exact ⟨b, x, g3.trans e1, g4 x e2, fam_local e3 fun y hy => h2 _ _ _ _ y g1 hy, fun hr => e4 (g2 hr)⟩
  · obtain ⟨p1, p2⟩ := h3 l l' k c rw h' hl hl' hne
    refine ⟨p1 y hy, fun hnb => ?_⟩
    obtain ⟨c', rw', g1, _⟩ := h1 l k c rw hl
    obtain ⟨n, c2, hk⟩ := ABlk.nb_of hnb
    obtain ⟨hk', r'⟩ := h'
    simp only at hk; subst hk
    obtain ⟨c3, rw3, g2, _⟩ := h1 l' n c2 r' hl'
    exact (h.apart _ _ _ _ _ _ g1 g2 (p2 hnb) y hy).2 rfl
theorem BigAt.none {ρ : Env} {H : Heap} {n0 : Nat} {w : World} (h : ∀ l k, H.get l = some k → k.k.nb = true) : ∃ Fp, BigAt ρ H n0 w Fp := by
  have no : ∀ l k c rw, H.get l ≠ some ⟨.big k c, rw⟩ := fun l k c rw hl => by have := h _ _ hl; cases this
  exact ⟨fun _ _ => False, fun l k c rw hl => absurd hl (no _ _ _ _), fun l l' k c rw h' hl => absurd hl (no _ _ _ _)⟩
theorem BigAt.sub {ρ : Env} {H H' : Heap} {n0 : Nat} {w : World} {Fp : Nat → Nat → Prop} (h : BigAt ρ H n0 w Fp) (hs : ∀ l k, H'.get l = some k → H.get l = some k) : BigAt ρ H' n0 w Fp :=
  ⟨fun l k c rw hl => h.ok l k c rw (hs _ _ hl), fun l l' k c rw h' hl hl' => h.apart l l' k c rw h' (hs _ _ hl) (hs _ _ hl')⟩
theorem BigAt.agree {ρ : Env} {H : Heap} {n0 : Nat} {w w' : World} {Fp : Nat → Nat → Prop} (h : BigAt ρ H n0 w Fp) (e : ∀ y, y < w.heap.size → w'.heap[y]? = w.heap[y]?) : BigAt ρ H n0 w' Fp :=
  h.move id (fun _ _ c rw hl => ⟨c, rw, hl, id, rfl, fun _ => id⟩) (fun l k c rw y hl hy => by
    obtain ⟨b, x, _, _, e3, _⟩ := h.ok _ _ _ _ hl
    exact e y (fam_lt e3 hy)) (fun l l' k c rw h' hl hl' hne => ⟨fun y hy => (h.apart _ _ _ _ _ _ hl hl' hne y hy).1, fun _ => hne⟩)
theorem BigAt.le {ρ ρ' : Env} {H : Heap} {n0 : Nat} {w : World} {Fp : Nat → Nat → Prop} (h : BigAt ρ H n0 w Fp) (hle : ρ.Le ρ') (hN : ∀ l k, H.get l = some k → ρ'.N l = ρ.N l) : BigAt ρ' H n0 w Fp :=
  h.move id (fun _ _ c rw hl => ⟨c, rw, hl, id, hN _ _ hl, fun _ => IT.den_mono hle⟩) (fun _ _ _ _ _ _ _ => rfl) (fun l l' k c rw h' hl hl' hne => ⟨fun y hy => by
    rw [hN _ _ hl']; exact (h.apart _ _ _ _ _ _ hl hl' hne y hy).1, fun _ => hne⟩)
/-- A block of one piece comes to a name, written or not; the world is else as it was. -/
theorem BigAt.set {ρ : Env} {H : Heap} {n0 : Nat} {w w' : World} {Fp : Nat → Nat → Prop} (h : BigAt ρ H n0 w Fp) {l0 b0 : Nat} {k0 : HB} (hnb : k0.k.nb = true) (hN : ρ.N l0 = some b0) (hb : ∀ l k c rw, H.get l = some ⟨.big k c, rw⟩ → l ≠ l0 → ¬ Fp l b0)
    (e : ∀ y, y ≠ b0 → y < w.heap.size → w'.heap[y]? = w.heap[y]?) : BigAt ρ (H.set l0 k0) n0 w' Fp := by
  have key : ∀ l k c rw, (H.set l0 k0).get l = some ⟨.big k c, rw⟩ → l ≠ l0 ∧ H.get l = some ⟨.big k c, rw⟩ := fun l k c rw hl => by
    rcases Tr.get_set hl with ⟨_, rfl⟩ | ⟨hne, hl⟩
    · cases hnb
    · exact ⟨hne, hl⟩
  refine ⟨fun l k c rw hl => ?_, fun l l' k c rw h' hl hl' hne y hy => ?_⟩
  · obtain ⟨hne, hl⟩ := key l k c rw hl
    obtain ⟨b, x, e1, e2, e3, e4⟩ := h.ok _ _ _ _ hl
    exact ⟨b, x, e1, e2, fam_local e3 fun y hy => e y (fun he => hb l k c rw hl hne (he ▸ hy)) (fam_lt e3 hy), e4⟩
  · obtain ⟨hne0, hl0⟩ := key l k c rw hl
    rcases Tr.get_set hl' with ⟨rfl, rfl⟩ | ⟨hne', hl'⟩
    · refine ⟨fun he => ?_, fun e => by rw [hnb] at e; cases e⟩
      rw [hN] at he; cases he
      exact hb l k c rw hl0 hne0 hy
    · exact h.apart _ _ _ _ _ _ hl0 hl' hne y hy

/-- What a walk goes by: the world ahead of it, what may be written of that. -/
structure Base where
  w0 : World
  own : List Nat
  /-- what is known of the names -/
  G : (Nat → Int) → (Nat → Bool) → (Nat → ByteArray) → (Nat → Value) → (Nat → Int → Int → Int) → Prop
def Base.plain (w : World) : Base := ⟨w, [], fun _ _ _ _ _ => True⟩

structure HRel (β : Base) (ρ : Env) (H : Heap) (nl : Nat) (w : World) : Prop where
  blk : ∀ l k, H.get l = some k → ∃ b o, ρ.N l = some b ∧ w.heap[b]? = some o ∧ k.k.rel ρ k.rw o
  inj : ∀ l l' k k', H.get l = some k → H.get l' = some k' → k.rw = true → ρ.N l = ρ.N l' → l = l'
  own : ∀ l k b, H.get l = some k → k.rw = true → ρ.N l = some b → β.w0.heap.size ≤ b ∨ ∃ l' ∈ β.own, ρ.N l' = some b
  fresh : ∀ i, nl ≤ i → ρ.N i = none
  ownN : ∀ l ∈ β.own, l < nl
  size : β.w0.heap.size ≤ w.heap.size
  frame : ∀ b, b < β.w0.heap.size → (∀ l ∈ β.own, ρ.N l ≠ some b) → w.heap[b]? = β.w0.heap[b]?
  tape : w.tape = β.w0.tape
  os : w.os = β.w0.os
  out : w.output = β.w0.output
  g : β.G ρ.I ρ.B ρ.S ρ.V ρ.F
  big : ∃ Fp, BigAt ρ H β.w0.heap.size w Fp

section
variable {β : Base} {ρ : Env} {H : Heap} {nl : Nat} {w : World}

theorem HRel.drew (h : HRel β ρ H nl w) : HRel β ρ H nl { w with drawn := w.drawn + 1 } :=
  ⟨h.blk, h.inj, h.own, h.fresh, h.ownN, h.size, h.frame, h.tape, h.os, h.out, h.g, h.big.imp fun _ hB => hB.agree fun _ _ => rfl⟩

theorem HRel.lt (h : HRel β ρ H nl w) {l : Nat} {k : HB} {b : Nat} (hl : H.get l = some k) (hb : ρ.N l = some b) : b < w.heap.size := by
  obtain ⟨b', o, hb', ho, _⟩ := h.blk l k hl
  rw [hb] at hb'; cases hb'
  exact (Array.getElem?_eq_some_iff.1 ho).1

/-- The numbers' names grow. -/
theorem HRel.num (h : HRel β ρ H nl w) (n : Nat) : HRel β (ρ.put nl n) H (nl + 1) w := by
  have hle : ρ.Le (ρ.put nl n) := Env.le_put (h.fresh nl (Nat.le_refl _))
  have hN : ∀ l, l < nl → (ρ.put nl n).N l = ρ.N l := fun l hl => Env.put_other ρ n (by omega)
  have hlt : ∀ l k, H.get l = some k → l < nl := fun l k hl => by
    obtain ⟨b, o, hb, _⟩ := h.blk l k hl
    rcases Nat.lt_or_ge l nl with h1 | h1
    · exact h1
    · rw [h.fresh l h1] at hb; cases hb
  refine ⟨fun l k hl => ?_, fun l l' k k' hl hl' hr he => ?_, fun l k b hl hr hb => ?_, fun i hi => ?_, fun l hl => Nat.lt_succ_of_lt (h.ownN l hl), h.size, fun b hb hn => ?_, h.tape, h.os, h.out, h.g, h.big.imp fun _ hB => hB.le hle fun l k hl => hN l (hlt l k hl)⟩
  · obtain ⟨b, o, hb, ho, hk⟩ := h.blk l k hl
    exact ⟨b, o, hle.n _ _ hb, ho, ABlk.rel_mono hle hk⟩
  · rw [hN l (hlt l k hl), hN l' (hlt l' k' hl')] at he
    exact h.inj l l' k k' hl hl' hr he
  · rw [hN l (hlt l k hl)] at hb
    rcases h.own l k b hl hr hb with h1 | ⟨l', hl', hb'⟩
    · exact .inl h1
    · exact .inr ⟨l', hl', hle.n _ _ hb'⟩
  · rw [Env.put_other ρ n (by omega)]; exact h.fresh i (by omega)
  · exact h.frame b hb fun l hl e => hn l hl (hle.n _ _ e)

/-- A new block. -/
theorem HRel.new (h : HRel β ρ H nl w) (o : Obj) (k : ABlk) (rw : Bool) (hk : k.rel ρ rw o) (hnb : k.nb = true := by rfl) :
    HRel β (ρ.put nl w.heap.size) (H.set nl ⟨k, rw⟩) (nl + 1) { w with heap := w.heap.push o } := by
  have hle : ρ.Le (ρ.put nl w.heap.size) := Env.le_put (h.fresh nl (Nat.le_refl _))
  have hn := h.num w.heap.size
  have hold : ∀ b, b < w.heap.size → (w.heap.push o)[b]? = w.heap[b]? := fun b hb => by rw [Array.getElem?_push]; simp [Nat.ne_of_lt hb]
  have hlt : ∀ l k, H.get l = some k → l < nl := fun l k hl => by
    obtain ⟨b, o, hb, _⟩ := h.blk l k hl
    rcases Nat.lt_or_ge l nl with h1 | h1
    · exact h1
    · rw [h.fresh l h1] at hb; cases hb
  refine ⟨fun l k' hl => ?_, fun l l' k1 k2 hl hl' hr he => ?_, fun l k' b hl hr hb => ?_, hn.fresh, hn.ownN, ?_, fun b hb hf => ?_, h.tape, h.os, h.out, h.g, hn.big.imp fun Fp hB => hB.set hnb (Env.put_same ..) (fun l k c rw hl _ hy => ?_) (fun y _ hy => hold y hy)⟩
  · rcases Tr.get_set hl with ⟨rfl, rfl⟩ | ⟨hne, hl⟩
    · exact ⟨w.heap.size, o, Env.put_same .., by simp, ABlk.rel_mono hle hk⟩
    · obtain ⟨b, o', hb, ho, hk'⟩ := hn.blk l k' hl
      have hb' : ρ.N l = some b := by rw [← Env.put_other ρ w.heap.size hne]; exact hb
      exact ⟨b, o', hb, by show (w.heap.push o)[b]? = _; rw [hold b (h.lt hl hb')]; exact ho, hk'⟩
  · rcases Tr.get_set hl with ⟨e1, e2⟩ | ⟨hne, g1⟩
    · rcases Tr.get_set hl' with ⟨e3, e4⟩ | ⟨hne', g2⟩
      · rw [e1, e3]
      · obtain ⟨b, o', hb, _⟩ := h.blk l' k2 g2
        rw [e1, Env.put_same, Env.put_other ρ _ hne', hb] at he
        have := h.lt g2 hb
        injection he with he; omega
    · rcases Tr.get_set hl' with ⟨e3, e4⟩ | ⟨hne', g2⟩
      · obtain ⟨b, o', hb, _⟩ := h.blk l k1 g1
        rw [e3, Env.put_same, Env.put_other ρ _ hne, hb] at he
        have := h.lt g1 hb
        injection he with he; omega
      · exact hn.inj l l' k1 k2 g1 g2 hr he
  · rcases Tr.get_set hl with ⟨rfl, rfl⟩ | ⟨hne, hl⟩
    · rw [Env.put_same] at hb; cases hb; exact .inl h.size
    · exact hn.own l k' b hl hr hb
  · show β.w0.heap.size ≤ (w.heap.push o).size
    have := h.size; simp; omega
  · show (w.heap.push o)[b]? = _
    rw [hold b (by have := h.size; omega)]
    exact hn.frame b hb hf
  · obtain ⟨b, x, _, _, e3, _⟩ := hB.ok _ _ _ _ hl
    exact absurd (fam_lt e3 hy) (Nat.lt_irrefl _)

/-- A block is forgotten. -/
theorem HRel.del (h : HRel β ρ H nl w) (l : Nat) : HRel β ρ (H.del l) nl w :=
  ⟨fun l k hl => h.blk l k (Tr.get_del hl).2, fun l l' k k' hl hl' => h.inj l l' k k' (Tr.get_del hl).2 (Tr.get_del hl').2, fun l k b hl => h.own l k b (Tr.get_del hl).2,
    h.fresh, h.ownN, h.size, h.frame, h.tape, h.os, h.out, h.g, h.big.imp fun _ hB => hB.sub fun _ _ hl => (Tr.get_del hl).2⟩

/-- A block that may be written turns into another one. -/
theorem HRel.write (h : HRel β ρ H nl w) {l b : Nat} {k k' : HB} (hl : H.get l = some k) (hrw : k.rw = true) (hb : ρ.N l = some b) {w' : World} {o' : Obj}
    (hk' : k'.k.rel ρ k'.rw o') (hw : w'.heap = w.heap.setIfInBounds b o') (ht : w'.tape = w.tape) (hos : w'.os = w.os) (hout : w'.output = w.output) (hnb : k'.k.nb = true := by rfl) :
    HRel β ρ (H.set l k') nl w' := by
  have hblt := h.lt hl hb
  have hsame : w'.heap[b]? = some o' := by rw [hw]; simp [hblt]
  have hother : ∀ c, c ≠ b → w'.heap[c]? = w.heap[c]? := fun c hc => by rw [hw]; simp [hc.symm]
  refine ⟨fun l1 k1 h1 => ?_, fun l1 l2 k1 k2 h1 h2 hr he => ?_, fun l1 k1 b1 h1 hr hb1 => ?_, h.fresh, h.ownN, ?_, fun c hc hf => ?_, ht.trans h.tape, hos.trans h.os, hout.trans h.out, h.g, h.big.imp fun Fp hB => hB.set hnb hb (fun l1 k1 c1 rw1 h1 hne hy => (hB.apart _ _ _ _ _ _ h1 hl hne b hy).1 hb) (fun y hy _ => hother y hy)⟩
  · rcases Tr.get_set h1 with ⟨rfl, rfl⟩ | ⟨hne, h1⟩
    · exact ⟨b, o', hb, hsame, hk'⟩
    · obtain ⟨c, oc, hc, hoc, hkc⟩ := h.blk l1 k1 h1
      refine ⟨c, oc, hc, ?_, hkc⟩
      rw [hother c]
      · exact hoc
      · intro e; subst e
        exact hne (h.inj l l1 k k1 hl h1 hrw (hb.trans hc.symm)).symm
  · rcases Tr.get_set h1 with ⟨e1, e2⟩ | ⟨hne, g1⟩
    · rcases Tr.get_set h2 with ⟨e3, e4⟩ | ⟨hne2, g2⟩
      · rw [e1, e3]
      · rw [e1]; rw [e1] at he; exact h.inj _ _ _ _ hl g2 hrw he
    · rcases Tr.get_set h2 with ⟨e3, e4⟩ | ⟨hne2, g2⟩
      · rw [e3]; rw [e3] at he; exact (h.inj _ _ _ _ hl g1 hrw he.symm).symm
      · exact h.inj _ _ _ _ g1 g2 hr he
  · rcases Tr.get_set h1 with ⟨rfl, rfl⟩ | ⟨hne, h1⟩
    · exact h.own _ k b1 hl hrw hb1
    · exact h.own l1 k1 b1 h1 hr hb1
  · rw [hw]; simp; exact h.size
  · rw [hother c]
    · exact h.frame c hc hf
    · intro e; subst e
      rcases h.own l k c hl hrw hb with h1 | ⟨l', hl', hb'⟩
      · omega
      · exact hf l' hl' hb'

end

-- THE MODEL'S OWN READS AND WRITES OF CELLS
theorem cell_of (w : World) {b j : Nat} {c : Array Value} {t : TypeId} {fr : Nat × Nat} (hg : w.heap[b]? = some (.cells c t fr)) : w.cell? ⟨b, j, none⟩ = c[j]? :=
  cell_of_row w b j c t fr hg

theorem addr_add (b o n : Nat) : (Addr.mk b o none).add n = ⟨b, o + n, none⟩ := by
  unfold Addr.add
  split
  · rename_i h; subst h; rfl
  · rfl

theorem loadCells_run {P : Program} {w : World} {b o n : Nat} {c : Array Value} {t : TypeId} {fr : Nat × Nat} (hg : w.heap[b]? = some (.cells c t fr)) (hn : o + n ≤ c.size) :
    (loadCells ⟨b, o, none⟩ n).run P w = .ok ((c.toList.drop o).take n).toArray w := by
  have hlen : ((c.toList.drop o).take n).length = n := by simp; omega
  have := run_loadCells_list (P := P) (w := w) ⟨b, o, none⟩ ((c.toList.drop o).take n) (fun j v hj => by
    rw [addr_add, cell_of w hg]
    have hjn : j < n := by
      have := (List.getElem?_eq_some_iff.1 hj).1; omega
    rw [List.getElem?_take_of_lt hjn, List.getElem?_drop] at hj
    simpa using hj)
  rw [hlen] at this
  exact this

/-- A value that fills one cell. -/
def isOne : Value → Bool
  | .agg _ | .tuple _ => false
  | _ => true

theorem setCell_heap (w : World) {b j : Nat} {c : Array Value} {t : TypeId} {fr : Nat × Nat} (v : Value) (hg : w.heap[b]? = some (.cells c t fr)) :
    (w.setCell ⟨b, j, none⟩ v).heap = w.heap.setIfInBounds b (.cells (c.setIfInBounds j v) t fr) := by
  have hb : b < w.heap.size := (Array.getElem?_eq_some_iff.1 hg).1
  have hg' : w.heap[b] = .cells c t fr := (Array.getElem?_eq_some_iff.1 hg).2
  apply Array.ext_getElem?
  intro i
  simp only [World.setCell, Array.getElem?_modify, Array.getElem?_setIfInBounds]
  by_cases hi : b = i
  · subst hi; simp [hb, hg']
  · simp [hi]

theorem run_store_one {P : Program} {w : World} {b j : Nat} {c : Array Value} {t : TypeId} {fr : Nat × Nat} {v : Value} (hg : w.heap[b]? = some (.cells c t fr)) (hj : j < c.size)
    (hv : isOne v = true) (hfr : FrOk fr c.size) : (store ⟨b, j, none⟩ v).run P w = .ok () (w.setCell ⟨b, j, none⟩ v) := by
  have hc : w.cell? ⟨b, j, none⟩ = some c[j] := by rw [cell_of w hg]; simp [hj]
  have hf : w.frozen? ⟨b, j, none⟩ = false := by
    simp only [World.frozen?, hg]
    rw [Bool.eq_false_iff]; simp; unfold FrOk at hfr; omega
  unfold store
  cases v <;> first
    | (simp [isOne] at hv; done)
    | simp [Sem.run, hc, hf]

theorem storeCells_run {P : Program} {b : Nat} {t : TypeId} {fr : Nat × Nat} : ∀ (vs : List Value) (i o : Nat) (w : World) (c : Array Value), FrOk fr c.size →
    w.heap[b]? = some (.cells c t fr) → o + i + vs.length ≤ c.size → (∀ v ∈ vs, isOne v = true) →
    ∃ w' c', (storeCells ⟨b, o, none⟩ vs i).run P w = .ok () w' ∧ w'.heap = w.heap.setIfInBounds b (.cells c' t fr) ∧
      c'.toList = c.toList.take (o + i) ++ vs ++ c.toList.drop (o + i + vs.length) ∧ w'.tape = w.tape ∧ w'.os = w.os ∧ w'.output = w.output := by
  intro vs
  induction vs with
  | nil =>
    intro i o w c _ hg hn hv
    refine ⟨w, c, rfl, ?_, by simp, rfl, rfl, rfl⟩
    have hb : b < w.heap.size := (Array.getElem?_eq_some_iff.1 hg).1
    apply Array.ext_getElem?
    intro j
    rw [Array.getElem?_setIfInBounds]
    by_cases hj : b = j
    · subst hj; simp [hb, (Array.getElem?_eq_some_iff.1 hg).2]
    · simp [hj]
  | cons v r ih =>
    intro i o w c hfr hg hn hv
    simp only [List.length_cons] at hn
    have hb : b < w.heap.size := (Array.getElem?_eq_some_iff.1 hg).1
    have hs := run_store_one (P := P) hg (show o + i < c.size by omega) (hv v (by simp)) hfr
    have hheap := setCell_heap w (j := o + i) v hg
    have hg1 : (w.setCell ⟨b, o + i, none⟩ v).heap[b]? = some (.cells (c.setIfInBounds (o + i) v) t fr) := by rw [hheap]; simp [hb]
    obtain ⟨w', c', hr, hh, hc, ht, hos, hout⟩ := ih (i + 1) o _ _ (by simpa using hfr) hg1 (by simp; omega) (fun x hx => hv x (by simp [hx]))
    refine ⟨w', c', ?_, ?_, ?_, ht, hos, hout⟩
    · simp only [storeCells, addr_add, Sem.run_bind, hs, Result.andThen_ok]
      exact hr
    · rw [hh, hheap]; simp
    · rw [hc]
      have e1 : (c.setIfInBounds (o + i) v).toList = c.toList.set (o + i) v := by simp
      rw [e1, List.set_eq_take_append_cons_drop]
      have hlt : o + i < c.toList.length := by simp; omega
      rw [if_pos hlt]
      have e2 : o + (i + 1) = (List.take (o + i) c.toList).length + 1 := by simp; omega
      rw [e2, List.take_append, List.drop_append]
      simp only [List.append_assoc, List.cons_append, List.length_cons]
      have l0 : (List.take (o + i) c.toList).length = o + i := by simp; omega
      simp only [l0]
      have l1 : List.take (o + i + 1) (List.take (o + i) c.toList) = List.take (o + i) c.toList := by rw [List.take_take]; congr 1; omega
      have l2 : o + i + 1 - (o + i) = 1 := by omega
      have l3 : List.drop (o + i + 1 + r.length) (List.take (o + i) c.toList) = [] := by apply List.drop_eq_nil_of_le; simp; omega
      have l4 : o + i + 1 + r.length - (o + i) = r.length + 1 := by omega
      rw [l1, l2, l3, l4]
      simp only [List.take_succ_cons, List.take_zero, List.nil_append, List.drop_succ_cons, List.drop_drop, List.cons_append]
      congr 3
      congr 1; omega

-- ROWS AS ONE NUMBER, AS ONE TEXT
/-- Numbers put behind a list. -/
def appI : IT → List AVal → Option IT
  | c, [] => some c
  | c, .int _ z :: r => appI (.un 3 c z) r
  | _, _ :: _ => none
/-- A row as one number. -/
def AT.codeT : AT → Option IT
  | .code _ c => some c
  | .lits vs => appI (.lit 0) vs
  | .snoc t vs => match t.codeT with
    | some c => appI c vs
    | none => none
  | .var _ => none
  | .bts s => some (.scode s)
theorem appI_ok {ρ : Env} : ∀ {vs : List AVal} {c u : IT} {x : Int} {xs : List Value}, appI c vs = some u → c.den ρ = some x → AVal.denL ρ vs = some xs → ∃ y, u.den ρ = some y ∧ decL y = decL x ++ xs.map toZ
  | [], c, u, x, xs, h, hc, hx => by cases h; cases hx; exact ⟨x, hc, by simp⟩
  | v :: r, c, u, x, xs, h, hc, hx => by
    cases v <;> simp only [appI] at h <;> first | (cases h; done) | skip
    simp only [AVal.denL] at hx
    split at hx
    · rename_i y l hy hl
      cases hx
      simp only [AVal.den] at hy
      obtain ⟨z, hz, rfl⟩ := Option.map_eq_some_iff.1 hy
      obtain ⟨w, hw, he⟩ := appI_ok h (x := univ 3 x z) (by simp only [IT.den, hc, hz]) hl
      refine ⟨w, hw, ?_⟩
      rw [he]
      show decL (encL (decL x ++ [z])) ++ _ = _
      rw [decL_encL]; simp [toZ]
    · cases hx
theorem codeT_ok {ρ : Env} : ∀ {t : AT} {u : IT} {xs : List Value}, t.codeT = some u → t.den ρ = some xs → ∃ y, u.den ρ = some y ∧ decL y = xs.map toZ
  | .code ks c, u, xs, h, hx => by
    cases h
    simp only [AT.den] at hx
    obtain ⟨x, hx1, rfl⟩ := Option.map_eq_some_iff.1 hx
    exact ⟨x, hx1, (rowOf_toZ _ _).symm⟩
  | .lits vs, u, xs, h, hx => by
    obtain ⟨y, hy, he⟩ := appI_ok h (x := 0) rfl hx
    exact ⟨y, hy, by rw [he, decL_zero]; rfl⟩
  | .snoc t vs, u, xs, h, hx => by
    simp only [AT.codeT] at h
    split at h
    · rename_i c hc
      simp only [AT.den] at hx
      split at hx
      · rename_i x y hx1 hx2
        cases hx
        obtain ⟨z, hz, he⟩ := codeT_ok hc hx1
        obtain ⟨w, hw, he2⟩ := appI_ok h hz hx2
        exact ⟨w, hw, by rw [he2, he, List.map_append]⟩
      · cases hx
    · cases h
  | .var _, u, xs, h, _ => by cases h
  | .bts s, u, xs, h, hx => by
    cases h; cases hx
    exact ⟨encS (s.den ρ), rfl, by rw [encS, decL_encL, List.map_map]; rfl⟩
/-- Bytes that are there. -/
def bytesLit : List AVal → Option (List UInt8)
  | [] => some []
  | .int .u8 (.lit (.ofNat n)) :: r => cond (Nat.blt n 256) ((bytesLit r).map (UInt8.ofNat n :: ·)) none
  | _ => none
theorem bytesLit_ok {ρ : Env} : ∀ {l : List AVal} {bs : List UInt8} {xs : List Value}, bytesLit l = some bs → AVal.denL ρ l = some xs → xs = bs.map fun b => .int .u8 b.toNat
  | [], bs, xs, h, hx => by cases h; cases hx; rfl
  | v :: r, bs, xs, h, hx => by
    unfold bytesLit at h
    split at h
    · rename_i heq; cases heq
    · rename_i n r' heq
      cases heq
      cases hn : Nat.blt n 256 with
      | false => rw [hn] at h; cases h
      | true =>
        rw [hn] at h; simp only [cond_true] at h
        obtain ⟨m, hm, rfl⟩ := Option.map_eq_some_iff.1 h
        simp only [AVal.denL, AVal.den, IT.den, Option.map_some] at hx
        split at hx
        · rename_i x xs' hx1 hx2
          cases hx; cases hx1
          rw [bytesLit_ok hm hx2]
          have h2 : n < 256 := by rw [Nat.blt_eq] at hn; exact hn
          have : (UInt8.ofNat n).toNat = n := by rw [UInt8.toNat_ofNat']; omega
          simp [this]
        · cases hx
    · cases h
/-- Texts put behind a list of texts. -/
def appS : IT → List AVal → Option IT
  | c, [] => some c
  | c, .str s :: r => appS (.un 3 c (.scode s)) r
  | _, _ :: _ => none
theorem appS_ok {ρ : Env} : ∀ {vs : List AVal} {c u : IT} {x : Int} {xs : List Value}, appS c vs = some u → c.den ρ = some x → AVal.denL ρ vs = some xs → ∃ y, u.den ρ = some y ∧ strsOf y = strsOf x ++ xs ∧ (decL y).length = (decL x).length + xs.length
  | [], c, u, x, xs, h, hc, hx => by cases h; cases hx; exact ⟨x, hc, by simp, rfl⟩
  | v :: r, c, u, x, xs, h, hc, hx => by
    cases v <;> simp only [appS] at h <;> first | (cases h; done) | skip
    rename_i s
    simp only [AVal.denL, AVal.den] at hx
    split at hx
    · rename_i y l hy hl
      cases hx; cases hy
      obtain ⟨w, hw, he, hn⟩ := appS_ok h (x := univ 3 x (encS (s.den ρ))) (by simp only [IT.den, hc]) hl
      have e : decL (univ 3 x (encS (s.den ρ))) = decL x ++ [encS (s.den ρ)] := decL_encL _
      refine ⟨w, hw, ?_, ?_⟩
      · rw [he]; simp [strsOf, e]
      · rw [hn, e]; simp; omega
    · cases hx
/-- A row of bytes as a text. -/
def AT.strT : AT → Option ST
  | .bts s => some s
  | .lits vs => (bytesLit vs).map .lit
  | .snoc t vs => match t.strT, bytesLit vs with
    | some s, some ps => some (.cat s (.lit ps))
    | _, _ => none
  | _ => none
theorem strT_ok {ρ : Env} : ∀ {t : AT} {u : ST} {xs : List Value}, t.strT = some u → t.den ρ = some xs → xs = (u.den ρ).data.toList.map fun b => .int .u8 b.toNat
  | .bts s, u, xs, h, hx => by cases h; cases hx; rfl
  | .lits vs, u, xs, h, hx => by
    simp only [AT.strT] at h
    obtain ⟨bs, hb, rfl⟩ := Option.map_eq_some_iff.1 h
    rw [bytesLit_ok hb hx]; simp [ST.den]
  | .snoc t vs, u, xs, h, hx => by
    simp only [AT.strT] at h
    split at h
    · rename_i s bs hs hb
      cases h
      simp only [AT.den] at hx
      split at hx
      · rename_i x y hx1 hx2
        cases hx
        rw [strT_ok hs hx1, bytesLit_ok hb hx2]
        simp [ST.den]
      · cases hx
    · cases h
  | .var _, u, xs, h, _ => by cases h
  | .code _ _, u, xs, h, _ => by cases h

end Go.Vm
end

/-
  A machine for abstract states over the model (part 4): operations that leave memory alone.
-/
section
namespace Go.Vm

section basics
variable {P : Program} {w : World} {t : TypeId}
theorem run_und {d : TypeDesc} (h : P.underlying t = some d) : (underlying t).run P w = .ok d w := by simp [underlying, h]
theorem run_info {i : TypeInfo} (h : P.info? t = some i) : (typeInfo t).run P w = .ok i w := by simp [typeInfo, h]
theorem run_size {i : TypeInfo} (h : P.info? t = some i) : (sizeOf t).run P w = .ok i.size w := by simp [sizeOf, run_info h]
def aggB : TypeDesc → Bool
  | .struct _ | .array _ _ => true
  | _ => false
theorem run_isAgg {d : TypeDesc} (h : P.underlying t = some d) : (isAgg t).run P w = .ok (aggB d) w := by
  simp only [isAgg, Sem.run_bind, run_und h, Result.andThen_ok]
  cases d <;> rfl
end basics

def AVal.ofPrim : Value → Option AVal
  | .bool b => some (.bool (.lit b))
  | .int k n => some (.int k (.lit n))
  | .string s => some (.str (.lit s.data.toList))
  | .pointer none => some .ptrNil
  | .slice none 0 0 => some .sliceNil
  | .map none => some .mapNil
  | .nilFunc => some .nilFunc
  | .nilIface => some .nilIface
  | .tuple l => match l.toList with
    | [] => some (.tuple [])
    | _ => none
  | _ => none
theorem AVal.ofPrim_den {ρ : Env} {x : Value} {v : AVal} (h : AVal.ofPrim x = some v) : v.den ρ = some x := by
  unfold AVal.ofPrim at h
  split at h <;> first
    | (cases h; done)
    | (cases h; simp [AVal.den, BT.den, IT.den, ST.den]; done)
    | skip
  rename_i l
  split at h
  · rename_i hl
    cases h
    have : l = #[] := by simpa using hl
    subst this; simp [AVal.den, AVal.denL]
  · cases h
def ofPrims : List Value → Option (List AVal)
  | [] => some []
  | x :: r => match AVal.ofPrim x, ofPrims r with
    | some v, some l => some (v :: l)
    | _, _ => none
theorem ofPrims_den {ρ : Env} : ∀ {xs : List Value} {l : List AVal}, ofPrims xs = some l → AVal.denL ρ l = some xs
  | [], l, h => by cases h; rfl
  | x :: r, l, h => by
    simp only [ofPrims] at h
    split at h
    · rename_i v l' hv hl
      cases h
      simp only [AVal.denL, AVal.ofPrim_den hv, ofPrims_den hl]
    · cases h
def AVal.ofVal : Value → Option AVal
  | .agg cs => (ofPrims cs.toList).map AVal.agg
  | .iface t v => (AVal.ofPrim v).map (AVal.iface t)
  | x => AVal.ofPrim x
theorem AVal.ofVal_den {ρ : Env} {x : Value} {v : AVal} (h : AVal.ofVal x = some v) : v.den ρ = some x := by
  unfold AVal.ofVal at h
  split at h
  · obtain ⟨l, hl, rfl⟩ := Option.map_eq_some_iff.1 h
    simp [AVal.den, ofPrims_den hl]
  · obtain ⟨l, hl, rfl⟩ := Option.map_eq_some_iff.1 h
    simp [AVal.den, AVal.ofPrim_den hl]
  · exact AVal.ofPrim_den h

/-- The cells of a value whose make is known. -/
def AVal.cells? : AVal → Option (List AVal)
  | .agg cs => some cs
  | .var _ => none
  | v => some [v]
theorem AVal.cells?_den {ρ : Env} {v : AVal} {l : List AVal} {x : Value} (h : v.cells? = some l) (hx : v.den ρ = some x) : AVal.denL ρ l = some x.cells.toList := by
  unfold AVal.cells? at h
  split at h
  · cases h
    simp only [AVal.den] at hx
    obtain ⟨y, hy, rfl⟩ := Option.map_eq_some_iff.1 hx
    simp [Value.cells, hy]
  · cases h
  · rename_i hagg hvar
    cases h
    have hne : ∀ cs, x ≠ .agg cs := by
      intro cs e; subst e
      cases v <;> simp only [AVal.den] at hx <;> first
        | (exact hagg _ rfl)
        | (exact hvar _ rfl)
        | (cases hx; done)
        | (obtain ⟨y, _, hy⟩ := Option.map_eq_some_iff.1 hx; cases hy; done)
        | (split at hx <;> cases hx)
    have : x.cells = #[x] := by
      cases x <;> first
        | rfl
        | exact absurd rfl (hne _)
    simp [AVal.denL, hx, this]

-- PARTS
def aPart (P : Program) (t : TypeId) (cs : List AVal) (off : Nat) : Option AVal :=
  match P.underlying t with
  | none => none
  | some d => cond (aggB d) (match P.info? t with
    | some i => some (.agg ((cs.drop off).take i.size))
    | none => none) cs[off]?
theorem aPart_ok {P : Program} {ρ : Env} {t : TypeId} {cs : List AVal} {off : Nat} {u : AVal} {c : Array Value} (h : aPart P t cs off = some u) (hc : AVal.denL ρ cs = some c.toList) :
    ∃ y, u.den ρ = some y ∧ ∀ w, (part t c off).run P w = .ok y w := by
  unfold aPart at h
  split at h
  · cases h
  · rename_i d hd
    cases ha : aggB d with
    | true =>
      rw [ha] at h
      simp only [cond_true] at h
      split at h
      · rename_i i hi
        cases h
        refine ⟨.agg ((c.toList.drop off).take i.size).toArray, ?_, fun w => ?_⟩
        · simp only [AVal.den, AVal.denL_take _ (AVal.denL_drop _ hc), Option.map_some]
        · have : c.extract off (off + i.size) = ((c.toList.drop off).take i.size).toArray := by
            apply Array.toList_inj.1; simp [Array.toList_extract, List.take_drop]
          simp [part, run_isAgg hd, ha, run_size hi, this]
      · cases h
    | false =>
      rw [ha] at h
      simp only [cond_false] at h
      obtain ⟨x, hx, hden⟩ := AVal.denL_get hc h
      refine ⟨x, hden, fun w => ?_⟩
      have hx' : c[off]? = some x := by simpa using hx
      simp [part, run_isAgg hd, ha, hx']

def aField (P : Program) (t : TypeId) (x : AVal) (i : Nat) : Option AVal :=
  match x, P.underlying t with
  | .agg cs, some (.struct fs) => match fs.toList[i]? with
    | some f => aPart P f.type cs f.offset
    | none => none
  | _, _ => none
theorem aField_ok {P : Program} {ρ : Env} {t : TypeId} {x u : AVal} {i : Nat} {xv : Value} (h : aField P t x i = some u) (hx : x.den ρ = some xv) :
    ∃ y, u.den ρ = some y ∧ ∀ w, (Instr.field t xv i).run P w = .ok y w := by
  unfold aField at h
  split at h
  · rename_i cs fs hu
    split at h
    · rename_i f hf
      simp only [AVal.den] at hx
      obtain ⟨l, hl, rfl⟩ := Option.map_eq_some_iff.1 hx
      obtain ⟨y, hy, hr⟩ := aPart_ok (c := l.toArray) h (by simpa using hl)
      refine ⟨y, hy, fun w => ?_⟩
      have hf' : fs[i]? = some f := by simpa using hf
      simp [Instr.field, run_und hu, hf', asAgg, hr w]
    · cases h
  · cases h

-- INDEX
def litNat : IT → Option Nat
  | .lit (.ofNat n) => some n
  | _ => none
theorem litNat_den {ρ : Env} {t : IT} {n : Nat} (h : litNat t = some n) : t.den ρ = some (n : Int) := by
  unfold litNat at h
  split at h
  · cases h; rfl
  · cases h
def aIndex (P : Program) (t : TypeId) (x ix : AVal) : Option AVal :=
  match ix with
  | .int _ it => match litNat it with
    | none => none
    | some i => match P.underlying t, x with
      | some (.array len elem), .agg cs => match P.info? elem with
        | some e => cond (Nat.blt i len) (aPart P elem cs (i * e.size)) none
        | none => none
      | some .string, .str (.lit s) => match s[i]? with
        | some b => some (.int .u8 (.lit (.ofNat b.toNat)))
        | none => none
      | _, _ => none
  | _ => none
theorem aIndex_ok {P : Program} {ρ : Env} {t : TypeId} {x ix u : AVal} {xv iv : Value} (h : aIndex P t x ix = some u) (hx : x.den ρ = some xv) (hi : ix.den ρ = some iv) :
    ∃ y, u.den ρ = some y ∧ ∀ w, (Instr.index t xv iv).run P w = .ok y w := by
  unfold aIndex at h
  split at h
  · rename_i k it
    simp only [AVal.den] at hi
    obtain ⟨n, hn, rfl⟩ := Option.map_eq_some_iff.1 hi
    split at h
    · cases h
    · rename_i i hit
      rw [litNat_den hit] at hn; cases hn
      split at h
      · rename_i len elem cs hu
        split at h
        · rename_i e he
          cases hb : Nat.blt i len with
          | false => rw [hb] at h; cases h
          | true =>
            rw [hb] at h; simp only [cond_true] at h
            have hlt : i < len := by rw [Nat.blt_eq] at hb; exact hb
            simp only [AVal.den] at hx
            obtain ⟨l, hl, rfl⟩ := Option.map_eq_some_iff.1 hx
            obtain ⟨y, hy, hr⟩ := aPart_ok (c := l.toArray) h (by simpa using hl)
            refine ⟨y, hy, fun w => ?_⟩
            have h1 : (0 : Int) ≤ (i : Int) ∧ (i : Int) < (len : Int) := by omega
            simp [Instr.index, asIntOf, run_und hu, run_size he, h1, hlt, hr w]
        · cases h
      · rename_i s hu
        split at h
        · rename_i b hb
          cases h
          simp only [AVal.den, ST.den, Option.some.injEq] at hx
          subst hx
          refine ⟨.int .u8 b.toNat, rfl, fun w => ?_⟩
          have hlt : i < s.length := (List.getElem?_eq_some_iff.1 hb).1
          have h2 : (ByteArray.mk s.toArray)[i]? = some b := by
            rw [getElem?_pos (ByteArray.mk s.toArray) i (by show i < s.toArray.size; simpa using hlt)]
            have := (List.getElem?_eq_some_iff.1 hb).2
            show some (s.toArray[i]'(by simpa using hlt)) = some b
            simp [this]
          simp [Instr.index, asIntOf, run_und hu, h2]
        · cases h
      · cases h
  · cases h

-- WHAT LIES IN A TUPLE
def aExtract (x : AVal) (i : Nat) : Option AVal :=
  match x with
  | .tuple vs => vs[i]?
  | _ => none
theorem aExtract_ok {P : Program} {ρ : Env} {x u : AVal} {i : Nat} {xv : Value} (h : aExtract x i = some u) (hx : x.den ρ = some xv) :
    ∃ y, u.den ρ = some y ∧ ∀ w, (Instr.extract xv i).run P w = .ok y w := by
  unfold aExtract at h
  split at h
  · simp only [AVal.den] at hx
    obtain ⟨l, hl, rfl⟩ := Option.map_eq_some_iff.1 hx
    obtain ⟨y, hy, hd⟩ := AVal.denL_get hl h
    refine ⟨y, hd, fun w => ?_⟩
    simp [Instr.extract, hy]
  · cases h

-- INTERFACES
def aMkIface (P : Program) (t : TypeId) (x : AVal) : Option AVal :=
  match P.underlying t with
  | some (.interface _) => none
  | some _ => some (.iface t x)
  | none => none
theorem aMkIface_ok {P : Program} {ρ : Env} {t : TypeId} {x u : AVal} {xv : Value} (h : aMkIface P t x = some u) (hx : x.den ρ = some xv) :
    ∃ y, u.den ρ = some y ∧ ∀ w, (Instr.makeInterface t xv).run P w = .ok y w := by
  unfold aMkIface at h
  split at h
  · cases h
  · rename_i d hd hu
    cases h
    refine ⟨.iface t xv, by simp [AVal.den, hx], fun w => ?_⟩
    simp only [Instr.makeInterface, Sem.run_bind, run_und hu, Result.andThen_ok]
    cases d <;> first
      | rfl
      | exact absurd rfl (hd _)
  · cases h

def aAssert (P : Program) (x : AVal) (asserted : TypeId) (commaOk : Bool) : Option AVal :=
  match P.underlying asserted, x with
  | some (.interface _), _ => none
  | some _, .iface t v => cond (Nat.beq t asserted) (some (cond commaOk (.tuple [v, .bool (.lit true)]) v))
      (cond commaOk (match P.info? asserted with
        | some i => match i.zero.bind AVal.ofVal with
          | some z => some (.tuple [z, .bool (.lit false)])
          | none => none
        | none => none) none)
  | _, _ => none
theorem aAssert_ok {P : Program} {ρ : Env} {x u : AVal} {xt as : TypeId} {c : Bool} {xv : Value} (h : aAssert P x as c = some u) (hx : x.den ρ = some xv) :
    ∃ y, u.den ρ = some y ∧ ∀ w, (Instr.typeAssert xv xt as c).run P w = .ok y w := by
  unfold aAssert at h
  split at h
  · cases h
  · rename_i d t v hd hu
    simp only [AVal.den] at hx
    obtain ⟨y, hy, rfl⟩ := Option.map_eq_some_iff.1 hx
    cases hb : Nat.beq t as with
    | true =>
      rw [hb] at h; simp only [cond_true] at h
      have hte : t = as := Nat.eq_of_beq_eq_true hb
      subst hte
      cases h
      refine ⟨if c then .tuple #[y, .bool true] else y, ?_, fun w => ?_⟩
      · cases c <;> simp [AVal.den, AVal.denL, hy, BT.den]
      · simp only [Instr.typeAssert, Sem.run_bind, run_und hu, Result.andThen_ok]
        cases d <;> first
          | (simp; done)
          | exact absurd rfl (hd _)
    | false =>
      rw [hb] at h
      have hte : t ≠ as := fun e => by subst e; rw [Nat.beq_refl] at hb; cases hb
      cases c with
      | false => cases h
      | true =>
        simp only [cond_false, cond_true] at h
        split at h
        · rename_i i hi
          split at h
          · rename_i z hz
            cases h
            obtain ⟨zv, hz1, hz2⟩ := Option.bind_eq_some_iff.1 hz
            refine ⟨.tuple #[zv, .bool false], by simp [AVal.den, AVal.denL, BT.den, AVal.ofVal_den hz2], fun w => ?_⟩
            have hzr : (zeroValue as).run P w = .ok zv w := by simp [zeroValue, run_info hi, hz1]
            simp only [Instr.typeAssert, Sem.run_bind, run_und hu, Result.andThen_ok]
            cases d <;> first
              | (simp [hte, hzr]; done)
              | exact absurd rfl (hd _)
          · cases h
        · cases h
  · cases h

end Go.Vm
end
