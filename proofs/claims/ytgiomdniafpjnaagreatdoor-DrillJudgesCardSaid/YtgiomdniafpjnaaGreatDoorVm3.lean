/-
  A machine for abstract states over the model (part 3): blocks, heaps, and what is done to them.
-/
import Derived.Test.YtgiomdniafpjnaaGreatDoorVmF
import Derived.Laws.Rows
import Derived.Laws.Cells
import Derived.Laws.World
namespace Go.Vm

/-- The cells of a row whose length is no number: those that are known under a name, these, those and these behind them. -/
inductive AT where
  | var (a : Nat)
  | lits (vs : List AVal)
  | snoc (t : AT) (vs : List AVal)
  /-- a list of numbers, told as one number, of these kinds in turn -/
  | code (ks : List IntKind) (c : IT)
  /-- the bytes of a text -/
  | bts (s : ST)
def rowOf (ks : List IntKind) (l : List Int) : List Value := l.mapIdx fun i z => .int (ks.getD (i % ks.length) .i64) z
def aggCells : Value → Option (List Value)
  | .agg c => some c.toList
  | _ => none
def AT.den (ρ : Env) : AT → Option (List Value)
  | .var a => aggCells (ρ.V a)
  | .lits vs => AVal.denL ρ vs
  | .snoc t vs => match t.den ρ, AVal.denL ρ vs with
    | some x, some y => some (x ++ y)
    | _, _ => none
  | .code ks c => (c.den ρ).map fun x => rowOf ks (decL x)
  | .bts s => some ((s.den ρ).data.toList.map fun b => .int .u8 b.toNat)
theorem AT.den_mono {ρ ρ' : Env} (h : ρ.Le ρ') : ∀ {t : AT} {xs : List Value}, t.den ρ = some xs → t.den ρ' = some xs
  | .var a, xs, e => by simp only [AT.den, h.v] at e ⊢; exact e
  | .lits vs, xs, e => by simp only [AT.den] at e ⊢; exact AVal.denL_mono h _ e
  | .snoc t vs, xs, e => by
    simp only [AT.den] at e ⊢
    split at e
    · rename_i x y hx hy
      rw [AT.den_mono h hx, AVal.denL_mono h _ hy]; exact e
    · cases e
  | .code ks c, xs, e => by
    simp only [AT.den] at e ⊢
    obtain ⟨x, hx, rfl⟩ := Option.map_eq_some_iff.1 e
    rw [IT.den_mono h hx]; rfl
  | .bts s, xs, e => by simp only [AT.den, ST.den_mono h] at e ⊢; exact e
/-- Row by row, these kinds of numbers. -/
def Typed (ks : List IntKind) (m : Nat) (xs : List Value) : Prop := xs.length = m * ks.length ∧ ∀ i j k, i < m → ks[j]? = some k → ∃ z, xs[i * ks.length + j]? = some (.int k z)

def toZ : Value → Int
  | .int _ z => z
  | _ => 0
theorem rowOf_get (ks : List IntKind) (l : List Int) (i : Nat) : (rowOf ks l)[i]? = (l[i]?).map fun z => .int (ks.getD (i % ks.length) .i64) z := by
  simp [rowOf, List.getElem?_mapIdx]
theorem rowOf_length (ks : List IntKind) (l : List Int) : (rowOf ks l).length = l.length := by simp [rowOf]
theorem rowOf_toZ (ks : List IntKind) (l : List Int) : (rowOf ks l).map toZ = l := by
  apply List.ext_getElem?
  intro i
  rw [List.getElem?_map, rowOf_get]
  cases l[i]? <;> rfl
theorem Typed.rowOf {ks : List IntKind} {m : Nat} {xs : List Value} (h : Typed ks m xs) : xs = Go.Vm.rowOf ks (xs.map toZ) := by
  apply List.ext_getElem?
  intro i
  rw [rowOf_get, List.getElem?_map]
  cases hx : xs[i]? with
  | none => rfl
  | some x =>
    have hi : i < xs.length := (List.getElem?_eq_some_iff.1 hx).1
    rw [h.1] at hi
    have hk : 0 < ks.length := by
      rcases Nat.eq_zero_or_pos ks.length with h0 | h0
      · rw [h0, Nat.mul_zero] at hi; omega
      · exact h0
    have h1 : i / ks.length < m := Nat.div_lt_of_lt_mul (by rw [Nat.mul_comm]; exact hi)
    have h2 : i % ks.length < ks.length := Nat.mod_lt _ hk
    obtain ⟨z, hz⟩ := h.2 (i / ks.length) (i % ks.length) (ks[i % ks.length]) h1 (List.getElem?_eq_getElem h2)
    rw [Nat.div_add_mod' i ks.length, hx] at hz
    cases hz
    simp only [Option.map_some, toZ, List.getD_eq_getElem?_getD, List.getElem?_eq_getElem h2, Option.getD_some]
theorem rowOf_typed {ks : List IntKind} {m : Nat} {l : List Int} (h : l.length = m * ks.length) : Typed ks m (Go.Vm.rowOf ks l) := by
  refine ⟨by rw [rowOf_length, h], fun i j k hi hk => ?_⟩
  have hj : j < ks.length := (List.getElem?_eq_some_iff.1 hk).1
  have hlt : i * ks.length + j < l.length := by
    rw [h]
    have := Nat.mul_le_mul_right ks.length (show i + 1 ≤ m by omega)
    rw [Nat.add_mul] at this; omega
  refine ⟨l[i * ks.length + j], ?_⟩
  have hmod : (i * ks.length + j) % ks.length = j := by rw [Nat.mul_comm i, Nat.mul_add_mod, Nat.mod_eq_of_lt hj]
  rw [rowOf_get, List.getElem?_eq_getElem hlt, Option.map_some, hmod]
  simp only [List.getD_eq_getElem?_getD, hk, Option.getD_some]

inductive ABlk where
  /-- so many elements, of cells of these kinds; all in all room for so many -/
  | arr (t : AT) (ks : List IntKind) (elem : TypeId) (n o : IT) (cp : Option IT)
  /-- cells from the beginning; behind them more, if tail: all in all (number of the tail's name) times so many -/
  | cells (vals : List AVal) (elem : TypeId) (tail : Option (Nat × Nat))
  | map (es : List (AVal × AVal × Nat)) (clock : Nat)
  /-- a row of texts, told as one number; so many; all in all room for so many -/
  | srow (c : IT) (elem : TypeId) (n : IT) (cp : Option IT)
  /-- a map from ints to ints, told as one number: keys and values in turn -/
  | mapc (c : IT)
  /-- an object of a family, that lies in many blocks and begins here, told as one number -/
  | big (k : Nat) (c : IT)
  /-- an iterator over a map: over which; what the clock was; which have come; what the clock was then -/
  | iter (l : Nat) (since : Nat) (seen : List Nat) (last : Nat)
  /-- a loop over a function: what it began with (a name); its state; the jump that it waits to do -/
  | loop (t st pe : Nat)
  /-- the calls that the rounds of a loop put off: none -/
  | defd
/-- States of a loop over a function, and jumps, as numbers. -/
def lsOf : Nat → LoopState
  | 0 => .ready
  | 1 => .busy
  | 2 => .done
  | _ => .exhausted
def peOf : Nat → Option Code
  | 0 => none
  | 1 => some .ret
  | n + 2 => cond (Nat.beq (n % 2) 0) (some (.exit (n / 2))) (some (.goto (n / 2)))
/-- Entries of a map, told in turn. -/
def entOf : List Int → List (Value × Value)
  | k :: v :: r => (.int .i64 k, .int .i64 v) :: entOf r
  | _ => []
def kvOf (e : MapEntry) : Value × Value := (e.key, e.val)
/-- All entries were born before, each at a time of its own. -/
def Born (es : Array MapEntry) (cl : Nat) : Prop := (∀ e ∈ es.toList, e.born < cl) ∧ (es.toList.map (·.born)).Nodup
/-- The texts that a number tells. -/
def strsOf (x : Int) : List Value := (decL x).map fun z => .string (decS z)

structure HB where
  k : ABlk
  rw : Bool

def esDen (ρ : Env) : List (AVal × AVal × Nat) → Option (List MapEntry)
  | [] => some []
  | (a, b, n) :: r => match a.den ρ, b.den ρ, esDen ρ r with
    | some x, some y, some l => some (⟨x, y, n⟩ :: l)
    | _, _, _ => none

def tailOk (ρ : Env) (vals : Nat) (size : Nat) : Option (Nat × Nat) → Prop
  | none => size = vals
  | some (i, sz) => vals ≤ size ∧ ∃ n, ρ.N i = some n ∧ size = n * sz

/-- No cell of the row is frozen. -/
def FrOk (fr : Nat × Nat) (n : Nat) : Prop := fr.2 ≤ fr.1 ∨ n ≤ fr.1

def roomOk (ρ : Env) (sz size : Nat) : Option IT → Prop
  | none => True
  | some c => ∃ n : Nat, c.den ρ = some (n : Int) ∧ size = n * sz
theorem roomOk_mono {ρ ρ' : Env} (h : ρ.Le ρ') {sz s : Nat} {t : Option IT} (e : roomOk ρ sz s t) : roomOk ρ' sz s t := by
  cases t with
  | none => exact e
  | some p => obtain ⟨n, hn, hs⟩ := e; exact ⟨n, IT.den_mono h hn, hs⟩

def ABlk.rel (ρ : Env) : ABlk → Bool → Obj → Prop
  | .arr t ks elem n off cp, rw, o => ∃ xs c fr el, ∃ m b : Nat, o = .cells c el fr ∧ (rw = true → el = elem) ∧ t.den ρ = some xs ∧ off.den ρ = some (b : Int) ∧ (b ≤ c.size ∧ xs <+: c.toList.drop b) ∧ n.den ρ = some (m : Int) ∧ Typed ks m xs ∧ roomOk ρ ks.length (c.size - b) cp ∧ (rw = true → FrOk fr c.size)
  | .cells vals elem tail, rw, o => ∃ xs c fr, o = .cells c elem fr ∧ AVal.denL ρ vals = some xs ∧ xs <+: c.toList ∧ tailOk ρ vals.length c.size tail ∧ (rw = true → FrOk fr c.size)
  | .map es clock, _, o => ∃ l, o = .map l.toArray clock ∧ esDen ρ es = some l
  | .srow ct elem n cp, rw, o => ∃ x c fr el, o = .cells c el fr ∧ (rw = true → el = elem) ∧ ct.den ρ = some x ∧ strsOf x <+: c.toList ∧ n.den ρ = some ((decL x).length : Int) ∧ roomOk ρ 1 c.size cp ∧ (rw = true → FrOk fr c.size)
  | .mapc ct, _, o => ∃ x es cl, o = .map es cl ∧ ct.den ρ = some x ∧ es.toList.map kvOf = entOf (decL x) ∧ Born es cl
  | .big _ c, _, _ => ∃ x, c.den ρ = some x
  | .iter l since seen last, _, o => ∃ b, ρ.N l = some b ∧ o = .mapIter (some b) since seen.toArray last
  | .loop t st pe, _, o => ∃ r, ρ.T t = some r ∧ o = .loop { r with state := lsOf st, pending := peOf pe }
  | .defd, _, o => o = .deferred (some [])

theorem esDen_mono {ρ ρ' : Env} (h : ρ.Le ρ') : ∀ (l : List (AVal × AVal × Nat)) {xs : List MapEntry}, esDen ρ l = some xs → esDen ρ' l = some xs
  | [], xs, e => e
  | (a, b, n) :: r, xs, e => by
    simp only [esDen] at e ⊢
    split at e
    · rename_i x y l hx hy hl
      rw [AVal.den_mono h a hx, AVal.den_mono h b hy, esDen_mono h r hl]; exact e
    · cases e
theorem tailOk_mono {ρ ρ' : Env} (h : ρ.Le ρ') {v s : Nat} {t : Option (Nat × Nat)} (e : tailOk ρ v s t) : tailOk ρ' v s t := by
  cases t with
  | none => exact e
  | some p => obtain ⟨a, n, hn, hs⟩ := e; exact ⟨a, n, h.n _ _ hn, hs⟩
theorem ABlk.rel_mono {ρ ρ' : Env} (h : ρ.Le ρ') {k : ABlk} {rw : Bool} {o : Obj} (e : k.rel ρ rw o) : k.rel ρ' rw o := by
  cases k with
  | arr t ks elem n off cp =>
    obtain ⟨xs, c, fr, el, m, b, ho, hel, hd, hb, hp, hn, ht, hr, hf⟩ := e
    exact ⟨xs, c, fr, el, m, b, ho, hel, AT.den_mono h hd, IT.den_mono h hb, hp, IT.den_mono h hn, ht, roomOk_mono h hr, hf⟩
  | cells vals elem tail =>
    obtain ⟨xs, c, fr, ho, hd, hp, ht, hf⟩ := e
    exact ⟨xs, c, fr, ho, AVal.denL_mono h _ hd, hp, tailOk_mono h ht, hf⟩
  | map es clock =>
    obtain ⟨l, ho, hd⟩ := e
    exact ⟨l, ho, esDen_mono h _ hd⟩
  | srow ct elem n cp =>
    obtain ⟨x, c, fr, el, ho, hel, hx, hp, hn, hr, hf⟩ := e
    exact ⟨x, c, fr, el, ho, hel, IT.den_mono h hx, hp, IT.den_mono h hn, roomOk_mono h hr, hf⟩
  | mapc ct =>
    obtain ⟨x, es, cl, ho, hx, he⟩ := e
    exact ⟨x, es, cl, ho, IT.den_mono h hx, he⟩
  | big k c =>
    obtain ⟨x, hx⟩ := e
    exact ⟨x, IT.den_mono h hx⟩
  | iter l since seen last =>
    obtain ⟨b, hb, ho⟩ := e
    exact ⟨b, h.n _ _ hb, ho⟩
  | loop t st pe =>
    obtain ⟨r, hr, ho⟩ := e
    exact ⟨r, h.t _ _ hr, ho⟩
  | defd => exact e
def ABlk.nb : ABlk → Bool
  | .big _ _ => false
  | _ => true

abbrev Heap := Tr HB

-- OBJECTS IN MANY BLOCKS
/-- The objects that lie in many blocks: which these are; they lie apart from each other, and from all else that has a name. -/
structure BigAt (ρ : Env) (H : Heap) (n0 : Nat → Prop) (w : World) (Fp : Nat → Nat → Prop) : Prop where
  ok : ∀ l k c rw, H.get l = some ⟨.big k c, rw⟩ → ∃ b x, ρ.N l = some b ∧ c.den ρ = some x ∧ fam k x w b (Fp l) ∧ (rw = true → ∀ y, Fp l y → n0 y)
  apart : ∀ l l' k c rw h', H.get l = some ⟨.big k c, rw⟩ → H.get l' = some h' → l ≠ l' → ∀ y, Fp l y → ρ.N l' ≠ some y ∧ (h'.k.nb = false → ¬ Fp l' y)
theorem ABlk.nb_of {k : ABlk} (h : k.nb = false) : ∃ n c, k = .big n c := by
  cases k <;> simp [ABlk.nb] at h; exact ⟨_, _, rfl⟩
theorem BigAt.move {ρ ρ' : Env} {H H' : Heap} {n0 : Nat → Prop} {w w' : World} {Fp : Nat → Nat → Prop} (h : BigAt ρ H n0 w Fp) (τ : Nat → Nat)
    (h1 : ∀ l k c rw, H'.get l = some ⟨.big k c, rw⟩ → ∃ c' rw', H.get (τ l) = some ⟨.big k c', rw'⟩ ∧ (rw = true → rw' = true) ∧ ρ'.N l = ρ.N (τ l) ∧ ∀ x, c'.den ρ = some x → c.den ρ' = some x)
    (h2 : ∀ l k c rw y, H.get l = some ⟨.big k c, rw⟩ → Fp l y → w'.heap[y]? = w.heap[y]?)
    (h3 : ∀ l l' k c rw h', H'.get l = some ⟨.big k c, rw⟩ → H'.get l' = some h' → l ≠ l' → (∀ y, Fp (τ l) y → ρ'.N l' ≠ some y) ∧ (h'.k.nb = false → τ l ≠ τ l')) : BigAt ρ' H' n0 w' fun l => Fp (τ l) := by
  refine ⟨fun l k c rw hl => ?_, fun l l' k c rw h' hl hl' hne y hy => ?_⟩
  · obtain ⟨c', rw', g1, g2, g3, g4⟩ := h1 l k c rw hl
    obtain ⟨b, x, e1, e2, e3, e4⟩ := h.ok _ _ _ _ g1
    exact ⟨b, x, g3.trans e1, g4 x e2, fam_local e3 fun y hy => h2 _ _ _ _ y g1 hy, fun hr => e4 (g2 hr)⟩
  · obtain ⟨p1, p2⟩ := h3 l l' k c rw h' hl hl' hne
    refine ⟨p1 y hy, fun hnb => ?_⟩
    obtain ⟨c', rw', g1, _⟩ := h1 l k c rw hl
    obtain ⟨n, c2, hk⟩ := ABlk.nb_of hnb
    obtain ⟨hk', r'⟩ := h'
    simp only at hk; subst hk
    obtain ⟨c3, rw3, g2, _⟩ := h1 l' n c2 r' hl'
    exact (h.apart _ _ _ _ _ _ g1 g2 (p2 hnb) y hy).2 rfl
theorem BigAt.none {ρ : Env} {H : Heap} {n0 : Nat → Prop} {w : World} (h : ∀ l k, H.get l = some k → k.k.nb = true) : ∃ Fp, BigAt ρ H n0 w Fp := by
  have no : ∀ l k c rw, H.get l ≠ some ⟨.big k c, rw⟩ := fun l k c rw hl => by have := h _ _ hl; cases this
  exact ⟨fun _ _ => False, fun l k c rw hl => absurd hl (no _ _ _ _), fun l l' k c rw h' hl => absurd hl (no _ _ _ _)⟩
theorem BigAt.sub {ρ : Env} {H H' : Heap} {n0 : Nat → Prop} {w : World} {Fp : Nat → Nat → Prop} (h : BigAt ρ H n0 w Fp) (hs : ∀ l k, H'.get l = some k → H.get l = some k) : BigAt ρ H' n0 w Fp :=
  ⟨fun l k c rw hl => h.ok l k c rw (hs _ _ hl), fun l l' k c rw h' hl hl' => h.apart l l' k c rw h' (hs _ _ hl) (hs _ _ hl')⟩
theorem BigAt.agree {ρ : Env} {H : Heap} {n0 : Nat → Prop} {w w' : World} {Fp : Nat → Nat → Prop} (h : BigAt ρ H n0 w Fp) (e : ∀ y, y < w.heap.size → w'.heap[y]? = w.heap[y]?) : BigAt ρ H n0 w' Fp :=
  h.move id (fun _ _ c rw hl => ⟨c, rw, hl, id, rfl, fun _ => id⟩) (fun l k c rw y hl hy => by
    obtain ⟨b, x, _, _, e3, _⟩ := h.ok _ _ _ _ hl
    exact e y (fam_lt e3 hy)) (fun l l' k c rw h' hl hl' hne => ⟨fun y hy => (h.apart _ _ _ _ _ _ hl hl' hne y hy).1, fun _ => hne⟩)
theorem BigAt.le {ρ ρ' : Env} {H : Heap} {n0 : Nat → Prop} {w : World} {Fp : Nat → Nat → Prop} (h : BigAt ρ H n0 w Fp) (hle : ρ.Le ρ') (hN : ∀ l k, H.get l = some k → ρ'.N l = ρ.N l) : BigAt ρ' H n0 w Fp :=
  h.move id (fun _ _ c rw hl => ⟨c, rw, hl, id, hN _ _ hl, fun _ => IT.den_mono hle⟩) (fun _ _ _ _ _ _ _ => rfl) (fun l l' k c rw h' hl hl' hne => ⟨fun y hy => by
    rw [hN _ _ hl']; exact (h.apart _ _ _ _ _ _ hl hl' hne y hy).1, fun _ => hne⟩)
/-- A block of one piece comes to a name, written or not; the world is else as it was. -/
theorem BigAt.set {ρ : Env} {H : Heap} {n0 : Nat → Prop} {w w' : World} {Fp : Nat → Nat → Prop} (h : BigAt ρ H n0 w Fp) {l0 b0 : Nat} {k0 : HB} (hnb : k0.k.nb = true) (hN : ρ.N l0 = some b0) (hb : ∀ l k c rw, H.get l = some ⟨.big k c, rw⟩ → l ≠ l0 → ¬ Fp l b0)
    (e : ∀ y, y ≠ b0 → y < w.heap.size → w'.heap[y]? = w.heap[y]?) : BigAt ρ (H.set l0 k0) n0 w' Fp := by
  have key : ∀ l k c rw, (H.set l0 k0).get l = some ⟨.big k c, rw⟩ → l ≠ l0 ∧ H.get l = some ⟨.big k c, rw⟩ := fun l k c rw hl => by
    rcases Tr.get_set hl with ⟨_, rfl⟩ | ⟨hne, hl⟩
    · cases hnb
    · exact ⟨hne, hl⟩
  refine ⟨fun l k c rw hl => ?_, fun l l' k c rw h' hl hl' hne y hy => ?_⟩
  · obtain ⟨hne, hl⟩ := key l k c rw hl
    obtain ⟨b, x, e1, e2, e3, e4⟩ := h.ok _ _ _ _ hl
    exact ⟨b, x, e1, e2, fam_local e3 fun y hy => e y (fun he => hb l k c rw hl hne (he ▸ hy)) (fam_lt e3 hy), e4⟩
  · obtain ⟨hne0, hl0⟩ := key l k c rw hl
    rcases Tr.get_set hl' with ⟨rfl, rfl⟩ | ⟨hne', hl'⟩
    · refine ⟨fun he => ?_, fun e => by rw [hnb] at e; cases e⟩
      rw [hN] at he; cases he
      exact hb l k c rw hl0 hne0 hy
    · exact h.apart _ _ _ _ _ _ hl0 hl' hne y hy

/-- What a walk goes by: the world ahead of it, what may be written of that. -/
structure Base where
  w0 : World
  own : Nat → Prop
  /-- what is known of the names -/
  G : (Nat → Int) → (Nat → Bool) → (Nat → ByteArray) → (Nat → Value) → (Nat → Int → Int → Int) → Prop
/-- Of what was there nothing may be written. -/
def noO : Nat → Prop := fun _ => False
def Base.plain (w : World) : Base := ⟨w, noO, fun _ _ _ _ _ => True⟩
/-- What may be written: what is new, and what is given to be written. -/
def Base.dom (β : Base) (y : Nat) : Prop := β.w0.heap.size ≤ y ∨ β.own y

structure HRel (β : Base) (ρ : Env) (H : Heap) (nl : Nat) (w : World) : Prop where
  blk : ∀ l k, H.get l = some k → ∃ b o, ρ.N l = some b ∧ w.heap[b]? = some o ∧ k.k.rel ρ k.rw o
  inj : ∀ l l' k k', H.get l = some k → H.get l' = some k' → k.rw = true → ρ.N l = ρ.N l' → l = l'
  own : ∀ l k b, H.get l = some k → k.rw = true → ρ.N l = some b → β.dom b
  fresh : ∀ i, nl ≤ i → ρ.N i = none
  ownN : ∀ i, nl ≤ i → ρ.T i = none
  size : β.w0.heap.size ≤ w.heap.size
  frame : ∀ b, b < β.w0.heap.size → ¬ β.own b → w.heap[b]? = β.w0.heap[b]?
  tape : w.tape = β.w0.tape
  os : w.os = β.w0.os
  out : w.output = β.w0.output
  g : β.G ρ.I ρ.B ρ.S ρ.V ρ.F
  big : ∃ Fp, BigAt ρ H β.dom w Fp

section
variable {β : Base} {ρ : Env} {H : Heap} {nl : Nat} {w : World}

theorem HRel.drew (h : HRel β ρ H nl w) : HRel β ρ H nl { w with drawn := w.drawn + 1 } :=
  ⟨h.blk, h.inj, h.own, h.fresh, h.ownN, h.size, h.frame, h.tape, h.os, h.out, h.g, h.big.imp fun _ hB => hB.agree fun _ _ => rfl⟩

theorem HRel.lt (h : HRel β ρ H nl w) {l : Nat} {k : HB} {b : Nat} (hl : H.get l = some k) (hb : ρ.N l = some b) : b < w.heap.size := by
  obtain ⟨b', o, hb', ho, _⟩ := h.blk l k hl
  rw [hb] at hb'; cases hb'
  exact (Array.getElem?_eq_some_iff.1 ho).1

/-- The numbers' names grow. -/
theorem HRel.num (h : HRel β ρ H nl w) (n : Nat) : HRel β (ρ.put nl n) H (nl + 1) w := by
  have hle : ρ.Le (ρ.put nl n) := Env.le_put (h.fresh nl (Nat.le_refl _))
  have hN : ∀ l, l < nl → (ρ.put nl n).N l = ρ.N l := fun l hl => Env.put_other ρ n (by omega)
  have hlt : ∀ l k, H.get l = some k → l < nl := fun l k hl => by
    obtain ⟨b, o, hb, _⟩ := h.blk l k hl
    rcases Nat.lt_or_ge l nl with h1 | h1
    · exact h1
    · rw [h.fresh l h1] at hb; cases hb
  refine ⟨fun l k hl => ?_, fun l l' k k' hl hl' hr he => ?_, fun l k b hl hr hb => ?_, fun i hi => ?_, fun i hi => h.ownN i (by omega), h.size, fun b hb hn => ?_, h.tape, h.os, h.out, h.g, h.big.imp fun _ hB => hB.le hle fun l k hl => hN l (hlt l k hl)⟩
  · obtain ⟨b, o, hb, ho, hk⟩ := h.blk l k hl
    exact ⟨b, o, hle.n _ _ hb, ho, ABlk.rel_mono hle hk⟩
  · rw [hN l (hlt l k hl), hN l' (hlt l' k' hl')] at he
    exact h.inj l l' k k' hl hl' hr he
  · rw [hN l (hlt l k hl)] at hb
    exact h.own l k b hl hr hb
  · rw [Env.put_other ρ n (by omega)]; exact h.fresh i (by omega)
  · exact h.frame b hb hn

/-- A new block. -/
theorem HRel.new (h : HRel β ρ H nl w) (o : Obj) (k : ABlk) (rw : Bool) (hk : k.rel ρ rw o) (hnb : k.nb = true := by rfl) :
    HRel β (ρ.put nl w.heap.size) (H.set nl ⟨k, rw⟩) (nl + 1) { w with heap := w.heap.push o } := by
  have hle : ρ.Le (ρ.put nl w.heap.size) := Env.le_put (h.fresh nl (Nat.le_refl _))
  have hn := h.num w.heap.size
  have hold : ∀ b, b < w.heap.size → (w.heap.push o)[b]? = w.heap[b]? := fun b hb => by rw [Array.getElem?_push]; simp [Nat.ne_of_lt hb]
  have hlt : ∀ l k, H.get l = some k → l < nl := fun l k hl => by
    obtain ⟨b, o, hb, _⟩ := h.blk l k hl
    rcases Nat.lt_or_ge l nl with h1 | h1
    · exact h1
    · rw [h.fresh l h1] at hb; cases hb
  refine ⟨fun l k' hl => ?_, fun l l' k1 k2 hl hl' hr he => ?_, fun l k' b hl hr hb => ?_, hn.fresh, hn.ownN, ?_, fun b hb hf => ?_, h.tape, h.os, h.out, h.g, hn.big.imp fun Fp hB => hB.set hnb (Env.put_same ..) (fun l k c rw hl _ hy => ?_) (fun y _ hy => hold y hy)⟩
  · rcases Tr.get_set hl with ⟨rfl, rfl⟩ | ⟨hne, hl⟩
    · exact ⟨w.heap.size, o, Env.put_same .., by simp, ABlk.rel_mono hle hk⟩
    · obtain ⟨b, o', hb, ho, hk'⟩ := hn.blk l k' hl
      have hb' : ρ.N l = some b := by rw [← Env.put_other ρ w.heap.size hne]; exact hb
      exact ⟨b, o', hb, by show (w.heap.push o)[b]? = _; rw [hold b (h.lt hl hb')]; exact ho, hk'⟩
  · rcases Tr.get_set hl with ⟨e1, e2⟩ | ⟨hne, g1⟩
    · rcases Tr.get_set hl' with ⟨e3, e4⟩ | ⟨hne', g2⟩
      · rw [e1, e3]
      · obtain ⟨b, o', hb, _⟩ := h.blk l' k2 g2
        rw [e1, Env.put_same, Env.put_other ρ _ hne', hb] at he
        have := h.lt g2 hb
        injection he with he; omega
    · rcases Tr.get_set hl' with ⟨e3, e4⟩ | ⟨hne', g2⟩
      · obtain ⟨b, o', hb, _⟩ := h.blk l k1 g1
        rw [e3, Env.put_same, Env.put_other ρ _ hne, hb] at he
        have := h.lt g1 hb
        injection he with he; omega
      · exact hn.inj l l' k1 k2 g1 g2 hr he
  · rcases Tr.get_set hl with ⟨rfl, rfl⟩ | ⟨hne, hl⟩
    · rw [Env.put_same] at hb; cases hb; exact .inl h.size
    · exact hn.own l k' b hl hr hb
  · show β.w0.heap.size ≤ (w.heap.push o).size
    have := h.size; simp; omega
  · show (w.heap.push o)[b]? = _
    rw [hold b (by have := h.size; omega)]
    exact hn.frame b hb hf
  · obtain ⟨b, x, _, _, e3, _⟩ := hB.ok _ _ _ _ hl
    exact absurd (fam_lt e3 hy) (Nat.lt_irrefl _)

/-- What a loop begins with comes to a name. -/
theorem HRel.putT (h : HRel β ρ H nl w) {i : Nat} (hi : i < nl) (hT : ρ.T i = none) (r : Loop) : HRel β (ρ.putT i r) H nl w :=
  ⟨fun l k hl => let ⟨b, o, hb, ho, hk⟩ := h.blk l k hl; ⟨b, o, hb, ho, ABlk.rel_mono (Env.le_putT hT) hk⟩, h.inj, h.own, h.fresh, fun j hj => by rw [Env.putT_other ρ r (by omega)]; exact h.ownN j hj, h.size, h.frame, h.tape, h.os, h.out, h.g,
    h.big.imp fun _ hB => hB.le (Env.le_putT hT) fun _ _ _ => rfl⟩

/-- What a name waits for is laid. -/
theorem HRel.lay {E : Env} (hn : HRel β E H nl w) {l0 : Nat} (hN : E.N l0 = some w.heap.size) (o : Obj) (k : ABlk) (rw : Bool) (hk : k.rel E rw o) (hnb : k.nb = true := by rfl) :
    HRel β E (H.set l0 ⟨k, rw⟩) nl { w with heap := w.heap.push o } := by
  have hold : ∀ b, b < w.heap.size → (w.heap.push o)[b]? = w.heap[b]? := fun b hb => by rw [Array.getElem?_push]; simp [Nat.ne_of_lt hb]
  refine ⟨fun l k' hl => ?_, fun l l' k1 k2 hl hl' hr he => ?_, fun l k' b hl hr hb => ?_, hn.fresh, hn.ownN, ?_, fun b hb hf => ?_, hn.tape, hn.os, hn.out, hn.g, hn.big.imp fun Fp hB => hB.set hnb hN (fun l k c rw hl _ hy => ?_) (fun y _ hy => hold y hy)⟩
  · rcases Tr.get_set hl with ⟨rfl, rfl⟩ | ⟨hne, hl⟩
    · exact ⟨w.heap.size, o, hN, by simp, hk⟩
    · obtain ⟨b, o', hb, ho, hk'⟩ := hn.blk l k' hl
      exact ⟨b, o', hb, by show (w.heap.push o)[b]? = _; rw [hold b (hn.lt hl hb)]; exact ho, hk'⟩
  · rcases Tr.get_set hl with ⟨e1, e2⟩ | ⟨hne, g1⟩
    · rcases Tr.get_set hl' with ⟨e3, e4⟩ | ⟨hne', g2⟩
      · rw [e1, e3]
      · rw [e1, hN] at he
        have := hn.lt g2 he.symm
        omega
    · rcases Tr.get_set hl' with ⟨e3, e4⟩ | ⟨hne', g2⟩
      · rw [e3, hN] at he
        have := hn.lt g1 he
        omega
      · exact hn.inj l l' k1 k2 g1 g2 hr he
  · rcases Tr.get_set hl with ⟨rfl, rfl⟩ | ⟨hne, hl⟩
    · rw [hN] at hb; cases hb; exact .inl hn.size
    · exact hn.own l k' b hl hr hb
  · show β.w0.heap.size ≤ (w.heap.push o).size
    have := hn.size; simp; omega
  · show (w.heap.push o)[b]? = _
    rw [hold b (by have := hn.size; omega)]
    exact hn.frame b hb hf
  · obtain ⟨b, x, _, _, e3, _⟩ := hB.ok _ _ _ _ hl
    exact absurd (fam_lt e3 hy) (Nat.lt_irrefl _)
/-- A loop over a function begins. -/
theorem HRel.newLoop (h : HRel β ρ H nl w) (q : Loop) (hT : ρ.T nl = none) (hq : q.state = .ready) (hp : q.pending = none) :
    HRel β ((ρ.put nl w.heap.size).putT nl q) (H.set nl ⟨.loop nl 0 0, true⟩) (nl + 1) { w with heap := w.heap.push (.loop q) } := by
  refine ((h.num w.heap.size).putT (i := nl) (by omega) hT q).lay (l0 := nl) ?_ (.loop q) (.loop nl 0 0) true ⟨q, Env.putT_same .., ?_⟩
  · show (ρ.put nl w.heap.size).N nl = _
    rw [Env.put_same]
  · obtain ⟨a, b, c, d, e, f, g, i⟩ := q
    simp only at hq hp
    subst hq; subst hp
    rfl

/-- A block is forgotten. -/
theorem HRel.del (h : HRel β ρ H nl w) (l : Nat) : HRel β ρ (H.del l) nl w :=
  ⟨fun l k hl => h.blk l k (Tr.get_del hl).2, fun l l' k k' hl hl' => h.inj l l' k k' (Tr.get_del hl).2 (Tr.get_del hl').2, fun l k b hl => h.own l k b (Tr.get_del hl).2,
    h.fresh, h.ownN, h.size, h.frame, h.tape, h.os, h.out, h.g, h.big.imp fun _ hB => hB.sub fun _ _ hl => (Tr.get_del hl).2⟩

/-- A block that may be written turns into another one. -/
theorem HRel.write (h : HRel β ρ H nl w) {l b : Nat} {k k' : HB} (hl : H.get l = some k) (hrw : k.rw = true) (hb : ρ.N l = some b) {w' : World} {o' : Obj}
    (hk' : k'.k.rel ρ k'.rw o') (hw : w'.heap = w.heap.setIfInBounds b o') (ht : w'.tape = w.tape) (hos : w'.os = w.os) (hout : w'.output = w.output) (hnb : k'.k.nb = true := by rfl) :
    HRel β ρ (H.set l k') nl w' := by
  have hblt := h.lt hl hb
  have hsame : w'.heap[b]? = some o' := by rw [hw]; simp [hblt]
  have hother : ∀ c, c ≠ b → w'.heap[c]? = w.heap[c]? := fun c hc => by rw [hw]; simp [hc.symm]
  refine ⟨fun l1 k1 h1 => ?_, fun l1 l2 k1 k2 h1 h2 hr he => ?_, fun l1 k1 b1 h1 hr hb1 => ?_, h.fresh, h.ownN, ?_, fun c hc hf => ?_, ht.trans h.tape, hos.trans h.os, hout.trans h.out, h.g, h.big.imp fun Fp hB => hB.set hnb hb (fun l1 k1 c1 rw1 h1 hne hy => (hB.apart _ _ _ _ _ _ h1 hl hne b hy).1 hb) (fun y hy _ => hother y hy)⟩
  · rcases Tr.get_set h1 with ⟨rfl, rfl⟩ | ⟨hne, h1⟩
    · exact ⟨b, o', hb, hsame, hk'⟩
    · obtain ⟨c, oc, hc, hoc, hkc⟩ := h.blk l1 k1 h1
      refine ⟨c, oc, hc, ?_, hkc⟩
      rw [hother c]
      · exact hoc
      · intro e; subst e
        exact hne (h.inj l l1 k k1 hl h1 hrw (hb.trans hc.symm)).symm
  · rcases Tr.get_set h1 with ⟨e1, e2⟩ | ⟨hne, g1⟩
    · rcases Tr.get_set h2 with ⟨e3, e4⟩ | ⟨hne2, g2⟩
      · rw [e1, e3]
      · rw [e1]; rw [e1] at he; exact h.inj _ _ _ _ hl g2 hrw he
    · rcases Tr.get_set h2 with ⟨e3, e4⟩ | ⟨hne2, g2⟩
      · rw [e3]; rw [e3] at he; exact (h.inj _ _ _ _ hl g1 hrw he.symm).symm
      · exact h.inj _ _ _ _ g1 g2 hr he
  · rcases Tr.get_set h1 with ⟨rfl, rfl⟩ | ⟨hne, h1⟩
    · exact h.own _ k b1 hl hrw hb1
    · exact h.own l1 k1 b1 h1 hr hb1
  · rw [hw]; simp; exact h.size
  · rw [hother c]
    · exact h.frame c hc hf
    · intro e; subst e
      rcases h.own l k c hl hrw hb with h1 | h1
      · omega
      · exact hf h1

/-- A block that may be written turns into what is not told, and is forgotten. -/
theorem HRel.lose (h : HRel β ρ H nl w) {l b : Nat} {k : HB} (hl : H.get l = some k) (hrw : k.rw = true) (hb : ρ.N l = some b) {w' : World} {o' : Obj}
    (hw : w'.heap = w.heap.setIfInBounds b o') (ht : w'.tape = w.tape) (hos : w'.os = w.os) (hout : w'.output = w.output) :
    HRel β ρ (H.del l) nl w' := by
  have hother : ∀ c, c ≠ b → w'.heap[c]? = w.heap[c]? := fun c hc => by rw [hw]; simp [hc.symm]
  refine ⟨fun l1 k1 h1 => ?_, fun l1 l2 k1 k2 h1 h2 => h.inj l1 l2 k1 k2 (Tr.get_del h1).2 (Tr.get_del h2).2, fun l1 k1 b1 h1 => h.own l1 k1 b1 (Tr.get_del h1).2, h.fresh, h.ownN, ?_, fun c hc hf => ?_, ht.trans h.tape, hos.trans h.os, hout.trans h.out, h.g, h.big.imp fun Fp hB => ?_⟩
  · obtain ⟨hne, h1⟩ := Tr.get_del h1
    obtain ⟨c, oc, hc, hoc, hkc⟩ := h.blk l1 k1 h1
    refine ⟨c, oc, hc, ?_, hkc⟩
    rw [hother c]
    · exact hoc
    · intro e; subst e
      exact hne (h.inj l l1 k k1 hl h1 hrw (hb.trans hc.symm)).symm
  · rw [hw]; simp; exact h.size
  · rw [hother c]
    · exact h.frame c hc hf
    · intro e; subst e
      rcases h.own l k c hl hrw hb with h1 | h1
      · omega
      · exact hf h1
  · refine (hB.sub (H' := H.del l) fun _ _ hl => (Tr.get_del hl).2).move id (fun _ _ c rw hl => ⟨c, rw, hl, id, rfl, fun _ => id⟩) (fun l1 k1 c1 rw1 y h1 hy => hother y fun e => ?_) (fun l1 l2 k1 c1 rw1 h' h1 h2 hne => ⟨fun y hy => (hB.apart _ _ _ _ _ _ (Tr.get_del h1).2 (Tr.get_del h2).2 hne y hy).1, fun _ => hne⟩)
    obtain ⟨hne, h1⟩ := Tr.get_del h1
    subst e
    exact (hB.apart _ _ _ _ _ _ h1 hl hne _ hy).1 hb

end

-- THE MODEL'S OWN READS AND WRITES OF CELLS
theorem cell_of (w : World) {b j : Nat} {c : Array Value} {t : TypeId} {fr : Nat × Nat} (hg : w.heap[b]? = some (.cells c t fr)) : w.cell? ⟨b, j, none⟩ = c[j]? :=
  cell_of_row w b j c t fr hg

theorem addr_add (b o n : Nat) : (Addr.mk b o none).add n = ⟨b, o + n, none⟩ := by
  unfold Addr.add
  split
  · rename_i h; subst h; rfl
  · rfl

theorem loadCells_run {P : Program} {w : World} {b o n : Nat} {c : Array Value} {t : TypeId} {fr : Nat × Nat} (hg : w.heap[b]? = some (.cells c t fr)) (hn : o + n ≤ c.size) :
    (loadCells ⟨b, o, none⟩ n).run P w = .ok ((c.toList.drop o).take n).toArray w := by
  have hlen : ((c.toList.drop o).take n).length = n := by simp; omega
  have := run_loadCells_list (P := P) (w := w) ⟨b, o, none⟩ ((c.toList.drop o).take n) (fun j v hj => by
    rw [addr_add, cell_of w hg]
    have hjn : j < n := by
      have := (List.getElem?_eq_some_iff.1 hj).1; omega
    rw [List.getElem?_take_of_lt hjn, List.getElem?_drop] at hj
    simpa using hj)
  rw [hlen] at this
  exact this

/-- A value that fills one cell. -/
def isOne : Value → Bool
  | .agg _ | .tuple _ => false
  | _ => true

theorem setCell_heap (w : World) {b j : Nat} {c : Array Value} {t : TypeId} {fr : Nat × Nat} (v : Value) (hg : w.heap[b]? = some (.cells c t fr)) :
    (w.setCell ⟨b, j, none⟩ v).heap = w.heap.setIfInBounds b (.cells (c.setIfInBounds j v) t fr) := by
  have hb : b < w.heap.size := (Array.getElem?_eq_some_iff.1 hg).1
  have hg' : w.heap[b] = .cells c t fr := (Array.getElem?_eq_some_iff.1 hg).2
  apply Array.ext_getElem?
  intro i
  simp only [World.setCell, Array.getElem?_modify, Array.getElem?_setIfInBounds]
  by_cases hi : b = i
  · subst hi; simp [hb, hg']
  · simp [hi]

theorem run_store_one {P : Program} {w : World} {b j : Nat} {c : Array Value} {t : TypeId} {fr : Nat × Nat} {v : Value} (hg : w.heap[b]? = some (.cells c t fr)) (hj : j < c.size)
    (hv : isOne v = true) (hfr : FrOk fr c.size) : (store ⟨b, j, none⟩ v).run P w = .ok () (w.setCell ⟨b, j, none⟩ v) := by
  have hc : w.cell? ⟨b, j, none⟩ = some c[j] := by rw [cell_of w hg]; simp [hj]
  have hf : w.frozen? ⟨b, j, none⟩ = false := by
    simp only [World.frozen?, hg]
    rw [Bool.eq_false_iff]; simp; unfold FrOk at hfr; omega
  unfold store
  cases v <;> first
    | (simp [isOne] at hv; done)
    | simp [Sem.run, hc, hf]

theorem storeCells_run {P : Program} {b : Nat} {t : TypeId} {fr : Nat × Nat} : ∀ (vs : List Value) (i o : Nat) (w : World) (c : Array Value), FrOk fr c.size →
    w.heap[b]? = some (.cells c t fr) → o + i + vs.length ≤ c.size → (∀ v ∈ vs, isOne v = true) →
    ∃ w' c', (storeCells ⟨b, o, none⟩ vs i).run P w = .ok () w' ∧ w'.heap = w.heap.setIfInBounds b (.cells c' t fr) ∧
      c'.toList = c.toList.take (o + i) ++ vs ++ c.toList.drop (o + i + vs.length) ∧ w'.tape = w.tape ∧ w'.os = w.os ∧ w'.output = w.output := by
  intro vs
  induction vs with
  | nil =>
    intro i o w c _ hg hn hv
    refine ⟨w, c, rfl, ?_, by simp, rfl, rfl, rfl⟩
    have hb : b < w.heap.size := (Array.getElem?_eq_some_iff.1 hg).1
    apply Array.ext_getElem?
    intro j
    rw [Array.getElem?_setIfInBounds]
    by_cases hj : b = j
    · subst hj; simp [hb, (Array.getElem?_eq_some_iff.1 hg).2]
    · simp [hj]
  | cons v r ih =>
    intro i o w c hfr hg hn hv
    simp only [List.length_cons] at hn
    have hb : b < w.heap.size := (Array.getElem?_eq_some_iff.1 hg).1
    have hs := run_store_one (P := P) hg (show o + i < c.size by omega) (hv v (by simp)) hfr
    have hheap := setCell_heap w (j := o + i) v hg
    have hg1 : (w.setCell ⟨b, o + i, none⟩ v).heap[b]? = some (.cells (c.setIfInBounds (o + i) v) t fr) := by rw [hheap]; simp [hb]
    obtain ⟨w', c', hr, hh, hc, ht, hos, hout⟩ := ih (i + 1) o _ _ (by simpa using hfr) hg1 (by simp; omega) (fun x hx => hv x (by simp [hx]))
    refine ⟨w', c', ?_, ?_, ?_, ht, hos, hout⟩
    · simp only [storeCells, addr_add, Sem.run_bind, hs, Result.andThen_ok]
      exact hr
    · rw [hh, hheap]; simp
    · rw [hc]
      have e1 : (c.setIfInBounds (o + i) v).toList = c.toList.set (o + i) v := by simp
      rw [e1, List.set_eq_take_append_cons_drop]
      have hlt : o + i < c.toList.length := by simp; omega
      rw [if_pos hlt]
      have e2 : o + (i + 1) = (List.take (o + i) c.toList).length + 1 := by simp; omega
      rw [e2, List.take_append, List.drop_append]
      simp only [List.append_assoc, List.cons_append, List.length_cons]
      have l0 : (List.take (o + i) c.toList).length = o + i := by simp; omega
      simp only [l0]
      have l1 : List.take (o + i + 1) (List.take (o + i) c.toList) = List.take (o + i) c.toList := by rw [List.take_take]; congr 1; omega
      have l2 : o + i + 1 - (o + i) = 1 := by omega
      have l3 : List.drop (o + i + 1 + r.length) (List.take (o + i) c.toList) = [] := by apply List.drop_eq_nil_of_le; simp; omega
      have l4 : o + i + 1 + r.length - (o + i) = r.length + 1 := by omega
      rw [l1, l2, l3, l4]
      simp only [List.take_succ_cons, List.take_zero, List.nil_append, List.drop_succ_cons, List.drop_drop, List.cons_append]
      congr 3
      congr 1; omega

-- ROWS AS ONE NUMBER, AS ONE TEXT
/-- Numbers put behind a list. -/
def appI : IT → List AVal → Option IT
  | c, [] => some c
  | c, .int _ z :: r => appI (.un 3 c z) r
  | _, _ :: _ => none
/-- A row as one number. -/
def AT.codeT : AT → Option IT
  | .code _ c => some c
  | .lits vs => appI (.lit 0) vs
  | .snoc t vs => match t.codeT with
    | some c => appI c vs
    | none => none
  | .var _ => none
  | .bts s => some (.scode s)
theorem appI_ok {ρ : Env} : ∀ {vs : List AVal} {c u : IT} {x : Int} {xs : List Value}, appI c vs = some u → c.den ρ = some x → AVal.denL ρ vs = some xs → ∃ y, u.den ρ = some y ∧ decL y = decL x ++ xs.map toZ
  | [], c, u, x, xs, h, hc, hx => by cases h; cases hx; exact ⟨x, hc, by simp⟩
  | v :: r, c, u, x, xs, h, hc, hx => by
    cases v <;> simp only [appI] at h <;> first | (cases h; done) | skip
    simp only [AVal.denL] at hx
    split at hx
    · rename_i y l hy hl
      cases hx
      simp only [AVal.den] at hy
      obtain ⟨z, hz, rfl⟩ := Option.map_eq_some_iff.1 hy
      obtain ⟨w, hw, he⟩ := appI_ok h (x := univ 3 x z) (by simp only [IT.den, hc, hz]) hl
      refine ⟨w, hw, ?_⟩
      rw [he]
      show decL (encL (decL x ++ [z])) ++ _ = _
      rw [decL_encL]; simp [toZ]
    · cases hx
theorem codeT_ok {ρ : Env} : ∀ {t : AT} {u : IT} {xs : List Value}, t.codeT = some u → t.den ρ = some xs → ∃ y, u.den ρ = some y ∧ decL y = xs.map toZ
  | .code ks c, u, xs, h, hx => by
    cases h
    simp only [AT.den] at hx
    obtain ⟨x, hx1, rfl⟩ := Option.map_eq_some_iff.1 hx
    exact ⟨x, hx1, (rowOf_toZ _ _).symm⟩
  | .lits vs, u, xs, h, hx => by
    obtain ⟨y, hy, he⟩ := appI_ok h (x := 0) rfl hx
    exact ⟨y, hy, by rw [he, decL_zero]; rfl⟩
  | .snoc t vs, u, xs, h, hx => by
    simp only [AT.codeT] at h
    split at h
    · rename_i c hc
      simp only [AT.den] at hx
      split at hx
      · rename_i x y hx1 hx2
        cases hx
        obtain ⟨z, hz, he⟩ := codeT_ok hc hx1
        obtain ⟨w, hw, he2⟩ := appI_ok h hz hx2
        exact ⟨w, hw, by rw [he2, he, List.map_append]⟩
      · cases hx
    · cases h
  | .var _, u, xs, h, _ => by cases h
  | .bts s, u, xs, h, hx => by
    cases h; cases hx
    exact ⟨encS (s.den ρ), rfl, by rw [encS, decL_encL, List.map_map]; rfl⟩
/-- Bytes that are there. -/
def bytesLit : List AVal → Option (List UInt8)
  | [] => some []
  | .int .u8 (.lit (.ofNat n)) :: r => cond (Nat.blt n 256) ((bytesLit r).map (UInt8.ofNat n :: ·)) none
  | _ => none
theorem bytesLit_ok {ρ : Env} : ∀ {l : List AVal} {bs : List UInt8} {xs : List Value}, bytesLit l = some bs → AVal.denL ρ l = some xs → xs = bs.map fun b => .int .u8 b.toNat
  | [], bs, xs, h, hx => by cases h; cases hx; rfl
  | v :: r, bs, xs, h, hx => by
    unfold bytesLit at h
    split at h
    · rename_i heq; cases heq
    · rename_i n r' heq
      cases heq
      cases hn : Nat.blt n 256 with
      | false => rw [hn] at h; cases h
      | true =>
        rw [hn] at h; simp only [cond_true] at h
        obtain ⟨m, hm, rfl⟩ := Option.map_eq_some_iff.1 h
        simp only [AVal.denL, AVal.den, IT.den, Option.map_some] at hx
        split at hx
        · rename_i x xs' hx1 hx2
          cases hx; cases hx1
          rw [bytesLit_ok hm hx2]
          have h2 : n < 256 := by rw [Nat.blt_eq] at hn; exact hn
          have : (UInt8.ofNat n).toNat = n := by rw [UInt8.toNat_ofNat']; omega
          simp [this]
        · cases hx
    · cases h
/-- Texts put behind a list of texts. -/
def appS : IT → List AVal → Option IT
  | c, [] => some c
  | c, .str s :: r => appS (.un 3 c (.scode s)) r
  | _, _ :: _ => none
theorem appS_ok {ρ : Env} : ∀ {vs : List AVal} {c u : IT} {x : Int} {xs : List Value}, appS c vs = some u → c.den ρ = some x → AVal.denL ρ vs = some xs → ∃ y, u.den ρ = some y ∧ strsOf y = strsOf x ++ xs ∧ (decL y).length = (decL x).length + xs.length
  | [], c, u, x, xs, h, hc, hx => by cases h; cases hx; exact ⟨x, hc, by simp, rfl⟩
  | v :: r, c, u, x, xs, h, hc, hx => by
    cases v <;> simp only [appS] at h <;> first | (cases h; done) | skip
    rename_i s
    simp only [AVal.denL, AVal.den] at hx
    split at hx
    · rename_i y l hy hl
      cases hx; cases hy
      obtain ⟨w, hw, he, hn⟩ := appS_ok h (x := univ 3 x (encS (s.den ρ))) (by simp only [IT.den, hc]) hl
      have e : decL (univ 3 x (encS (s.den ρ))) = decL x ++ [encS (s.den ρ)] := decL_encL _
      refine ⟨w, hw, ?_, ?_⟩
      · rw [he]; simp [strsOf, e]
      · rw [hn, e]; simp; omega
    · cases hx
/-- A row of bytes as a text. -/
def AT.strT : AT → Option ST
  | .bts s => some s
  | .lits vs => (bytesLit vs).map .lit
  | .snoc t vs => match t.strT, bytesLit vs with
    | some s, some ps => some (.cat s (.lit ps))
    | _, _ => none
  | _ => none
theorem strT_ok {ρ : Env} : ∀ {t : AT} {u : ST} {xs : List Value}, t.strT = some u → t.den ρ = some xs → xs = (u.den ρ).data.toList.map fun b => .int .u8 b.toNat
  | .bts s, u, xs, h, hx => by cases h; cases hx; rfl
  | .lits vs, u, xs, h, hx => by
    simp only [AT.strT] at h
    obtain ⟨bs, hb, rfl⟩ := Option.map_eq_some_iff.1 h
    rw [bytesLit_ok hb hx]; simp [ST.den]
  | .snoc t vs, u, xs, h, hx => by
    simp only [AT.strT] at h
    split at h
    · rename_i s bs hs hb
      cases h
      simp only [AT.den] at hx
      split at hx
      · rename_i x y hx1 hx2
        cases hx
        rw [strT_ok hs hx1, bytesLit_ok hb hx2]
        simp [ST.den]
      · cases hx
    · cases h
  | .var _, u, xs, h, _ => by cases h
  | .code _ _, u, xs, h, _ => by cases h

end Go.Vm
