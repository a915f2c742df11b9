/-
  A machine for abstract states over the model (part 6): reads, writes, new blocks.
-/
import Derived.Test.YtgiomdniafpjnaaGreatDoorVm5
namespace Go.Vm

/-- What an operation that answers comes to. -/
def VOk (P : Program) (β : Base) (ρ : Env) (w : World) (s : Sem Value) (v : AVal) (H : Heap) (nl : Nat) : Prop :=
  ∃ ρ' w' x, ρ.Le ρ' ∧ s.run P w = .ok x w' ∧ v.den ρ' = some x ∧ HRel β ρ' H nl w'
def UOk (P : Program) (β : Base) (ρ : Env) (w : World) (s : Sem Unit) (H : Heap) (nl : Nat) : Prop :=
  ∃ ρ' w', ρ.Le ρ' ∧ s.run P w = .ok () w' ∧ HRel β ρ' H nl w'

section
variable {P : Program} {β : Base} {ρ : Env} {H : Heap} {nl : Nat} {w : World}

def getCells (H : Heap) (l : Nat) : Option (List AVal × TypeId × Option (Nat × Nat) × Bool) :=
  match H.get l with
  | some ⟨.cells vals e t, rw⟩ => some (vals, e, t, rw)
  | _ => none
theorem getCells_some {l : Nat} {vals : List AVal} {e : TypeId} {t : Option (Nat × Nat)} {rw : Bool} (h : getCells H l = some (vals, e, t, rw)) : H.get l = some ⟨.cells vals e t, rw⟩ := by
  unfold getCells at h
  split at h
  · rename_i h'; cases h; exact h'
  · cases h
theorem HRel.cells (hr : HRel β ρ H nl w) {l b : Nat} {vals : List AVal} {e : TypeId} {t : Option (Nat × Nat)} {rw : Bool} (h : getCells H l = some (vals, e, t, rw)) (hb : ρ.N l = some b) :
    ∃ xs c fr, w.heap[b]? = some (.cells c e fr) ∧ AVal.denL ρ vals = some xs ∧ xs <+: c.toList ∧ tailOk ρ vals.length c.size t ∧ (rw = true → FrOk fr c.size) := by
  obtain ⟨b', o, hb', ho, hk⟩ := hr.blk l _ (getCells_some h)
  rw [hb] at hb'; cases hb'
  obtain ⟨xs, c, fr, rfl, h1, h2, h3, h4⟩ := hk
  exact ⟨xs, c, fr, ho, h1, h2, h3, h4⟩

theorem nat_of_some {a b : Nat} (h : some (a : Int) = some (Int.ofNat b)) : a = b := by injection h with h; exact Int.ofNat.inj h
theorem prefix_get {xs : List Value} {c : Array Value} {o : Nat} {x : Value} (hp : xs <+: c.toList) (hx : xs[o]? = some x) : c[o]? = some x := by
  obtain ⟨r, hr⟩ := hp
  have h1 : o < xs.length := (List.getElem?_eq_some_iff.1 hx).1
  have : c.toList[o]? = some x := by rw [← hr, List.getElem?_append_left h1]; exact hx
  simpa using this
-- LOAD
def aLoad (P : Program) (t : TypeId) (a : AVal) (H : Heap) : Option AVal :=
  match a with
  | .ptr l off => match litNat off, getCells H l, P.underlying t with
    | some o, some (vals, _, _, _), some d => cond (aggB d)
        (match P.info? t with
          | some i => cond (Nat.ble (o + i.size) vals.length) (some (.agg ((vals.drop o).take i.size))) none
          | none => none) vals[o]?
    | _, _, _ => none
  | _ => none
theorem aLoad_ok {t : TypeId} {a u : AVal} {av : Value} (h : aLoad P t a H = some u) (ha : a.den ρ = some av) (hr : HRel β ρ H nl w) :
    ∃ x, (Instr.loadAt t av).run P w = .ok x w ∧ u.den ρ = some x := by
  unfold aLoad at h
  split at h
  · rename_i l off
    split at h
    · rename_i o vals e tl rw d ho hc hu
      obtain ⟨b, o', rfl, hb, hoff⟩ := den_ptr ha
      rw [litNat_den ho] at hoff
      obtain rfl : o = o' := nat_of_some hoff
      obtain ⟨xs, c, fr, hg, hxs, hp, _, _⟩ := hr.cells hc hb
      have hle : xs.length ≤ c.size := by simpa using hp.length_le
      have hlen := AVal.denL_length hxs
      cases hd : aggB d with
      | true =>
        rw [hd] at h; simp only [cond_true] at h
        split at h
        · rename_i i hi
          cases hn : Nat.ble (o + i.size) vals.length with
          | false => rw [hn] at h; cases h
          | true =>
            rw [hn] at h; simp only [cond_true, Option.some.injEq] at h; subst h
            have hn' : o + i.size ≤ vals.length := Nat.le_of_ble_eq_true hn
            refine ⟨.agg ((c.toList.drop o).take i.size).toArray, ?_, ?_⟩
            · simp [Instr.loadAt, Instr.sureAddr, loadVar, run_isAgg hu, hd, run_size hi, loadCells_run hg (show o + i.size ≤ c.size by omega)]
            · have : (c.toList.drop o).take i.size = (xs.drop o).take i.size := by
                obtain ⟨r, hr'⟩ := hp
                rw [← hr', List.drop_append, List.take_append]
                have : i.size - (xs.length - o) = 0 := by omega
                simp [this]
              rw [this]
              simp only [AVal.den, AVal.denL_take _ (AVal.denL_drop _ hxs), Option.map_some]
        · cases h
      | false =>
        rw [hd] at h; simp only [cond_false] at h
        obtain ⟨x, hx, hxd⟩ := AVal.denL_get hxs h
        have hcx : c[o]? = some x := prefix_get hp hx
        have hc? : w.cell? ⟨b, o, none⟩ = some x := by rw [cell_of w hg]; exact hcx
        exact ⟨x, by simp [Instr.loadAt, Instr.sureAddr, loadVar, run_isAgg hu, hd, hc?], hxd⟩
    · cases h
  · cases h

-- A CELL, OR MORE, OF AN ELEMENT OF A ROW
def cellsF (f : Nat → IT) : List IntKind → Nat → List AVal
  | [], _ => []
  | k :: r, j => .int k (f j) :: cellsF f r (j + 1)
def selCells (a sz : Nat) (i : IT) (ks : List IntKind) (j : Nat) : List AVal := cellsF (fun j => .sel a sz j i) ks j
/-- The cell 'j' of the element 'i', of a list of numbers. -/
def nthT (c : IT) (sz j : Nat) (i : IT) : IT := .un 0 c (.elem (.lit 0) sz j i)
def inRow (i n : IT) : List BT := [.cmp .geq i (.lit 0), .cmp .lss i n]
/-- How the cells of an element are told. -/
def cellT (t : AT) (sz : Nat) (i : IT) : Option (Nat → IT) :=
  match t with
  | .var a => some fun j => .sel a sz j i
  | .code _ c => some fun j => nthT c sz j i
  | .bts s => some fun j => nthT (.scode s) sz j i
  | _ => none
/-- A place in a row: where the row begins, the cells of an element, which cell, which element. -/
def idxOf : IT → Option (IT × Nat × Nat × IT)
  | .elem a sz j i => match idxOf a with
    | some (q, sz', 0, d) => cond (Nat.beq sz sz') (some (q, sz, j, .elem d 1 0 i)) (some (a, sz, j, i))
    | _ => some (a, sz, j, i)
  | _ => none
theorem idxOf_ok : ∀ {t q i : IT} {sz j : Nat} {y : Int}, idxOf t = some (q, sz, j, i) → t.den ρ = some y → ∃ q0 x : Int, q.den ρ = some q0 ∧ i.den ρ = some x ∧ y = Int.ofNat (q0.toNat + (x.toNat * sz + j)) := by
  intro t
  induction t with
  | elem a sz0 j0 i0 iha _ =>
    intro q i sz j y h e
    simp only [IT.den] at e
    cases ha : a.den ρ with
    | none => rw [ha] at e; cases e
    | some z =>
      cases hi : i0.den ρ with
      | none => rw [ha, hi] at e; cases e
      | some x0 =>
        rw [ha, hi] at e
        simp only [Option.some.injEq] at e
        simp only [idxOf] at h
        split at h
        · rename_i q' sz' d hq
          cases hb : Nat.beq sz0 sz' with
          | false => rw [hb] at h; cases h; exact ⟨z, x0, ha, hi, e.symm⟩
          | true =>
            rw [hb] at h; cases h
            have hs := Nat.eq_of_beq_eq_true hb
            subst hs
            obtain ⟨q0, x, h1, h2, h3⟩ := iha hq ha
            refine ⟨q0, Int.ofNat (x.toNat + (x0.toNat * 1 + 0)), h1, by simp only [IT.den, h2, hi], ?_⟩
            rw [← e, h3]
            congr 1
            show q0.toNat + (x.toNat * sz0 + 0) + (x0.toNat * sz0 + j0) = q0.toNat + ((x.toNat + (x0.toNat * 1 + 0)) * sz0 + j0)
            rw [Nat.mul_one, Nat.add_zero, Nat.add_zero, Nat.add_mul]; omega
        · cases h; exact ⟨z, x0, ha, hi, e.symm⟩
  | _ => intro q i sz j y h; simp [idxOf] at h
/-- A place behind slices of slices, each of which began where one can begin ('un 13'): that place, where it is one; what room is left. -/
def dropC (c : IT) : IT → IT × IT
  | .un 13 a c' => cond (IT.beq c c') (a, .un 14 c a) (.un 13 a c', c)
  | .elem d 1 0 e => let p := dropC c d
    let q := dropC p.2 e
    (.elem p.1 1 0 q.1, q.2)
  | i => (i, c)
theorem dropC_ok : ∀ {i c : IT} {x N : Int}, i.den ρ = some x → c.den ρ = some N → 0 ≤ N →
    ∃ y N' : Int, (dropC c i).1.den ρ = some y ∧ (dropC c i).2.den ρ = some N' ∧ 0 ≤ N' ∧ (N.toNat ≤ y.toNat ∨ (y.toNat = x.toNat ∧ N.toNat ≤ N'.toNat + y.toNat)) := by
  intro i
  induction i with
  | un k a c' _ _ =>
    intro c x N hi hc hN
    unfold dropC
    split
    · rename_i a0 c0 heq
      cases heq
      cases hb : IT.beq c c' with
      | false => exact ⟨x, N, hi, hc, hN, .inr ⟨rfl, by omega⟩⟩
      | true =>
        have := IT.beq_eq hb
        subst this
        simp only [cond_true]
        cases ha : a.den ρ with
        | none => simp only [IT.den, ha] at hi; cases hi
        | some z =>
          simp only [IT.den, ha, hc, univ, Option.some.injEq] at hi
          refine ⟨z, if z ≤ N then N - z else 0, rfl, by simp only [IT.den, ha, hc, univ], by split <;> omega, ?_⟩
          by_cases hz : z = N
          · exact .inl (by omega)
          · rw [if_neg hz] at hi
            refine .inr ⟨by omega, ?_⟩
            split <;> omega
    · rename_i heq; cases heq
    · exact ⟨x, N, hi, hc, hN, .inr ⟨rfl, by omega⟩⟩
  | elem d sz j e ihd ihe =>
    intro c x N hi hc hN
    unfold dropC
    split
    · rename_i heq; cases heq
    · rename_i d0 e0 heq
      cases heq
      cases hd : d.den ρ with
      | none => simp only [IT.den, hd] at hi; cases hi
      | some u =>
        cases he : e.den ρ with
        | none => simp only [IT.den, hd, he] at hi; cases hi
        | some v =>
          simp only [IT.den, hd, he, Option.some.injEq] at hi
          obtain ⟨y1, N1, h1, h2, h3, h4⟩ := ihd hd hc hN
          obtain ⟨y2, N2, g1, g2, g3, g4⟩ := ihe he h2 h3
          refine ⟨Int.ofNat (y1.toNat + (y2.toNat * 1 + 0)), N2, by simp only [IT.den, h1, g1], g2, g3, ?_⟩
          have e1 : (Int.ofNat (y1.toNat + (y2.toNat * 1 + 0))).toNat = y1.toNat + y2.toNat := by
            show y1.toNat + (y2.toNat * 1 + 0) = _; omega
          have e2 : x.toNat = u.toNat + v.toNat := by
            rw [← hi]; show u.toNat + (v.toNat * 1 + 0) = _; omega
          rw [e1, e2]
          omega
    · exact ⟨x, N, hi, hc, hN, .inr ⟨rfl, by omega⟩⟩
  | _ => intro c x N hi hc hN; exact ⟨x, N, hi, hc, hN, .inr ⟨rfl, by omega⟩⟩
def dropO (cp : Option IT) (i : IT) : IT :=
  match cp with
  | some c => (dropC c i).1
  | none => i
/-- A cell that is told by this number, at this place. -/
def isU (c : IT) (s : Nat) : AVal → Bool
  | .int .i64 (.un 0 c' (.lit (.ofNat s'))) => IT.beq c c' && Nat.beq s s'
  | _ => false
theorem isU_ok {c : IT} {s : Nat} {v : AVal} (h : isU c s v = true) : v = .int .i64 (.un 0 c (.lit (.ofNat s))) := by
  unfold isU at h
  split at h
  · simp only [Bool.and_eq_true] at h
    rw [IT.beq_eq h.1, Nat.eq_of_beq_eq_true h.2]
  · cases h
/-- How many cells in a row are told by one number, from this place on. -/
def uniN (c : IT) : Nat → List AVal → Nat
  | _, [] => 0
  | s, v :: r => cond (isU c s v) (uniN c (s + 1) r + 1) 0
theorem uniN_cons {c : IT} {s : Nat} {v : AVal} {r : List AVal} (h : 0 < uniN c s (v :: r)) : v = .int .i64 (.un 0 c (.lit (.ofNat s))) ∧ uniN c s (v :: r) = uniN c (s + 1) r + 1 := by
  cases hb : isU c s v with
  | false => simp only [uniN, hb, cond_false] at h; omega
  | true => exact ⟨isU_ok hb, by simp only [uniN, hb, cond_true]⟩
theorem uniN_get {c : IT} : ∀ {vals : List AVal} {s j : Nat}, j < uniN c s vals → vals[j]? = some (.int .i64 (.un 0 c (.lit (.ofNat (s + j)))))
  | [], s, j, h => by unfold uniN at h; omega
  | v :: r, s, j, h => by
    obtain ⟨rfl, h2⟩ := uniN_cons (c := c) (s := s) (v := v) (r := r) (by omega)
    cases j with
    | zero => rfl
    | succ j =>
      have := uniN_get (c := c) (s := s + 1) (j := j) (vals := r) (by omega)
      rw [List.getElem?_cons_succ, this, show s + 1 + j = s + (j + 1) by omega]
theorem uniN_len {c : IT} {vals : List AVal} {s j : Nat} (h : j < uniN c s vals) : j < vals.length := (List.getElem?_eq_some_iff.1 (uniN_get h)).1
theorem uniN_le {c : IT} {vals : List AVal} {s : Nat} : uniN c s vals ≤ vals.length := by
  rcases Nat.eq_zero_or_pos (uniN c s vals) with h | h
  · omega
  · have := uniN_len (c := c) (vals := vals) (s := s) (j := uniN c s vals - 1) (by omega); omega
/-- Such cells, from this place on, of which there are so many. -/
def uniA (vals : List AVal) : Option (IT × Nat × Nat) :=
  match vals with
  | .int .i64 (.un 0 c (.lit (.ofNat s))) :: r => some (c, s, uniN c s (.int .i64 (.un 0 c (.lit (.ofNat s))) :: r))
  | _ => none
theorem uniA_n {vals : List AVal} {c : IT} {s n : Nat} (h : uniA vals = some (c, s, n)) : n = uniN c s vals := by
  unfold uniA at h
  split at h
  · cases h; rfl
  · cases h
theorem nthC_den {c i : IT} {x : Int} {y s : Nat} (hc : c.den ρ = some x) (hi : i.den ρ = some (y : Int)) : (IT.un 0 c (.elem (.lit (.ofNat s)) 1 0 i)).den ρ = some ((decL x).getD (s + y) 0) := by
  simp only [IT.den, hc, hi]
  show some ((decL x).getD (((s : Int)).toNat + (y * 1 + 0)) 0) = _
  rw [Int.toNat_natCast]; congr 2; omega
theorem uni_den {vals : List AVal} {xs : List Value} {c : IT} {s j : Nat} (hx : AVal.denL ρ vals = some xs) (h : j < uniN c s vals) : ∃ x : Int, c.den ρ = some x ∧ xs[j]? = some (.int .i64 ((decL x).getD (s + j) 0)) := by
  obtain ⟨v, h1, h2⟩ := AVal.denL_get hx (uniN_get h)
  simp only [AVal.den, IT.den] at h2
  cases hc : c.den ρ with
  | none => rw [hc] at h2; cases h2
  | some x =>
    rw [hc] at h2
    simp only [Option.map_some, Option.some.injEq] at h2
    refine ⟨x, rfl, ?_⟩
    rw [h1, ← h2]
    rfl
/-- The cells from a place on, one of them put. -/
def uniC (c : IT) (n : Nat) : List AVal := (List.range n).map fun j => .int .i64 (.un 0 c (.lit (.ofNat j)))
theorem uniC_den {c : IT} {x : Int} {n : Nat} (h : c.den ρ = some x) : AVal.denL ρ (uniC c n) = some ((List.range n).map fun j => .int .i64 ((decL x).getD j 0)) := by
  unfold uniC
  induction List.range n with
  | nil => rfl
  | cons j r ih =>
    simp only [List.map_cons, AVal.denL, AVal.den, IT.den, h, Option.map_some, ih]
    rfl
theorem univ21 (c p z : Int) : univ 21 c (univ 1 p z) = encL ((List.range 256).map fun (j : Nat) => if (j : Int) = p then z else (decL c).getD j 0) := by
  show encL ((List.range 256).map fun (j : Nat) => if (j : Int) = (decL (encL [p, z])).getD 0 0 then (decL (encL [p, z])).getD 1 0 else (decL c).getD j 0) = _
  rw [decL_encL]; rfl
theorem univ21_get {c p z : Int} {j : Nat} (h : j < 256) : (decL (univ 21 c (univ 1 p z))).getD j 0 = if (j : Int) = p then z else (decL c).getD j 0 := by
  rw [univ21, decL_encL, List.getD_eq_getElem?_getD, List.getElem?_map, List.getElem?_range h]; rfl
def aLoadU (P : Program) (t : TypeId) (l : Nat) (q i : IT) (sz j : Nat) (H : Heap) : Option (AVal × List BT) :=
  match litNat q, getCells H l, P.underlying t with
  | some o, some (vals, _, _, _), some d => cond (Nat.beq sz 1 && Nat.beq j 0 && !aggB d) (match uniA (vals.drop o) with
    | some (c, s, n) => some (.int .i64 (.un 0 c (.elem (.lit (.ofNat s)) 1 0 i)), inRow i (.lit (.ofNat n)))
    | none => none) none
  | _, _, _ => none
def aLoadE (P : Program) (t : TypeId) (x : AVal) (H : Heap) : Option (AVal × List BT) :=
  match x with
  | .ptr l off => match idxOf off with
    | none => none
    | some (q, sz, j, i) => match H.get l, P.underlying t with
    | some ⟨.srow c _ n cp, _⟩, some .string => match c.toP, (dropO cp i).toP with
      | some pc, some pi => cond (Nat.beq sz 1 && Nat.beq j 0 && IT.beq q (.lit 0)) (some (.str (.dec (.un 0 pc pi)), inRow (dropO cp i) n)) none
      | _, _ => none
    | some ⟨.arr r ks _ n o _, _⟩, some d => cond (Nat.beq sz ks.length && IT.beq q o)
        (match cellT r sz i with
        | none => none
        | some f => cond (aggB d)
          (match P.info? t with
            | some ti => cond (Nat.ble (j + ti.size) ks.length) (some (.agg (cellsF f ((ks.drop j).take ti.size) j), inRow i n)) none
            | none => none)
          (match ks[j]? with
            | some k => some (.int k (f j), inRow i n)
            | none => none))
        none
    | some ⟨.cells _ _ _, _⟩, _ => aLoadU P t l q i sz j H
    | _, _ => none
  | _ => none
theorem selI_of {v : Value} {c : List Value} {i : Nat} {k : IntKind} {z : Int} (h : aggCells v = some c) (hz : c[i]? = some (.int k z)) : selI v i = z := by
  unfold aggCells at h
  split at h
  · rename_i a
    cases h
    have : a[i]? = some (.int k z) := by simpa using hz
    simp only [selI, this]
  · cases h
theorem nthT_den {c i : IT} {x y : Int} {sz j : Nat} (hc : c.den ρ = some x) (hi : i.den ρ = some y) : (nthT c sz j i).den ρ = some ((decL x).getD (y.toNat * sz + j) 0) := by
  simp only [nthT, IT.den, hc, hi]
  show some ((decL x).getD ((0 : Int).toNat + (y.toNat * sz + j)) 0) = _
  rw [show (0 : Int).toNat = 0 from rfl, Nat.zero_add]
theorem cellT_den {t : AT} {sz : Nat} {i : IT} {f : Nat → IT} {y : Int} {c : List Value} (h : cellT t sz i = some f) (hi : i.den ρ = some y) (ht : t.den ρ = some c) (j : Nat) (k : IntKind) (z : Int) (hz : c[y.toNat * sz + j]? = some (.int k z)) : (f j).den ρ = some z := by
  unfold cellT at h
  split at h
  · cases h
    simp only [AT.den] at ht
    simp only [IT.den, hi, Option.map_some, selI_of ht hz]
  · cases h
    simp only [AT.den] at ht
    obtain ⟨x, hx, rfl⟩ := Option.map_eq_some_iff.1 ht
    simp only [nthT_den hx hi]
    rw [rowOf_get] at hz
    obtain ⟨w, hw, he⟩ := Option.map_eq_some_iff.1 hz
    cases he
    rw [List.getD_eq_getElem?_getD, hw]; rfl
  · rename_i s
    cases h
    simp only [AT.den, Option.some.injEq] at ht
    subst ht
    rw [nthT_den (x := encS (s.den ρ)) rfl hi]
    rw [List.getElem?_map] at hz
    obtain ⟨w, hw, he⟩ := Option.map_eq_some_iff.1 hz
    cases he
    rw [encS, decL_encL, List.getD_eq_getElem?_getD, List.getElem?_map, hw]; rfl
  · cases h
theorem cellsF_den {f : Nat → IT} {x sz : Nat} {c : List Value} (hf : ∀ j k z, c[x * sz + j]? = some (.int k z) → (f j).den ρ = some z) : ∀ (ks : List IntKind) (j : Nat),
    (∀ t k, ks[t]? = some k → ∃ z, c[x * sz + (j + t)]? = some (.int k z)) → AVal.denL ρ (cellsF f ks j) = some ((c.drop (x * sz + j)).take ks.length)
  | [], j, _ => by simp [cellsF, AVal.denL]
  | k :: r, j, h => by
    obtain ⟨z, hz⟩ := h 0 k rfl
    have hr := cellsF_den hf r (j + 1) (fun t k' hk => by
      have := h (t + 1) k' (by simpa using hk)
      rw [show j + 1 + t = j + (t + 1) by omega]; exact this)
    have hlt : x * sz + j < c.length := (List.getElem?_eq_some_iff.1 hz).1
    have he : c[x * sz + j] = .int k z := (List.getElem?_eq_some_iff.1 hz).2
    simp only [Nat.add_zero] at hz
    simp only [cellsF, AVal.denL, AVal.den, hf j k z hz, hr, List.length_cons, Option.map_some]
    rw [List.drop_eq_getElem_cons hlt, List.take_succ_cons, he, show x * sz + (j + 1) = x * sz + j + 1 by omega]
theorem inRow_den {i n : IT} {y : Int} {m : Nat} (h : ∀ c ∈ inRow i n, c.den ρ = some true) (hi : i.den ρ = some y) (hn : n.den ρ = some (m : Int)) : ∃ x : Nat, y = x ∧ x < m := by
  have h1 := h (.cmp .geq i (.lit 0)) (by simp [inRow])
  have h2 := h (.cmp .lss i n) (by simp [inRow])
  simp only [BT.den, hi, hn, IT.den, intCmp, Option.some.injEq, decide_eq_true_eq] at h1 h2
  exact ⟨y.toNat, by omega, by omega⟩
theorem aLoadU_ok {t : TypeId} {l b o' : Nat} {q i off : IT} {sz j : Nat} {u : AVal} {mu : List BT} (h : aLoadU P t l q i sz j H = some (u, mu)) (hix : idxOf off = some (q, sz, j, i)) (hoff : off.den ρ = some (o' : Int)) (hb : ρ.N l = some b) (hm : ∀ c ∈ mu, c.den ρ = some true) (hr : HRel β ρ H nl w) :
    ∃ y, (Instr.loadAt t (.pointer (some ⟨b, o', none⟩))).run P w = .ok y w ∧ u.den ρ = some y := by
  obtain ⟨q0, y, hq0, hy, hoff⟩ := idxOf_ok hix hoff
  unfold aLoadU at h
  split at h
  rotate_left
  · cases h
  rename_i o vals e tl rw d ho hc hu
  cases hq : (Nat.beq sz 1 && Nat.beq j 0 && !aggB d) with
  | false => rw [hq] at h; cases h
  | true =>
    rw [hq] at h; simp only [cond_true] at h
    simp only [Bool.and_eq_true, Bool.not_eq_true'] at hq
    obtain ⟨⟨q1, q2⟩, hag⟩ := hq
    have q1 := Nat.eq_of_beq_eq_true q1
    have q2 := Nat.eq_of_beq_eq_true q2
    subst q1; subst q2
    split at h
    rotate_left
    · cases h
    rename_i c s n hun
    simp only [Option.some.injEq, Prod.mk.injEq] at h
    obtain ⟨rfl, rfl⟩ := h
    rw [litNat_den ho] at hq0; cases hq0
    obtain ⟨xs, c0, fr, hg, hxs, hp, _, _⟩ := hr.cells hc hb
    obtain ⟨x, rfl, hxm⟩ := inRow_den (m := n) hm hy rfl
    have ho' : o' = o + x := by have := Int.ofNat.inj hoff; simpa using this
    subst ho'
    rw [uniA_n hun] at hxm
    obtain ⟨cv, hcv, hget⟩ := uni_den (AVal.denL_drop o hxs) hxm
    rw [List.getElem?_drop] at hget
    have hcx : c0[o + x]? = some (.int .i64 ((decL cv).getD (s + x) 0)) := prefix_get hp hget
    have hc? : w.cell? ⟨b, o + x, none⟩ = some (.int .i64 ((decL cv).getD (s + x) 0)) := by rw [cell_of w hg]; exact hcx
    refine ⟨.int .i64 ((decL cv).getD (s + x) 0), by simp [Instr.loadAt, Instr.sureAddr, loadVar, run_isAgg hu, hag, hc?], ?_⟩
    simp only [AVal.den, nthC_den hcv hy, Option.map_some]
theorem aLoadE_ok {t : TypeId} {x u : AVal} {mu : List BT} {xv : Value} (h : aLoadE P t x H = some (u, mu)) (hx : x.den ρ = some xv) (hm : ∀ c ∈ mu, c.den ρ = some true) (hr : HRel β ρ H nl w) :
    ∃ y, (Instr.loadAt t xv).run P w = .ok y w ∧ u.den ρ = some y := by
  unfold aLoadE at h
  split at h
  · rename_i l offT
    split at h
    · cases h
    rename_i q sz j i hix
    split at h
    · rename_i ct e n cp rw hg hu
      split at h
      rotate_left
      · cases h
      rename_i pc pi hpc hpi
      cases hq : (Nat.beq sz 1 && Nat.beq j 0 && IT.beq q (.lit 0)) with
      | false => rw [hq] at h; cases h
      | true =>
        rw [hq] at h; simp only [cond_true, Option.some.injEq, Prod.mk.injEq] at h
        obtain ⟨rfl, rfl⟩ := h
        simp only [Bool.and_eq_true] at hq
        have q1 := Nat.eq_of_beq_eq_true hq.1.1
        have q2 := Nat.eq_of_beq_eq_true hq.1.2
        have q3 := IT.beq_eq hq.2
        subst q1; subst q2; subst q3
        obtain ⟨b, o', rfl, hb, hoff⟩ := den_ptr hx
        obtain ⟨q0, y, hq0, hy, hoff⟩ := idxOf_ok hix hoff
        obtain ⟨b', o, hb', ho, x0, c, fr, el, rfl, _, hd, hp, hn, hroom, _⟩ := hr.blk l _ hg
        rw [hb] at hb'; cases hb'
        cases hq0
        have hsz : (strsOf x0).length ≤ c.size := by simpa using hp.length_le
        rw [show (strsOf x0).length = (decL x0).length by simp [strsOf]] at hsz
        obtain ⟨y', hy', hyy⟩ : ∃ y' : Int, (dropO cp i).den ρ = some y' ∧ (c.size ≤ y'.toNat ∨ y'.toNat = y.toNat) := by
          cases cp with
          | none => exact ⟨y, hy, .inr rfl⟩
          | some c0 =>
            obtain ⟨N0, hN0, hs0⟩ := hroom
            obtain ⟨y1, N1, h1, _, _, h4⟩ := dropC_ok hy hN0 (Int.natCast_nonneg _)
            refine ⟨y1, h1, ?_⟩
            rw [Int.toNat_natCast] at h4
            rw [hs0]
            omega
        obtain ⟨x, rfl, hxm⟩ := inRow_den hm hy' hn
        have ho' : o' = x := by
          have := Int.ofNat.inj hoff
          rw [Int.toNat_natCast] at hyy
          simp at this
          omega
        subst ho'
        have hz : (decL x0)[o']? = some ((decL x0)[o']) := List.getElem?_eq_getElem hxm
        have hcx : c[o']? = some (.string (decS ((decL x0)[o']))) := prefix_get hp (by rw [strsOf, List.getElem?_map, hz]; rfl)
        have hc? : w.cell? ⟨b, o', none⟩ = some (.string (decS ((decL x0)[o']))) := by rw [cell_of w ho]; exact hcx
        refine ⟨.string (decS ((decL x0)[o'])), by simp [Instr.loadAt, Instr.sureAddr, loadVar, run_isAgg hu, aggB, hc?], ?_⟩
        have e1 : pc.den ρ = x0 := Option.some.inj ((IT.toP_den hpc).symm.trans hd)
        have e2 : pi.den ρ = (o' : Int) := Option.some.inj ((IT.toP_den hpi).symm.trans hy')
        simp only [AVal.den, ST.den, PT.den, e1, e2, univ, Int.toNat_natCast, List.getD_eq_getElem?_getD, hz, Option.getD_some]
    · rename_i a ks e n off cp rw d hg hu
      obtain ⟨b, o', rfl, hb, hoff⟩ := den_ptr hx
      obtain ⟨q0, y, hq0, hy, hoff⟩ := idxOf_ok hix hoff
      obtain ⟨b', o, hb', ho, xs, c, fr, el, m, st, rfl, _, hd, hst, ⟨hstc, hp⟩, hn, hty, _, _⟩ := hr.blk l _ hg
      rw [hb] at hb'; cases hb'
      cases hsz : (Nat.beq sz ks.length && IT.beq q off) with
      | false => rw [hsz] at h; cases h
      | true =>
        rw [hsz] at h; simp only [cond_true] at h
        split at h
        · cases h
        rename_i f hft
        simp only [Bool.and_eq_true] at hsz
        have hsq := IT.beq_eq hsz.2
        have hsz := Nat.eq_of_beq_eq_true hsz.1
        subst hsz
        subst hsq
        rw [hst] at hq0
        cases hq0
        have hoff : Int.ofNat (st + (y.toNat * ks.length + j)) = Int.ofNat o' := hoff.symm
        have hcell := cellT_den hft hy hd
        have cell : ∀ x : Nat, x < m → ∀ t k, ks[t]? = some k → ∃ z, xs[x * ks.length + t]? = some (.int k z) := fun x hxm t k hk => hty.2 x t k hxm hk
        cases hag : aggB d with
        | true =>
          rw [hag] at h; simp only [cond_true] at h
          split at h
          · rename_i ti hti
            cases hle : Nat.ble (j + ti.size) ks.length with
            | false => rw [hle] at h; cases h
            | true =>
              rw [hle] at h; simp only [cond_true, Option.some.injEq, Prod.mk.injEq] at h
              obtain ⟨rfl, rfl⟩ := h
              have hle := Nat.le_of_ble_eq_true hle
              obtain ⟨x, rfl, hxm⟩ := inRow_den hm hy hn
              have ho' : o' = st + (x * ks.length + j) := by have := Int.ofNat.inj hoff; simpa using this.symm
              subst ho'
              have hmul : (x + 1) * ks.length ≤ m * ks.length := Nat.mul_le_mul_right _ (by omega)
              have hxl : x * ks.length + (j + ti.size) ≤ xs.length := by rw [hty.1]; rw [Nat.add_mul] at hmul; omega
              have hcl : xs.length ≤ c.size - st := by simpa using hp.length_le
              refine ⟨.agg ((c.toList.drop (st + (x * ks.length + j))).take ti.size).toArray, ?_, ?_⟩
              · simp [Instr.loadAt, Instr.sureAddr, loadVar, run_isAgg hu, hag, run_size hti, loadCells_run ho (show st + (x * ks.length + j) + ti.size ≤ c.size by omega)]
              · have hsel := cellsF_den (x := x) (sz := ks.length) (fun j k z hz => hcell j k z (by simpa using hz)) ((ks.drop j).take ti.size) j (fun t k hk => by
                  have hlt : t < ti.size := by
                    have := (List.getElem?_eq_some_iff.1 hk).1; simp at this; omega
                  rw [List.getElem?_take_of_lt hlt, List.getElem?_drop] at hk
                  exact cell x hxm (j + t) k hk)
                have hlen : ((ks.drop j).take ti.size).length = ti.size := by simp; omega
                rw [hlen] at hsel
                have : (c.toList.drop (st + (x * ks.length + j))).take ti.size = (xs.drop (x * ks.length + j)).take ti.size := by
                  obtain ⟨r, hr'⟩ := hp
                  rw [← List.drop_drop, ← hr', List.drop_append, List.take_append]
                  have : ti.size - (xs.length - (x * ks.length + j)) = 0 := by omega
                  simp [this]
                simp only [AVal.den, hsel, Option.map_some, this]
          · cases h
        | false =>
          rw [hag] at h; simp only [cond_false] at h
          split at h
          · rename_i k hk
            simp only [Option.some.injEq, Prod.mk.injEq] at h
            obtain ⟨rfl, rfl⟩ := h
            obtain ⟨x, rfl, hxm⟩ := inRow_den hm hy hn
            have ho' : o' = st + (x * ks.length + j) := by have := Int.ofNat.inj hoff; simpa using this.symm
            subst ho'
            obtain ⟨z, hz⟩ := cell x hxm j k hk
            have hcx : c[st + (x * ks.length + j)]? = some (.int k z) := by
              have h1 : (c.toList.drop st).toArray[x * ks.length + j]? = some (.int k z) := prefix_get (by simpa using hp) hz
              simpa using h1
            have hc? : w.cell? ⟨b, st + (x * ks.length + j), none⟩ = some (.int k z) := by rw [cell_of w ho]; exact hcx
            exact ⟨.int k z, by simp [Instr.loadAt, Instr.sureAddr, loadVar, run_isAgg hu, hag, hc?], by simp only [AVal.den, hcell j k z (by simpa using hz), Option.map_some]⟩
          · cases h
    · rename_i hg _
      obtain ⟨b, o', rfl, hb, hoff⟩ := den_ptr hx
      exact aLoadU_ok h hix hoff hb hm hr
    · cases h
  · cases h

-- STORE
def AVal.one : AVal → Bool
  | .agg _ | .tuple _ | .var _ => false
  | _ => true
theorem AVal.one_den {v : AVal} {x : Value} (h : v.one = true) (hx : v.den ρ = some x) : isOne x = true := by
  cases v <;> first
    | (cases h; done)
    | (obtain rfl := den_ptrNil hx; rfl)
    | (obtain ⟨_, _, rfl, _⟩ := den_ptr hx; rfl)
    | (obtain rfl := den_sliceNil hx; rfl)
    | (obtain ⟨_, _, _, _, rfl, _⟩ := den_slice hx; rfl)
    | (obtain rfl := den_mapNil hx; rfl)
    | (obtain ⟨_, rfl, _⟩ := den_map hx; rfl)
    | (obtain rfl := den_nilFunc hx; rfl)
    | (obtain ⟨_, _, rfl, _⟩ := den_func hx; rfl)
    | (obtain rfl := den_nilIface hx; rfl)
    | (obtain ⟨_, rfl, _⟩ := den_iface hx; rfl)
    | (obtain ⟨_, rfl, _⟩ := den_int hx; rfl)
    | (obtain ⟨_, rfl, _⟩ := den_bool hx; rfl)
    | (simp only [AVal.den] at hx; obtain ⟨_, _, rfl⟩ := Option.map_eq_some_iff.1 hx; rfl)
    | (simp only [AVal.den, Option.some.injEq] at hx; subst hx; rfl)
theorem ones_den : ∀ {l : List AVal} {xs : List Value}, l.all AVal.one = true → AVal.denL ρ l = some xs → ∀ x ∈ xs, isOne x = true
  | [], xs, _, e => by cases e; simp
  | v :: r, xs, h, e => by
    simp only [List.all_cons, Bool.and_eq_true] at h
    simp only [AVal.denL] at e
    split at e
    · rename_i x l hx hl
      cases e
      intro y hy
      rcases List.mem_cons.1 hy with rfl | hy
      · exact AVal.one_den h.1 hx
      · exact ones_den h.2 hl y hy
    · cases e

def lay (cells : List AVal) (o : Nat) (vs : List AVal) : List AVal := cells.take o ++ (vs ++ cells.drop (o + vs.length))
theorem lay_den {cells vs : List AVal} {xs ys : List Value} (o : Nat) (h : AVal.denL ρ cells = some xs) (g : AVal.denL ρ vs = some ys) : AVal.denL ρ (lay cells o vs) = some (xs.take o ++ (ys ++ xs.drop (o + ys.length))) := by
  have := AVal.denL_length g
  rw [this]
  exact AVal.denL_append (AVal.denL_take o h) (AVal.denL_append g (AVal.denL_drop _ h))

/-- The cells from a place on are written. -/
def aPut (H : Heap) (l o : Nat) (vs : List AVal) : Option Heap :=
  match getCells H l with
  | some (vals, e, t, true) => cond (Nat.ble (o + vs.length) vals.length && vs.all AVal.one) (some (H.set l ⟨.cells (lay vals o vs) e t, true⟩)) none
  | _ => none
theorem aPut_ok {l o b : Nat} {vs : List AVal} {H' : Heap} {ys : List Value} (h : aPut H l o vs = some H') (hv : AVal.denL ρ vs = some ys) (hb : ρ.N l = some b) (hr : HRel β ρ H nl w) :
    ∃ w', (storeCells ⟨b, o, none⟩ ys).run P w = .ok () w' ∧ HRel β ρ H' nl w' := by
  unfold aPut at h
  split at h
  · rename_i vals e t hc
    cases hcond : (Nat.ble (o + vs.length) vals.length && vs.all AVal.one) with
    | false => rw [hcond] at h; cases h
    | true =>
      rw [hcond] at h; simp only [cond_true, Option.some.injEq] at h; subst h
      simp only [Bool.and_eq_true] at hcond
      have hn : o + vs.length ≤ vals.length := Nat.le_of_ble_eq_true hcond.1
      obtain ⟨xs, c, fr, hg, hxs, hp, ht, hf⟩ := hr.cells hc hb
      have hl1 := AVal.denL_length hxs
      have hl2 := AVal.denL_length hv
      have hle : xs.length ≤ c.size := by simpa using hp.length_le
      obtain ⟨w', c', hrun, hheap, hcl, htp, hos, hout⟩ := storeCells_run (P := P) ys 0 o w c (hf rfl) hg (by omega) (ones_den hcond.2 hv)
      have hsz : c'.size = c.size := by
        have := congrArg List.length hcl
        simp at this
        omega
      refine ⟨w', hrun, hr.write (k' := ⟨.cells (lay vals o vs) e t, true⟩) (getCells_some hc) rfl hb ?_ hheap htp hos hout⟩
      refine ⟨_, c', fr, rfl, lay_den o hxs hv, ?_, ?_, fun _ => by rw [hsz]; exact hf rfl⟩
      · rw [hcl]
        obtain ⟨r, hr'⟩ := hp
        refine ⟨r, ?_⟩
        rw [← hr']
        have e1 : List.take (o + 0) (xs ++ r) = xs.take o := by rw [List.take_append]; have : o + 0 - xs.length = 0 := by omega
                                                                rw [this]; simp
        have e2 : List.drop (o + 0 + ys.length) (xs ++ r) = xs.drop (o + ys.length) ++ r := by
          rw [List.drop_append]; have : o + 0 + ys.length - xs.length = 0 := by omega
          rw [this]; simp
        rw [e1, e2]; simp
      · have hll : (lay vals o vs).length = vals.length := by simp [lay]; omega
        rw [hsz, hll]; exact ht
  · cases h

def aStore (P : Program) (t : TypeId) (a v : AVal) (H : Heap) : Option Heap :=
  match a with
  | .ptr l off => match litNat off, v.cells?, P.info? t with
    | some o, some vs, some i => cond (Nat.beq vs.length i.size) (aPut H l o vs) none
    | _, _, _ => none
  | _ => none
theorem aStore_ok {t : TypeId} {a v : AVal} {av vv : Value} {H' : Heap} (h : aStore P t a v H = some H') (ha : a.den ρ = some av) (hv : v.den ρ = some vv) (hr : HRel β ρ H nl w) :
    UOk P β ρ w (Instr.storeAt t av vv) H' nl := by
  unfold aStore at h
  split at h
  · rename_i l off
    split at h
    · rename_i o vs i ho hvs hi
      cases hn : Nat.beq vs.length i.size with
      | false => rw [hn] at h; cases h
      | true =>
        rw [hn] at h; simp only [cond_true] at h
        obtain ⟨b, o', rfl, hb, hoff⟩ := den_ptr ha
        rw [litNat_den ho] at hoff
        obtain rfl : o = o' := nat_of_some hoff
        have hcs := AVal.cells?_den hvs hv
        have hsz : vv.cells.size = i.size := by
          have := AVal.denL_length hcs
          have := Nat.eq_of_beq_eq_true hn
          simp at *; omega
        obtain ⟨w', hrun, hr'⟩ := aPut_ok (P := P) h hcs hb hr
        exact ⟨ρ, w', Env.Le.refl ρ, by simp [Instr.storeAt, Instr.sureAddr, storeVar, run_size hi, hsz, hrun], hr'⟩
    · cases h
  · cases h

def aStoreU (P : Program) (t : TypeId) (l : Nat) (q i : IT) (sz j : Nat) (v : AVal) (H : Heap) : Option (Heap × List BT) :=
  match litNat q, H.get l, P.info? t, v with
  | some o, some ⟨.cells vals e tl, true⟩, some ti, .int .i64 z => cond (Nat.beq sz 1 && Nat.beq j 0 && Nat.beq ti.size 1) (match uniA (vals.drop o) with
    | some (c, 0, n) => cond (Nat.ble n 256) (some (H.set l ⟨.cells (lay vals o (uniC (.un 21 c (.un 1 i z)) n)) e tl, true⟩, inRow i (.lit (.ofNat n)))) none
    | _ => none) none
  | _, _, _, _ => none
/-- One cell of an element of a row of numbers, of texts. -/
def aStoreE (P : Program) (t : TypeId) (a v : AVal) (H : Heap) : Option (Heap × List BT) :=
  match a with
  | .ptr l off => match idxOf off, P.info? t with
    | some (q, sz, j, i), some ti => match H.get l, v with
      | some ⟨.arr r ks e n o cp, true⟩, .int k z => match r.codeT, ks[j]? with
        | some c, some k' => cond (Nat.beq sz ks.length && IT.beq q o && decide (k = k') && Nat.beq ti.size 1) (some (H.set l ⟨.arr (.code ks (.un 2 c (.un 1 (.elem (.lit 0) sz j i) z))) ks e n o cp, true⟩, inRow i n)) none
        | _, _ => none
      | some ⟨.srow c e n cp, true⟩, .str s => cond (Nat.beq sz 1 && Nat.beq j 0 && IT.beq q (.lit 0) && Nat.beq ti.size 1) (some (H.set l ⟨.srow (.un 2 c (.un 1 i (.scode s))) e n cp, true⟩, inRow i n)) none
      | some ⟨.cells _ _ _, _⟩, _ => aStoreU P t l q i sz j v H
      | _, _ => none
    | _, _ => none
  | _ => none
theorem set_rowOf {ks : List IntKind} {l : List Int} {p : Nat} {z : Int} (hp : p < l.length) : rowOf ks (l.set p z) = (rowOf ks l).set p (.int (ks.getD (p % ks.length) .i64) z) := by
  apply List.ext_getElem?
  intro i
  rw [rowOf_get, List.getElem?_set, List.getElem?_set, rowOf_length]
  by_cases h : p = i
  · subst h; simp [hp]
  · simp [h, rowOf_get]
theorem univ2 (c p z : Int) : univ 2 c (univ 1 p z) = encL ((decL c).set p.toNat z) := by
  show encL ((decL c).set ((decL (encL [p, z])).getD 0 0).toNat ((decL (encL [p, z])).getD 1 0)) = _
  rw [decL_encL]; rfl
theorem one_store {b p : Nat} {c : Array Value} {el : TypeId} {fr : Nat × Nat} {v : Value} (hg : w.heap[b]? = some (.cells c el fr)) (hp : p < c.size) (hv : isOne v = true) (hfr : FrOk fr c.size) :
    ∃ w', (storeCells ⟨b, p, none⟩ [v]).run P w = .ok () w' ∧ w'.heap = w.heap.setIfInBounds b (.cells (c.setIfInBounds p v) el fr) ∧ w'.tape = w.tape ∧ w'.os = w.os ∧ w'.output = w.output := by
  obtain ⟨w', c', h1, h2, h3, h4⟩ := storeCells_run (P := P) [v] 0 p w c hfr hg (by simp; omega) (by simpa using hv)
  refine ⟨w', h1, ?_, h4⟩
  rw [h2]
  congr 2
  apply Array.toList_inj.1
  rw [h3, Array.toList_setIfInBounds, List.set_eq_take_append_cons_drop, if_pos (by simpa using hp)]
  simp
theorem prefix_set {xs : List Value} {c : Array Value} {o p : Nat} {v : Value} (hp : xs <+: c.toList.drop o) (hx : p < xs.length) : xs.set p v <+: (c.setIfInBounds (o + p) v).toList.drop o := by
  obtain ⟨r, hr⟩ := hp
  refine ⟨r, ?_⟩
  rw [Array.toList_setIfInBounds, ← List.set_append_left _ _ hx, hr]
  apply List.ext_getElem?
  intro i
  rw [List.getElem?_set, List.getElem?_drop, List.getElem?_drop, List.getElem?_set]
  have hl := congrArg List.length hr
  simp only [List.length_append, List.length_drop] at hl
  by_cases h : p = i
  · subst h
    have hcs : c.toList.length = c.size := by simp
    simp
    rw [if_pos (by omega), if_pos (by omega)]
  · simp [h]
theorem aStoreU_ok {t : TypeId} {l b o' : Nat} {q i off : IT} {sz j : Nat} {v : AVal} {vv : Value} {H' : Heap} {mu : List BT} (h : aStoreU P t l q i sz j v H = some (H', mu)) (hix : idxOf off = some (q, sz, j, i)) (hoff : off.den ρ = some (o' : Int)) (hb : ρ.N l = some b) (hm : ∀ c ∈ mu, c.den ρ = some true) (hv : v.den ρ = some vv) (hr : HRel β ρ H nl w) :
    UOk P β ρ w (Instr.storeAt t (.pointer (some ⟨b, o', none⟩)) vv) H' nl := by
  obtain ⟨q0, y, hq0, hy, hoff⟩ := idxOf_ok hix hoff
  unfold aStoreU at h
  split at h
  rotate_left
  · cases h
  rename_i o vals e tl ti z ho hg hti
  cases hq : (Nat.beq sz 1 && Nat.beq j 0 && Nat.beq ti.size 1) with
  | false => rw [hq] at h; cases h
  | true =>
  rw [hq] at h; simp only [cond_true] at h
  simp only [Bool.and_eq_true] at hq
  obtain ⟨⟨q1, q2⟩, q4⟩ := hq
  have q1 := Nat.eq_of_beq_eq_true q1
  have q2 := Nat.eq_of_beq_eq_true q2
  have q4 := Nat.eq_of_beq_eq_true q4
  subst q1; subst q2
  split at h
  rotate_left
  · cases h
  rename_i c n hun
  cases hn : Nat.ble n 256 with
  | false => rw [hn] at h; cases h
  | true =>
  rw [hn] at h; simp only [cond_true, Option.some.injEq, Prod.mk.injEq] at h
  obtain ⟨rfl, rfl⟩ := h
  have hn := Nat.le_of_ble_eq_true hn
  rw [litNat_den ho] at hq0; cases hq0
  obtain ⟨b', ob, hb', hob, xs, c0, fr, rfl, hxs, hp, htl, hf⟩ := hr.blk l _ hg
  rw [hb] at hb'; cases hb'
  obtain ⟨x, rfl, hxm⟩ := inRow_den (m := n) hm hy rfl
  have ho' : o' = o + x := by have := Int.ofNat.inj hoff; simpa using this
  subst ho'
  have hnn := uniA_n hun
  have hxm' : x < uniN c 0 (vals.drop o) := by rw [← hnn]; exact hxm
  have hdrop := AVal.denL_drop o hxs
  obtain ⟨cv, hcv, hget⟩ := uni_den hdrop hxm'
  rw [List.getElem?_drop] at hget
  have hlt : o + x < xs.length := (List.getElem?_eq_some_iff.1 hget).1
  have hcl : xs.length ≤ c0.size := by simpa using hp.length_le
  simp only [AVal.den] at hv
  obtain ⟨zv, hzv, rfl⟩ := Option.map_eq_some_iff.1 hv
  obtain ⟨w', hrun, hheap, htp, hos, hout⟩ := one_store (P := P) hob (show o + x < c0.size by omega) (v := .int .i64 zv) rfl (hf rfl)
  have hsz : (c0.setIfInBounds (o + x) (.int .i64 zv)).size = c0.size := by simp
  have hcv' : (IT.un 21 c (.un 1 i z)).den ρ = some (univ 21 cv (univ 1 (x : Int) zv)) := by simp only [IT.den, hcv, hy, hzv]
  have hlen : xs.length = vals.length := AVal.denL_length hxs
  have hnl : o + n ≤ xs.length := by
    have h1 := uniN_le (c := c) (vals := vals.drop o) (s := 0)
    rw [← hnn, List.length_drop] at h1
    omega
  have hlay := lay_den (ρ := ρ) o hxs (uniC_den (n := n) hcv')
  rw [List.length_map, List.length_range] at hlay
  have hset : xs.take o ++ (((List.range n).map fun j => Value.int .i64 ((decL (univ 21 cv (univ 1 (x : Int) zv))).getD j 0)) ++ xs.drop (o + n)) = xs.set (o + x) (.int .i64 zv) := by
    apply List.ext_getElem?
    intro k
    rcases Nat.lt_or_ge k o with hk | hk
    · rw [List.getElem?_append_left (by rw [List.length_take]; omega), List.getElem?_take_of_lt hk, List.getElem?_set_ne (by omega)]
    · rw [List.getElem?_append_right (by rw [List.length_take]; omega), List.length_take, Nat.min_eq_left (by omega)]
      rcases Nat.lt_or_ge (k - o) n with hk2 | hk2
      · rw [List.getElem?_append_left (by simpa using hk2), List.getElem?_map, List.getElem?_range hk2, Option.map_some, univ21_get (by omega)]
        by_cases he : k = o + x
        · subst he
          rw [if_pos (by omega), List.getElem?_set_self hlt]
        · rw [if_neg (by omega), List.getElem?_set_ne (fun e => he e.symm)]
          have hk3 : k - o < uniN c 0 (vals.drop o) := by rw [← hnn]; exact hk2
          obtain ⟨cv2, hcv2, hg2⟩ := uni_den hdrop hk3
          rw [hcv] at hcv2; cases hcv2
          rw [List.getElem?_drop, show o + (k - o) = k by omega, Nat.zero_add] at hg2
          exact hg2.symm
      · rw [List.getElem?_append_right (by simpa using hk2), List.length_map, List.length_range, List.getElem?_drop, show o + n + (k - o - n) = k by omega, List.getElem?_set_ne (by omega)]
  rw [hset] at hlay
  refine ⟨ρ, w', Env.Le.refl ρ, ?_, hr.write (k' := ⟨.cells (lay vals o (uniC (.un 21 c (.un 1 i z)) n)) e tl, true⟩) hg rfl hb ?_ hheap htp hos hout⟩
  · have hvc : (Value.int .i64 zv).cells.toList = [.int .i64 zv] := rfl
    have hvs : (Value.int .i64 zv).cells.size = ti.size := by rw [q4]; rfl
    simp [Instr.storeAt, Instr.sureAddr, storeVar, run_size hti, hvs, hvc, hrun]
  · refine ⟨_, _, fr, rfl, hlay, ?_, ?_, fun hrw => by rw [hsz]; exact hf hrw⟩
    · have := prefix_set (o := 0) (v := .int .i64 zv) (by rw [List.drop_zero]; exact hp) hlt
      rw [Nat.zero_add, List.drop_zero] at this
      exact this
    · have hl : (lay vals o (uniC (.un 21 c (.un 1 i z)) n)).length = vals.length := by
        have := AVal.denL_length hlay
        rw [List.length_set] at this
        omega
      rw [hl, hsz]; exact htl
theorem aStoreE_ok {t : TypeId} {a v : AVal} {av vv : Value} {H' : Heap} {mu : List BT} (h : aStoreE P t a v H = some (H', mu)) (hm : ∀ c ∈ mu, c.den ρ = some true) (ha : a.den ρ = some av) (hv : v.den ρ = some vv) (hr : HRel β ρ H nl w) :
    UOk P β ρ w (Instr.storeAt t av vv) H' nl := by
  unfold aStoreE at h
  split at h
  rotate_left
  · cases h
  rename_i l offT
  split at h
  rotate_left
  · cases h
  rename_i q sz j i ti hix hti
  obtain ⟨b, o', rfl, hb, hoff⟩ := den_ptr ha
  have hoff0 := hoff
  obtain ⟨q0, y, hq0, hy, hoff⟩ := idxOf_ok hix hoff
  split at h
  · rename_i r ks e n ot cp k z hg
    split at h
    rotate_left
    · cases h
    rename_i c k' hcT hk
    cases hq : (Nat.beq sz ks.length && IT.beq q ot && decide (k = k') && Nat.beq ti.size 1) with
    | false => rw [hq] at h; cases h
    | true =>
    rw [hq] at h; simp only [cond_true, Option.some.injEq, Prod.mk.injEq] at h
    obtain ⟨rfl, rfl⟩ := h
    simp only [Bool.and_eq_true, decide_eq_true_eq] at hq
    obtain ⟨⟨⟨q1, q2⟩, rfl⟩, q4⟩ := hq
    have q1 := Nat.eq_of_beq_eq_true q1
    have q2 := IT.beq_eq q2
    have q4 := Nat.eq_of_beq_eq_true q4
    subst q1; subst q2
    obtain ⟨b', ob, hb', hob, xs, c0, fr, el, m, st, rfl, hel, hd, hst, ⟨hstc, hp⟩, hn, hty, hroom, hf⟩ := hr.blk l _ hg
    rw [hb] at hb'; cases hb'
    rw [hst] at hq0; cases hq0
    obtain ⟨x, rfl, hxm⟩ := inRow_den hm hy hn
    have ho' : o' = st + (x * ks.length + j) := by have := Int.ofNat.inj hoff; simpa using this
    subst ho'
    obtain ⟨zz, hz⟩ := hty.2 x j k hxm hk
    have hlt : x * ks.length + j < xs.length := (List.getElem?_eq_some_iff.1 hz).1
    have hcl : xs.length ≤ c0.size - st := by simpa using hp.length_le
    simp only [AVal.den] at hv
    obtain ⟨zv, hzv, rfl⟩ := Option.map_eq_some_iff.1 hv
    obtain ⟨w', hrun, hheap, htp, hos, hout⟩ := one_store (P := P) hob (show st + (x * ks.length + j) < c0.size by omega) (v := .int k zv) rfl (hf rfl)
    obtain ⟨cx, hcx, hce⟩ := codeT_ok hcT hd
    have hjk : j < ks.length := (List.getElem?_eq_some_iff.1 hk).1
    have hmod : (x * ks.length + j) % ks.length = j := by rw [Nat.mul_comm x, Nat.mul_add_mod, Nat.mod_eq_of_lt hjk]
    have hrow : xs = rowOf ks (decL cx) := by rw [hce]; exact hty.rowOf
    have hlt2 : x * ks.length + j < (decL cx).length := by rw [hce]; simpa using hlt
    have hset : rowOf ks ((decL cx).set (x * ks.length + j) zv) = xs.set (x * ks.length + j) (.int k zv) := by
      rw [set_rowOf hlt2, ← hrow, hmod, List.getD_eq_getElem?_getD, hk]; rfl
    have hsz : (c0.setIfInBounds (st + (x * ks.length + j)) (.int k zv)).size = c0.size := by simp
    refine ⟨ρ, w', Env.Le.refl ρ, ?_, hr.write (k' := ⟨.arr (.code ks (.un 2 c (.un 1 (.elem (.lit 0) ks.length j i) z))) ks e n q cp, true⟩) hg rfl hb ?_ hheap htp hos hout⟩
    · have hvc : (Value.int k zv).cells.toList = [.int k zv] := rfl
      have hvs : (Value.int k zv).cells.size = ti.size := by rw [q4]; rfl
      simp [Instr.storeAt, Instr.sureAddr, storeVar, run_size hti, hvs, hvc, hrun]
    · refine ⟨xs.set (x * ks.length + j) (.int k zv), _, fr, el, m, st, rfl, hel, ?_, hst, ⟨by rw [hsz]; exact hstc, prefix_set hp hlt⟩, hn, ?_, ?_, fun hrw => by rw [hsz]; exact hf hrw⟩
      · have e1 : (IT.un 2 c (.un 1 (.elem (.lit 0) ks.length j i) z)).den ρ = some (encL ((decL cx).set (x * ks.length + j) zv)) := by
          simp only [IT.den, hcx, hy, hzv]
          rw [univ2]
          show some (encL ((decL cx).set ((0 : Int).toNat + (x * ks.length + j)) zv)) = _
          rw [show (0 : Int).toNat = 0 from rfl, Nat.zero_add]
        simp only [AT.den, e1, Option.map_some, decL_encL, hset]
      · rw [← hset]
        refine rowOf_typed ?_
        rw [List.length_set]
        have := hty.1; rw [hrow, rowOf_length] at this; exact this
      · cases cp with
        | none => trivial
        | some cc => obtain ⟨nn, h1, h2⟩ := hroom; exact ⟨nn, h1, by rw [hsz]; exact h2⟩
  · rename_i c e n cp s hg
    cases hq : (Nat.beq sz 1 && Nat.beq j 0 && IT.beq q (.lit 0) && Nat.beq ti.size 1) with
    | false => rw [hq] at h; cases h
    | true =>
    rw [hq] at h; simp only [cond_true, Option.some.injEq, Prod.mk.injEq] at h
    obtain ⟨rfl, rfl⟩ := h
    simp only [Bool.and_eq_true] at hq
    obtain ⟨⟨⟨q1, q2⟩, q3⟩, q4⟩ := hq
    have q1 := Nat.eq_of_beq_eq_true q1
    have q2 := Nat.eq_of_beq_eq_true q2
    have q3 := IT.beq_eq q3
    have q4 := Nat.eq_of_beq_eq_true q4
    subst q1; subst q2; subst q3
    obtain ⟨b', ob, hb', hob, x0, c0, fr, el, rfl, hel, hd, hp, hn, hroom, hf⟩ := hr.blk l _ hg
    rw [hb] at hb'; cases hb'
    cases hq0
    obtain ⟨x, rfl, hxm⟩ := inRow_den hm hy hn
    have ho' : o' = x := by have := Int.ofNat.inj hoff; simpa using this
    subst ho'
    have hlt : o' < (strsOf x0).length := by simpa [strsOf] using hxm
    have hcl : (strsOf x0).length ≤ c0.size := by simpa using hp.length_le
    simp only [AVal.den, Option.some.injEq] at hv
    subst hv
    obtain ⟨w', hrun, hheap, htp, hos, hout⟩ := one_store (P := P) hob (show o' < c0.size by omega) (v := .string (s.den ρ)) rfl (hf rfl)
    have hsz : (c0.setIfInBounds o' (.string (s.den ρ))).size = c0.size := by simp
    have e1 : (IT.un 2 c (.un 1 i (.scode s))).den ρ = some (encL ((decL x0).set o' (encS (s.den ρ)))) := by
      simp only [IT.den, hd, hy]
      rw [univ2, Int.toNat_natCast]
    refine ⟨ρ, w', Env.Le.refl ρ, ?_, hr.write (k' := ⟨.srow (.un 2 c (.un 1 i (.scode s))) e n cp, true⟩) hg rfl hb ?_ hheap htp hos hout⟩
    · have hvs : (Value.string (s.den ρ)).cells.size = ti.size := by rw [q4]; rfl
      have hvc : (Value.string (s.den ρ)).cells.toList = [.string (s.den ρ)] := rfl
      simp [Instr.storeAt, Instr.sureAddr, storeVar, run_size hti, hvs, hvc, hrun]
    · refine ⟨_, _, fr, el, rfl, hel, e1, ?_, by rw [decL_encL, List.length_set]; exact hn, ?_, fun hrw => by rw [hsz]; exact hf hrw⟩
      · have hset : strsOf (encL ((decL x0).set o' (encS (s.den ρ)))) = (strsOf x0).set o' (.string (s.den ρ)) := by
          unfold strsOf
          rw [decL_encL, List.map_set, decS_encS]
        rw [hset]
        have := prefix_set (o := 0) (v := .string (s.den ρ)) (by rw [List.drop_zero]; exact hp) hlt
        rw [Nat.zero_add, List.drop_zero] at this
        exact this
      · cases cp with
        | none => trivial
        | some cc => obtain ⟨nn, h1, h2⟩ := hroom; exact ⟨nn, h1, by rw [hsz]; exact h2⟩
  · exact aStoreU_ok h hix hoff0 hb hm hv hr
  · cases h

-- NEW VARIABLES
theorem newRow_ok {vals : List AVal} {xs : List Value} {e : TypeId} (hd : AVal.denL ρ vals = some xs) (hr : HRel β ρ H nl w) :
    (newRow e xs.toArray).run P w = .ok ⟨w.heap.size, 0, none⟩ { w with heap := w.heap.push (.cells xs.toArray e) } ∧
    HRel β (ρ.put nl w.heap.size) (H.set nl ⟨.cells vals e none, true⟩) (nl + 1) { w with heap := w.heap.push (.cells xs.toArray e) } := by
  refine ⟨by simp [newRow], hr.new _ _ _ ⟨xs, xs.toArray, (0, 0), rfl, hd, by simp, ?_, fun _ => .inl (Nat.le_refl _)⟩⟩
  simp [tailOk, AVal.denL_length hd]

def aNewVar (e : TypeId) (v : AVal) (H : Heap) (nl : Nat) : Option Heap :=
  match v.cells? with
  | some vs => some (H.set nl ⟨.cells vs e none, true⟩)
  | none => none
theorem aNewVar_ok {e : TypeId} {v : AVal} {vv : Value} {H' : Heap} (h : aNewVar e v H nl = some H') (hv : v.den ρ = some vv) (hr : HRel β ρ H nl w) :
    VOk P β ρ w (do pure (.pointer (some (← newVar e vv)))) (.ptr nl (.lit 0)) H' (nl + 1) := by
  unfold aNewVar at h
  split at h
  · rename_i vs hvs
    cases h
    have hcs := AVal.cells?_den hvs hv
    obtain ⟨h1, h2⟩ := newRow_ok (P := P) (e := e) hcs hr
    refine ⟨_, _, .pointer (some ⟨w.heap.size, 0, none⟩), Env.le_put (hr.fresh nl (Nat.le_refl _)), ?_, ?_, h2⟩
    · have : newVar e vv = newRow e vv.cells.toList.toArray := by simp [newVar]
      simp [this, newRow]
    · have h0 : natOf ((IT.lit 0).den (ρ.put nl w.heap.size)) = some 0 := rfl
      simp only [AVal.den, Env.put_same, h0]
  · cases h

def zeroA (P : Program) (t : TypeId) : Option AVal :=
  match P.info? t with
  | some i => i.zero.bind AVal.ofVal
  | none => none
theorem zeroA_ok {t : TypeId} {z : AVal} (h : zeroA P t = some z) : ∃ zv, (∀ w, (zeroValue t).run P w = .ok zv w) ∧ ∀ ρ, z.den ρ = some zv := by
  unfold zeroA at h
  split at h
  · rename_i i hi
    obtain ⟨zv, h1, h2⟩ := Option.bind_eq_some_iff.1 h
    exact ⟨zv, fun w => by simp [zeroValue, run_info hi, h1], fun ρ => AVal.ofVal_den h2⟩
  · cases h

def aAlloc (P : Program) (e : TypeId) (H : Heap) (nl : Nat) : Option Heap :=
  match zeroA P e with
  | some z => aNewVar e z H nl
  | none => none
theorem aAlloc_ok {e : TypeId} {H' : Heap} (h : aAlloc P e H nl = some H') (hr : HRel β ρ H nl w) : VOk P β ρ w (Instr.alloc e true (.tuple #[])) (.ptr nl (.lit 0)) H' (nl + 1) := by
  unfold aAlloc at h
  split at h
  · rename_i z hz
    obtain ⟨zv, h1, h2⟩ := zeroA_ok hz
    obtain ⟨ρ', w', x, hle, hrun, hx, hr'⟩ := aNewVar_ok (P := P) h (h2 ρ) hr
    refine ⟨ρ', w', x, hle, ?_, hx, hr'⟩
    simp only [Instr.alloc, Sem.run_bind, h1, Result.andThen_ok]
    simpa using hrun
  · cases h

-- FILL
theorem fill_fold (off : Nat) : ∀ (vs : List Value) (k : Nat) (c : Array Value), off + k + vs.length ≤ c.size →
    ((vs.zipIdx k).foldl (fun cs (p : Value × Nat) => cs.setIfInBounds (off + p.2) p.1) c).toList = c.toList.take (off + k) ++ vs ++ c.toList.drop (off + k + vs.length) := by
  intro vs
  induction vs with
  | nil => intro k c _; simp
  | cons v r ih =>
    intro k c h
    simp only [List.length_cons] at h
    simp only [List.zipIdx_cons, List.foldl_cons]
    rw [ih (k + 1) _ (by simp; omega)]
    have e1 : (c.setIfInBounds (off + k) v).toList = c.toList.set (off + k) v := by simp
    have hlt : off + k < c.toList.length := by simp; omega
    rw [e1, List.set_eq_take_append_cons_drop, if_pos hlt]
    have e2 : off + (k + 1) = off + k + 1 := by omega
    rw [e2, List.take_append, List.drop_append]
    simp only [List.append_assoc, List.cons_append, List.length_cons]
    have l0 : (List.take (off + k) c.toList).length = off + k := by simp; omega
    simp only [l0]
    have l1 : List.take (off + k + 1) (List.take (off + k) c.toList) = List.take (off + k) c.toList := by rw [List.take_take]; congr 1; omega
    have l2 : off + k + 1 - (off + k) = 1 := by omega
    have l3 : List.drop (off + k + 1 + r.length) (List.take (off + k) c.toList) = [] := by apply List.drop_eq_nil_of_le; simp; omega
    have l4 : off + k + 1 + r.length - (off + k) = r.length + 1 := by omega
    rw [l1, l2, l3, l4]
    simp only [List.take_succ_cons, List.take_zero, List.nil_append, List.drop_succ_cons, List.drop_drop, List.cons_append]
    congr 3
    congr 1; omega

def aFill (place : Nat → Option (Nat × Nat)) (cells : List AVal) : List (Nat × AVal) → Option (List AVal)
  | [] => some cells
  | (i, v) :: rest => match place i, v.cells? with
    | some (off, size), some vs => cond (Nat.beq vs.length size && Nat.ble (off + vs.length) cells.length) (aFill place (lay cells off vs) rest) none
    | _, _ => none
def denP (ρ : Env) : List (Nat × AVal) → Option (List (Nat × Value))
  | [] => some []
  | (i, v) :: r => match v.den ρ, denP ρ r with
    | some x, some l => some ((i, x) :: l)
    | _, _ => none
theorem aFill_ok (place : Nat → Option (Nat × Nat)) : ∀ (parts : List (Nat × AVal)) (cells out : List AVal) (xs : List Value) (ps : List (Nat × Value)),
    aFill place cells parts = some out → AVal.denL ρ cells = some xs → denP ρ parts = some ps →
    ∃ ys, Instr.fill place xs.toArray ps = some ys.toArray ∧ AVal.denL ρ out = some ys := by
  intro parts
  induction parts with
  | nil => intro cells out xs ps h hx hp; cases h; cases hp; exact ⟨xs, rfl, hx⟩
  | cons p rest ih =>
    intro cells out xs ps h hx hp
    obtain ⟨i, v⟩ := p
    simp only [aFill] at h
    simp only [denP] at hp
    split at hp
    · rename_i x l hxv hl
      cases hp
      split at h
      · rename_i off size vs hpl hvs
        cases hc : (Nat.beq vs.length size && Nat.ble (off + vs.length) cells.length) with
        | false => rw [hc] at h; cases h
        | true =>
          rw [hc] at h; simp only [cond_true] at h
          simp only [Bool.and_eq_true] at hc
          have h1 := Nat.eq_of_beq_eq_true hc.1
          have h2 := Nat.le_of_ble_eq_true hc.2
          have hcs := AVal.cells?_den hvs hxv
          have hl1 := AVal.denL_length hcs
          have hl2 := AVal.denL_length hx
          simp at hl1
          obtain ⟨ys, hy1, hy2⟩ := ih _ out _ l h (lay_den off hx hcs) hl
          refine ⟨ys, ?_, hy2⟩
          have hcond : ¬ ((x.cells.size ≠ size || decide (off + x.cells.size > xs.toArray.size)) = true) := by simp; omega
          simp only [Instr.fill, hpl]
          rw [if_neg hcond]
          rw [← hy1]
          congr 1
          apply Array.toList_inj.1
          rw [← Array.foldl_toList, Array.toList_zipIdx]
          have := fill_fold off x.cells.toList 0 xs.toArray (by simp; omega)
          simpa using this
      · cases h
    · cases hp

def aPlaces (P : Program) : List Field → Option (List (Nat × Nat))
  | [] => some []
  | f :: r => match P.info? f.type, aPlaces P r with
    | some i, some l => some ((f.offset, i.size) :: l)
    | _, _ => none
theorem aPlaces_ok : ∀ {fs : List Field} {l : List (Nat × Nat)}, aPlaces P fs = some l → (fs.mapM fun f => (do pure (f.offset, ← sizeOf f.type) : Sem (Nat × Nat))).run P w = .ok l w
  | [], l, h => by cases h; simp
  | f :: r, l, h => by
    simp only [aPlaces] at h
    split at h
    · rename_i i l' hi hl
      cases h
      have ih := aPlaces_ok hl
      simp only [List.mapM_cons, Sem.run_bind, run_size hi, Result.andThen_ok, Sem.run_pure]
      rw [ih]; rfl
    · cases h

def aBuild0 (P : Program) (t : TypeId) (parts : List (Nat × AVal)) : Option AVal :=
  match zeroA P t with
  | some z => match z.cells?, P.underlying t with
    | some zc, some (.struct fs) => match aPlaces P fs.toList with
      | some pl => (aFill (fun i => pl[i]?) zc parts).map AVal.agg
      | none => none
    | some zc, some (.array _ e) => match P.info? e with
      | some i => (aFill (fun j => some (j * i.size, i.size)) zc parts).map AVal.agg
      | none => none
    | _, _ => none
  | none => none
theorem aBuild0_ok {t : TypeId} {parts : List (Nat × AVal)} {u : AVal} {ps : List (Nat × Value)} (h : aBuild0 P t parts = some u) (hp : denP ρ parts = some ps) :
    ∃ x, u.den ρ = some x ∧ (Instr.build t ps.toArray).run P w = .ok x w := by
  unfold aBuild0 at h
  split at h
  · rename_i z hz
    obtain ⟨zv, h1, h2⟩ := zeroA_ok hz
    split at h
    · rename_i zc fs hzc hu
      split at h
      · rename_i pl hpl
        obtain ⟨out, ho, rfl⟩ := map_some h
        have hcs := AVal.cells?_den hzc (h2 ρ)
        obtain ⟨ys, hy1, hy2⟩ := aFill_ok _ parts zc out _ ps ho hcs hp
        refine ⟨.agg ys.toArray, by simp [AVal.den, hy2], ?_⟩
        have hpl' := aPlaces_ok (w := w) hpl
        have hm : (fs.mapM fun f => (do pure (f.offset, ← sizeOf f.type) : Sem (Nat × Nat))).run P w = .ok pl.toArray w := by
          rw [Array.mapM_eq_mapM_toList]
          simp only [Sem.run_map, hpl', Result.andThen_ok]
        simp only [Instr.build, Sem.run_bind, h1, Result.andThen_ok, run_und hu, hm]
        have e1 : (fun (x : Nat) => pl.toArray[x]?) = fun (i : Nat) => pl[i]? := by funext i; simp
        have e2 : zv.cells = zv.cells.toList.toArray := by simp
        rw [e1, e2, hy1]; rfl
      · cases h
    · rename_i zc n e hzc hu
      split at h
      · rename_i i hi
        obtain ⟨out, ho, rfl⟩ := map_some h
        have hcs := AVal.cells?_den hzc (h2 ρ)
        obtain ⟨ys, hy1, hy2⟩ := aFill_ok _ parts zc out _ ps ho hcs hp
        refine ⟨.agg ys.toArray, by simp [AVal.den, hy2], ?_⟩
        simp only [Instr.build, Sem.run_bind, h1, Result.andThen_ok, run_und hu, run_size hi]
        have e2 : zv.cells = zv.cells.toList.toArray := by simp
        rw [e2, hy1]; rfl
      · cases h
    · cases h
  · cases h

/-- Zeros in a great row of cells, told by one number. -/
def zcL (k : Nat) : List AVal → List AVal
  | [] => []
  | .int .i64 (.lit (.ofNat 0)) :: r => .int .i64 (.un 0 (.lit 0) (.lit (.ofNat (k % 256)))) :: zcL (k + 1) r
  | v :: r => v :: zcL (k + 1) r
theorem zcL_den : ∀ (l : List AVal) (k : Nat), AVal.denL ρ (zcL k l) = AVal.denL ρ l
  | [], _ => rfl
  | v :: r, k => by
    unfold zcL
    split
    · rename_i heq; cases heq
    · rename_i r' heq
      cases heq
      have h1 : (AVal.int .i64 (.un 0 (.lit 0) (.lit (.ofNat (k % 256))))).den ρ = some (.int .i64 0) := by
        simp only [AVal.den, IT.den, univ, decL_zero, Option.map_some]; rfl
      have h2 : (AVal.int .i64 (.lit (.ofNat 0))).den ρ = some (.int .i64 0) := rfl
      simp only [AVal.denL, h1, h2, zcL_den r (k + 1)]
    · rename_i heq
      cases heq
      simp only [AVal.denL, zcL_den r (k + 1)]
def zcA : AVal → AVal
  | .agg cs => cond (Nat.ble 200 cs.length) (.agg (zcL (256 - cs.length % 256) cs)) (.agg cs)
  | v => v
theorem zcA_den (v : AVal) : (zcA v).den ρ = v.den ρ := by
  unfold zcA
  split
  · rename_i cs
    cases Nat.ble 200 cs.length
    · rfl
    · simp only [cond_true, AVal.den, zcL_den]
  · rfl
def aBuild (P : Program) (t : TypeId) (parts : List (Nat × AVal)) : Option AVal := (aBuild0 P t parts).map zcA
theorem aBuild_ok {t : TypeId} {parts : List (Nat × AVal)} {u : AVal} {ps : List (Nat × Value)} (h : aBuild P t parts = some u) (hp : denP ρ parts = some ps) :
    ∃ x, u.den ρ = some x ∧ (Instr.build t ps.toArray).run P w = .ok x w := by
  obtain ⟨v, hv, rfl⟩ := Option.map_eq_some_iff.1 h
  obtain ⟨x, h1, h2⟩ := aBuild0_ok hv hp
  exact ⟨x, by rw [zcA_den]; exact h1, h2⟩

end
end Go.Vm
