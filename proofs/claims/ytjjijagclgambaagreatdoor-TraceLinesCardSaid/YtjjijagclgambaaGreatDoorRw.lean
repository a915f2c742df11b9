/-
  Rows that came in: elements that are made of numbers alone, whatever structs they stand in; their ranges.
-/
import Derived.Test.YtjjijagclgambaaGreatDoorVm24
import Derived.ChangeArms
import Derived.Lib.SmallJoins
namespace Go.Vm
open Go.ChangeShapes Go.WideShapes Go.ChangeAt Go.RowKit

/-- The kinds of the cells of a type that is made of numbers. -/
def flatF (P : Program) (g : TypeId → Option (List IntKind)) : Nat → List Field → Option (List IntKind)
  | _, [] => some []
  | off, f :: r => match g f.type with
    | some ks => cond (Nat.beq f.offset off && Nat.beq (P.cellsOf f.type) ks.length) ((flatF P g (off + ks.length) r).map (ks ++ ·)) none
    | none => none
def flat (P : Program) : Nat → TypeId → Option (List IntKind)
  | 0, _ => none
  | n + 1, t => match P.underlying t with
    | some (.int k) => some [k]
    | some (.struct fs) => match flatF P (flat P n) 0 fs.toList with
      | some ks => cond (Nat.beq (P.cellsOf t) ks.length) (some ks) none
      | none => none
    | _ => none
section
variable {H : Type} {enc : TypeId × Value → H} {P : Program} {W : World} {base : Nat} {sp : Nat → Bool} {held : Bool}
def CellOk (ks : List IntKind) (cs : List Value) : Prop := cs.length = ks.length ∧ ∀ (j : Nat) k, ks[j]? = some k → ∃ z : Int, cs[j]? = some (Value.int k z) ∧ k.min ≤ z ∧ z ≤ k.max
theorem flatF_ok {g : TypeId → Option (List IntKind)} {m : Nat} (hg : ∀ t ks cs x, g t = some ks → DataW.trod enc P W base sp held m t cs = some x → CellOk ks cs) {cs : List Value} {xs : List (DataW H × List MemPlace)} :
    ∀ (fs : List Field) (off : Nat) (ks : List IntKind), flatF P g off fs = some ks → (∀ (i : Nat) f, fs[i]? = some f → ∃ y, DataW.trod enc P W base sp held m f.type ((cs.drop f.offset).take (P.cellsOf f.type)) = some y) →
      ∀ (j : Nat) k, ks[j]? = some k → ∃ z : Int, cs[off + j]? = some (Value.int k z) ∧ k.min ≤ z ∧ z ≤ k.max
  | [], off, ks, h, _, j, k, hk => by cases h; simp at hk
  | f :: r, off, ks, h, hx, j, k, hk => by
    simp only [flatF] at h
    split at h
    rotate_left
    · cases h
    rename_i ks1 hks
    cases hb : (Nat.beq f.offset off && Nat.beq (P.cellsOf f.type) ks1.length) with
    | false => rw [hb] at h; cases h
    | true =>
    rw [hb] at h
    simp only [cond_true] at h
    obtain ⟨ks2, h2, rfl⟩ := Option.map_eq_some_iff.1 h
    simp only [Bool.and_eq_true] at hb
    have e1 := Nat.eq_of_beq_eq_true hb.1
    have e2 := Nat.eq_of_beq_eq_true hb.2
    obtain ⟨y, hy⟩ := hx 0 f rfl
    obtain ⟨c1, c2⟩ := hg _ _ _ _ hks hy
    rcases Nat.lt_or_ge j ks1.length with hj | hj
    · rw [List.getElem?_append_left hj] at hk
      obtain ⟨z, hz, hr⟩ := c2 j k hk
      rw [List.getElem?_take_of_lt (by omega), List.getElem?_drop, e1] at hz
      exact ⟨z, hz, hr⟩
    · rw [List.getElem?_append_right hj] at hk
      have := flatF_ok hg (xs := xs) r (off + ks1.length) ks2 h2 (fun i f hf => hx (i + 1) f (by simpa using hf)) (j - ks1.length) k hk
      rwa [show off + ks1.length + (j - ks1.length) = off + j by omega] at this
theorem flat_ok : ∀ (n : Nat) (t : TypeId) (ks : List IntKind) (m : Nat) (cs : List Value) (x : DataW H × List MemPlace), flat P n t = some ks → DataW.trod enc P W base sp held m t cs = some x → CellOk ks cs := by
  intro n
  induction n with
  | zero => intro t ks m cs x h; cases h
  | succ n ih =>
    intro t ks m cs x h hf
    simp only [flat] at h
    split at h
    · rename_i k hu
      cases h
      obtain ⟨z, rfl, _, hw⟩ := DataW.trod_int hu hf
      simp only [Lit.wf, Bool.and_eq_true, decide_eq_true_eq] at hw
      refine ⟨rfl, fun j k' hk => ?_⟩
      cases j with
      | zero => simp at hk; subst hk; exact ⟨z, rfl, hw.1, hw.2⟩
      | succ j => simp at hk
    · rename_i fs hu
      split at h
      rotate_left
      · cases h
      rename_i ks' hks
      cases hb : Nat.beq (P.cellsOf t) ks'.length with
      | false => rw [hb] at h; cases h
      | true =>
      rw [hb] at h; cases h
      obtain ⟨xs, m', rfl, _, hl, hlen, hx⟩ := DataW.trod_struct hu hf
      refine ⟨by rw [hl, Nat.eq_of_beq_eq_true hb], fun j k hk => ?_⟩
      have := flatF_ok (cs := cs) (xs := xs) (fun t ks cs x h1 h2 => ih t ks m' cs x h1 h2) fs.toList 0 _ hks (fun i f hf' => by
        have hf2 : fs[i]? = some f := by simpa using hf'
        have hi : i < xs.length := by rw [hlen]; exact (Array.getElem?_eq_some_iff.1 hf2).1
        exact ⟨xs[i], by rw [hx i f hf2, List.getElem?_eq_getElem hi]⟩) j k hk
      simpa using this
    · cases h

/-- All its numbers are such ones. -/
def InRow (ks : List IntKind) (m : Nat) (u : Value) : Prop := (∀ i j k, i < m → ks[j]? = some k → k.min ≤ selI u (i * ks.length + j) ∧ selI u (i * ks.length + j) ≤ k.max) ∧ ∀ i, m * ks.length ≤ i → selI u i = 0
/-- Of every element, be it there or not. -/
theorem InRow.all {ks : List IntKind} {m : Nat} {u : Value} (h : InRow ks m u) {j : Nat} {k : IntKind} (hk : ks[j]? = some k) (i : Nat) (h0 : k.min ≤ 0 ∧ 0 ≤ k.max) : k.min ≤ selI u (i * ks.length + j) ∧ selI u (i * ks.length + j) ≤ k.max := by
  rcases Nat.lt_or_ge i m with h1 | h1
  · exact h.1 i j k h1 hk
  · rw [h.2 _ (by have := Nat.mul_le_mul_right ks.length h1; omega)]; exact h0
theorem open_rowsR {t e : TypeId} {ks : List IntKind} {r : Reach} {b0 f : Nat} {v : Value} {d : DataW H} {p : List MemPlace} (ht : P.underlying t = some (.slice e)) (hc : P.cellsOf e = ks.length) (hk : 0 < ks.length) (he : flat P f e = some ks)
    (hv : Value.okWide P W r b0 t v) (h : DataW.Trod enc P W base sp held t v d p) :
    v = .slice none 0 0 ∨ ∃ b o len cap : Nat, v = .slice (some ⟨b, o, none⟩) len cap ∧ len ≤ 9223372036854775807 ∧ (0 < len → ∃ u, RowAt W b o ks len u ∧ InRow ks len u) := by
  obtain ⟨fuel, hf⟩ := h
  obtain ⟨a0, l0, c0, rfl⟩ := okWide_slice ht hv
  rcases DataW.trod_slice ht hf with ⟨h0, _⟩ | ⟨a, len, cap, elems, rest, n, _, hcs, _, _, hl, hm, hlen, hel, _, _⟩
  · exact .inl (List.cons.inj h0).1
  · obtain ⟨rfl, rfl, rfl⟩ : a0 = some a ∧ l0 = len ∧ c0 = cap := by simpa [Value.cells] using hcs
    simp only [Value.okWide, ht, Cell.okWide, Cell.ok] at hv
    obtain ⟨_, _, _, hspot, row, cells, hsh, _⟩ := hv
    obtain ⟨b, o, s⟩ := a
    simp only at hspot
    subst hspot
    refine .inr ⟨b, o, l0, c0, rfl, Nat.le_trans hl (Nat.le_trans hm (by decide)), fun h0 => ?_⟩
    obtain ⟨c, el, fr, hg⟩ : ∃ c el fr, W.heap[b]? = some (.cells c el fr) := by
      simp only [World.shape?] at hsh
      split at hsh
      · rename_i c el fr hg; exact ⟨c, el, fr, hg⟩
      · cases hsh
    have cell : ∀ i j k, i < l0 → ks[j]? = some k → ∃ z, c[o + (i * ks.length + j)]? = some (.int k z) ∧ k.min ≤ z ∧ z ≤ k.max := fun i j k hi hkj => by
      have hi' := hel i hi
      obtain ⟨x, hx⟩ : ∃ x, elems[i]? = some x := ⟨elems[i]'(by omega), by simp [hlen, hi]⟩
      rw [hx, Option.bind_eq_some_iff] at hi'
      obtain ⟨cs, hcs, htr⟩ := hi'
      rw [hc] at hcs
      obtain ⟨_, hl2, hcell⟩ := World.cells?_some hcs
      obtain ⟨z, hz, hzr⟩ := (flat_ok f e ks n cs x he htr).2 j k hkj
      have hj : j < ks.length := (List.getElem?_eq_some_iff.1 hkj).1
      have h1 := hcell j hj
      rw [hz, addr_add, addr_add, cell_of W hg] at h1
      exact ⟨z, by rw [← Nat.add_assoc]; exact h1, hzr⟩
    have hsz : o + l0 * ks.length ≤ c.size := by
      obtain ⟨k, hkk⟩ : ∃ k, ks[ks.length - 1]? = some k := ⟨ks[ks.length - 1]'(by omega), by simp⟩
      obtain ⟨z, hz, _⟩ := cell (l0 - 1) (ks.length - 1) k (by omega) hkk
      have h1 := (Array.getElem?_eq_some_iff.1 hz).1
      obtain ⟨m, rfl⟩ : ∃ m, l0 = m + 1 := ⟨l0 - 1, by omega⟩
      rw [Nat.add_sub_cancel] at h1
      rw [Nat.add_mul, Nat.one_mul]
      omega
    have inn : ∀ i j k, i < l0 → ks[j]? = some k → ∃ z, ((c.toList.drop o).take (l0 * ks.length))[i * ks.length + j]? = some (.int k z) ∧ k.min ≤ z ∧ z ≤ k.max := fun i j k hi hkj => by
      obtain ⟨z, hz, hzr⟩ := cell i j k hi hkj
      have hj : j < ks.length := (List.getElem?_eq_some_iff.1 hkj).1
      have hlt : i * ks.length + j < l0 * ks.length := by
        have := Nat.mul_le_mul_right ks.length (show i + 1 ≤ l0 by omega)
        rw [Nat.add_mul, Nat.one_mul] at this
        omega
      exact ⟨z, by rw [List.getElem?_take_of_lt hlt, List.getElem?_drop]; simpa using hz, hzr⟩
    refine ⟨.agg ((c.toList.drop o).take (l0 * ks.length)).toArray, ⟨c, fr, el, (c.toList.drop o).take (l0 * ks.length), hg, by simp [aggCells], by omega, List.take_prefix _ _, by simp; omega, fun i j k hi hkj => ?_⟩, fun i j k hi hkj => ?_, fun i hi => ?_⟩
    · obtain ⟨z, hz, _⟩ := inn i j k hi hkj
      exact ⟨z, hz⟩
    · obtain ⟨z, hz, hzr⟩ := inn i j k hi hkj
      rw [selI_of (c := (c.toList.drop o).take (l0 * ks.length)) (by simp [aggCells]) hz]
      exact hzr
    · have hn : ((c.toList.drop o).take (l0 * ks.length))[i]? = none := List.getElem?_eq_none (by simp; omega)
      simp only [selI, List.getElem?_toArray, hn]
end
end Go.Vm
