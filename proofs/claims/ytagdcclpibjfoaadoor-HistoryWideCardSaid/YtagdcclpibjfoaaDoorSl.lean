/-
  A slice that came in, of elements of numbers, as a row.
-/
import Derived.Test.YtagdcclpibjfoaaDoorBa
import Derived.ChangeArms
namespace Go.Proofs.YtagdcclpibjfoaaDoor
open Go.ChangeShapes Go.WideShapes Go.ChangeAt Go.RowKit Go.Vm

section
variable {H : Type} {enc : TypeId × Value → H} {P : Program} {W : World} {base : Nat} {sp : Nat → Bool} {held : Bool}
/-- An element that reads is one of such numbers. -/
def ElemOk (P : Program) (e : TypeId) (ks : List IntKind) : Prop := ∀ {H : Type} (enc : TypeId × Value → H) (W : World) (base : Nat) (sp : Nat → Bool) (held : Bool) (n : Nat) (cs : List Value) (x : DataW H × List MemPlace), cs.length = ks.length → DataW.trod enc P W base sp held n e cs = some x →
  ∀ (j : Nat) k, ks[j]? = some k → ∃ z : Int, cs[j]? = some (Value.int k z)
theorem open_rows {t e : TypeId} {ks : List IntKind} {r : Reach} {b0 : Nat} {v : Value} {d : DataW H} {p : List MemPlace} (ht : P.underlying t = some (.slice e)) (hc : P.cellsOf e = ks.length) (hk : 0 < ks.length) (he : ElemOk P e ks)
    (hv : Value.okWide P W r b0 t v) (h : DataW.Trod enc P W base sp held t v d p) :
    v = .slice none 0 0 ∨ ∃ b o len cap : Nat, v = .slice (some ⟨b, o, none⟩) len cap ∧ len ≤ 9223372036854775807 ∧ (0 < len → ∃ u, RowAt W b o ks len u) := by
  obtain ⟨fuel, hf⟩ := h
  obtain ⟨a0, l0, c0, rfl⟩ := okWide_slice ht hv
  rcases DataW.trod_slice ht hf with ⟨h0, _⟩ | ⟨a, len, cap, elems, rest, n, _, hcs, _, _, hl, hm, hlen, hel, _, _⟩
  · exact .inl (List.cons.inj h0).1
  · obtain ⟨rfl, rfl, rfl⟩ : a0 = some a ∧ l0 = len ∧ c0 = cap := by simpa [Value.cells] using hcs
    simp only [Value.okWide, ht, Cell.okWide, Cell.ok] at hv
    obtain ⟨_, _, _, hspot, row, cells, hsh, _⟩ := hv
    obtain ⟨b, o, s⟩ := a
    simp only at hspot
    subst hspot
    refine .inr ⟨b, o, l0, c0, rfl, Nat.le_trans hl (Nat.le_trans hm (by decide)), fun h0 => ?_⟩
    obtain ⟨c, el, fr, hg⟩ : ∃ c el fr, W.heap[b]? = some (.cells c el fr) := by
      simp only [World.shape?] at hsh
      split at hsh
      · rename_i c el fr hg; exact ⟨c, el, fr, hg⟩
      · cases hsh
    have cell : ∀ i j k, i < l0 → ks[j]? = some k → ∃ z, c[o + (i * ks.length + j)]? = some (.int k z) := fun i j k hi hkj => by
      have hi' := hel i hi
      obtain ⟨x, hx⟩ : ∃ x, elems[i]? = some x := ⟨elems[i]'(by omega), by simp [hlen, hi]⟩
      rw [hx, Option.bind_eq_some_iff] at hi'
      obtain ⟨cs, hcs, htr⟩ := hi'
      rw [hc] at hcs
      obtain ⟨_, hl2, hcell⟩ := World.cells?_some hcs
      obtain ⟨z, hz⟩ := he enc W base sp held n cs x hl2 htr j k hkj
      have hj : j < ks.length := (List.getElem?_eq_some_iff.1 hkj).1
      have h1 := hcell j hj
      rw [hz, addr_add, addr_add, cell_of W hg] at h1
      exact ⟨z, by rw [← Nat.add_assoc]; exact h1⟩
    have hsz : o + l0 * ks.length ≤ c.size := by
      obtain ⟨k, hkk⟩ : ∃ k, ks[ks.length - 1]? = some k := ⟨ks[ks.length - 1]'(by omega), by simp⟩
      obtain ⟨z, hz⟩ := cell (l0 - 1) (ks.length - 1) k (by omega) hkk
      have h1 := (Array.getElem?_eq_some_iff.1 hz).1
      obtain ⟨m, rfl⟩ : ∃ m, l0 = m + 1 := ⟨l0 - 1, by omega⟩
      rw [Nat.add_sub_cancel] at h1
      rw [Nat.add_mul, Nat.one_mul]
      omega
    refine ⟨.agg ((c.toList.drop o).take (l0 * ks.length)).toArray, c, fr, el, (c.toList.drop o).take (l0 * ks.length), hg, by simp [aggCells], by omega, List.take_prefix _ _, by simp; omega, fun i j k hi hkj => ?_⟩
    obtain ⟨z, hz⟩ := cell i j k hi hkj
    have hj : j < ks.length := (List.getElem?_eq_some_iff.1 hkj).1
    have hlt : i * ks.length + j < l0 * ks.length := by
      have := Nat.mul_le_mul_right ks.length (show i + 1 ≤ l0 by omega)
      rw [Nat.add_mul, Nat.one_mul] at this
      omega
    exact ⟨z, by rw [List.getElem?_take_of_lt hlt, List.getElem?_drop]; simpa using hz⟩
end

theorem one_intC {H : Type} {enc : TypeId × Value → H} {P : Program} {W : World} {base : Nat} {sp : Nat → Bool} {held : Bool} {n : Nat} {t : TypeId} {k : IntKind} {c : List Value} {y : DataW H × List MemPlace} (ht : P.underlying t = some (.int k)) (hc : c.length = 1) (h : DataW.trod enc P W base sp held n t c = some y) : ∃ z, c[0]? = some (.int k z) := by
  match c, hc with
  | [v], _ => obtain ⟨z, rfl⟩ := one_int ht h; exact ⟨z, rfl⟩

end Go.Proofs.YtagdcclpibjfoaaDoor
