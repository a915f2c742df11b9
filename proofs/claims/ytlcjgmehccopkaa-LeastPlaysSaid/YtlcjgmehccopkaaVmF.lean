/-
  A machine for abstract states over the model: families of objects that lie in many blocks: the stocks of numbers.
-/
import Derived.Test.YtlcjgmehccopkaaLe0
namespace Go.Vm
namespace Le

/-- A row of ints, with room for so many. -/
def RowO (L : List Int) (cap : Nat) (o : Obj) : Prop := ∃ c fr, o = .cells c 3 fr ∧ L.map (Value.int .i64) <+: c.toList ∧ c.size = cap ∧ (fr.2 ≤ fr.1 ∨ c.size ≤ fr.1)
/-- Where the numbers lie that were given back: nowhere, or in a row of their own, of which they are the beginning. -/
def BackIn (w : World) (b bm : Nat) (F : Nat → Prop) (B : List Int) (vb : Value) : Prop :=
  (∃ a, vb = .slice a 0 0 ∧ (∀ p, a = some p → p.spot = none) ∧ B = [] ∧ ∀ y, F y ↔ y = b ∨ y = bm) ∨
  ∃ b1 cap X o, vb = .slice (some ⟨b1, 0, none⟩) B.length cap ∧ w.heap[b1]? = some o ∧ RowO X cap o ∧ X.take B.length = B ∧ b1 ≠ b ∧ b1 ≠ bm ∧ ∀ y, F y ↔ y = b ∨ y = bm ∨ y = b1
/-- A stock: its most, its highest, the numbers in use, in their order. -/
structure StockIn (w : World) (b : Nat) (F : Nat → Prop) (most : Int) (h : Nat) (K : List Int) : Prop where
  ex : ∃ B c fr vb bm es cl, w.heap[b]? = some (.cells c 51 fr) ∧ c.toList = [.int .i64 most, .int .i64 h, vb, .map (some bm)] ∧ (fr.2 ≤ fr.1 ∨ c.size ≤ fr.1) ∧ w.heap[bm]? = some (.map es cl) ∧
    es.toList.map (fun e => (e.key, e.val)) = K.map (fun k => (Value.int .i64 k, Value.int .i64 1)) ∧ Stk most h B K ∧ b ≠ bm ∧ BackIn w b bm F B vb
  m0 : 0 ≤ most
  m1 : most ≤ 65535
end Le
open Le

/-- An object of such a family, told by such a number, that begins in such a block and lies in these. -/
def fam (k : Nat) (x : Int) (w : World) (b : Nat) (F : Nat → Prop) : Prop := k = 0 ∧ ∃ most h K, x = encL (most :: (h : Nat) :: K) ∧ StockIn w b F most h K
theorem fam_root {k : Nat} {x : Int} {w : World} {b : Nat} {F : Nat → Prop} (h : fam k x w b F) : F b := by
  obtain ⟨_, _, _, _, _, ⟨⟨_, _, _, _, _, _, _, _, _, _, _, _, _, _, hb⟩, _, _⟩⟩ := h
  rcases hb with ⟨_, _, _, _, hF⟩ | ⟨_, _, _, _, _, _, _, _, _, _, hF⟩
  · exact (hF b).2 (.inl rfl)
  · exact (hF b).2 (.inl rfl)
theorem fam_lt {k : Nat} {x : Int} {w : World} {b : Nat} {F : Nat → Prop} (h : fam k x w b F) {y : Nat} (hy : F y) : y < w.heap.size := by
  obtain ⟨_, _, _, _, _, ⟨⟨_, _, _, _, bm, _, _, h1, _, _, h2, _, _, _, hb⟩, _, _⟩⟩ := h
  have lt : ∀ {z : Nat} {o : Obj}, w.heap[z]? = some o → z < w.heap.size := fun e => (Array.getElem?_eq_some_iff.1 e).1
  rcases hb with ⟨_, _, _, _, hF⟩ | ⟨_, _, _, _, _, h3, _, _, _, _, hF⟩
  · rcases (hF y).1 hy with rfl | rfl
    · exact lt h1
    · exact lt h2
  · rcases (hF y).1 hy with rfl | rfl | rfl
    · exact lt h1
    · exact lt h2
    · exact lt h3
theorem fam_local {k : Nat} {x : Int} {w w' : World} {b : Nat} {F : Nat → Prop} (h : fam k x w b F) (e : ∀ y, F y → w'.heap[y]? = w.heap[y]?) : fam k x w' b F := by
  obtain ⟨hk, most, hh, K, hx, ⟨⟨B, c, fr, vb, bm, es, cl, h1, hc, hf, h2, he, hs, hne, hb⟩, m0, m1⟩⟩ := h
  refine ⟨hk, most, hh, K, hx, ⟨⟨B, c, fr, vb, bm, es, cl, ?_, hc, hf, ?_, he, hs, hne, ?_⟩, m0, m1⟩⟩
  · rcases hb with ⟨_, _, _, _, hF⟩ | ⟨_, _, _, _, _, _, _, _, _, _, hF⟩
    · rw [e b ((hF b).2 (.inl rfl))]; exact h1
    · rw [e b ((hF b).2 (.inl rfl))]; exact h1
  · rcases hb with ⟨_, _, _, _, hF⟩ | ⟨_, _, _, _, _, _, _, _, _, _, hF⟩
    · rw [e bm ((hF bm).2 (.inr rfl))]; exact h2
    · rw [e bm ((hF bm).2 (.inr (.inl rfl)))]; exact h2
  · rcases hb with hz | ⟨b1, cap, X, o, g1, g2, g3, g4, g5, g6, hF⟩
    · exact .inl hz
    · exact .inr ⟨b1, cap, X, o, g1, by rw [e b1 ((hF b1).2 (.inr (.inr rfl)))]; exact g2, g3, g4, g5, g6, hF⟩
end Go.Vm
