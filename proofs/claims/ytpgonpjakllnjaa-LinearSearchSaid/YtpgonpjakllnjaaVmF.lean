/-
  A machine for abstract states over the model: families of objects that lie in many blocks: the models (a queue, a map, semaphores).
-/
import Derived.Test.YtpgonpjakllnjaaVm2
namespace Go.Vm
namespace Md

/-- The entries of a map that a list tells: key, value, key, value. -/
def entM : List Int → List (Value × Value)
  | k :: v :: r => (.int .i64 k, .int .i64 v) :: entM r
  | _ => []
/-- All entries were born before, each at a time of its own. -/
def BornM (es : Array MapEntry) (cl : Nat) : Prop := (∀ e ∈ es.toList, e.born < cl) ∧ (es.toList.map (·.born)).Nodup
/-- What a map's entries are told by: keys of this range, each once, numbers. -/
def keysM : List Int → List Int
  | k :: _ :: r => k :: keysM r
  | _ => []
def MapOk (M : List Int) : Prop := (keysM M).Nodup ∧ (∀ k ∈ keysM M, 0 ≤ k ∧ k ≤ 255) ∧ ∀ v ∈ M, -9223372036854775808 ≤ v ∧ v < 9223372036854775808
def ModOk (Q M S : List Int) : Prop := Q.length ≤ 256 ∧ MapOk M ∧ MapOk S ∧ ∀ v ∈ Q, -9223372036854775808 ≤ v ∧ v < 9223372036854775808
/-- A row of ints, with room for so many. -/
def RowM (L : List Int) (cap : Nat) (o : Obj) : Prop := ∃ c fr, o = .cells c 3 fr ∧ L.map (Value.int .i64) <+: c.toList ∧ c.size = cap ∧ (fr.2 ≤ fr.1 ∨ c.size ≤ fr.1)
/-- Where a queue lies: nowhere, or in a row of its own. -/
def QueueIn (w : World) (b bp bs : Nat) (F : Nat → Prop) (Q : List Int) (vq : Value) : Prop :=
  (∃ a, vq = .slice a 0 0 ∧ (∀ p, a = some p → p.spot = none) ∧ Q = [] ∧ ∀ y, F y ↔ y = b ∨ y = bp ∨ y = bs) ∨
  ∃ b1 cap o, Q ≠ [] ∧ vq = .slice (some ⟨b1, 0, none⟩) Q.length cap ∧ w.heap[b1]? = some o ∧ RowM Q cap o ∧ b1 ≠ b ∧ b1 ≠ bp ∧ b1 ≠ bs ∧ ∀ y, F y ↔ y = b ∨ y = bp ∨ y = bs ∨ y = b1
/-- A model: its queue, its map's entries, its semaphores' entries. -/
structure ModelIn (w : World) (b : Nat) (F : Nat → Prop) (Q M S : List Int) : Prop where
  ex : ∃ c fr vq bp bs em cm es cs, w.heap[b]? = some (.cells c 65 fr) ∧ c.toList = [vq, .map (some bp), .map (some bs)] ∧ (fr.2 ≤ fr.1 ∨ c.size ≤ fr.1) ∧
    w.heap[bp]? = some (.map em cm) ∧ em.toList.map (fun e => (e.key, e.val)) = entM M ∧ BornM em cm ∧ w.heap[bs]? = some (.map es cs) ∧ es.toList.map (fun e => (e.key, e.val)) = entM S ∧ BornM es cs ∧
    b ≠ bp ∧ b ≠ bs ∧ bp ≠ bs ∧ QueueIn w b bp bs F Q vq
end Md
open Md

/-- An object of such a family, told by such a number, that begins in such a block and lies in these. -/
def fam (k : Nat) (x : Int) (w : World) (b : Nat) (F : Nat → Prop) : Prop := k = 0 ∧ ∃ Q M S, x = encL [encL Q, encL M, encL S] ∧ ModelIn w b F Q M S ∧ ModOk Q M S
theorem fam_root {k : Nat} {x : Int} {w : World} {b : Nat} {F : Nat → Prop} (h : fam k x w b F) : F b := by
  obtain ⟨_, _, _, _, _, ⟨⟨_, _, _, _, _, _, _, _, _, _, _, _, _, _, _, _, _, _, _, _, _, hb⟩⟩, _⟩ := h
  rcases hb with ⟨_, _, _, _, hF⟩ | ⟨_, _, _, _, _, _, _, _, _, _, hF⟩
  · exact (hF b).2 (.inl rfl)
  · exact (hF b).2 (.inl rfl)
theorem fam_lt {k : Nat} {x : Int} {w : World} {b : Nat} {F : Nat → Prop} (h : fam k x w b F) {y : Nat} (hy : F y) : y < w.heap.size := by
  obtain ⟨_, _, _, _, _, ⟨⟨_, _, _, bp, bs, _, _, _, _, h1, _, _, h2, _, _, h3, _, _, _, _, _, hb⟩⟩, _⟩ := h
  have lt : ∀ {z : Nat} {o : Obj}, w.heap[z]? = some o → z < w.heap.size := fun e => (Array.getElem?_eq_some_iff.1 e).1
  rcases hb with ⟨_, _, _, _, hF⟩ | ⟨_, _, _, _, _, h4, _, _, _, _, hF⟩
  · rcases (hF y).1 hy with rfl | rfl | rfl
    · exact lt h1
    · exact lt h2
    · exact lt h3
  · rcases (hF y).1 hy with rfl | rfl | rfl | rfl
    · exact lt h1
    · exact lt h2
    · exact lt h3
    · exact lt h4
theorem fam_local {k : Nat} {x : Int} {w w' : World} {b : Nat} {F : Nat → Prop} (h : fam k x w b F) (e : ∀ y, F y → w'.heap[y]? = w.heap[y]?) : fam k x w' b F := by
  obtain ⟨hk, Q, M, S, hx, ⟨⟨c, fr, vq, bp, bs, em, cm, es, cs, h1, hc, hf, h2, he, hbe, h3, hs, hbs, n1, n2, n3, hb⟩⟩, hlen⟩ := h
  have F3 : F b ∧ F bp ∧ F bs := by
    rcases hb with ⟨_, _, _, _, hF⟩ | ⟨_, _, _, _, _, _, _, _, _, _, hF⟩
    · exact ⟨(hF b).2 (.inl rfl), (hF bp).2 (.inr (.inl rfl)), (hF bs).2 (.inr (.inr rfl))⟩
    · exact ⟨(hF b).2 (.inl rfl), (hF bp).2 (.inr (.inl rfl)), (hF bs).2 (.inr (.inr (.inl rfl)))⟩
  refine ⟨hk, Q, M, S, hx, ⟨⟨c, fr, vq, bp, bs, em, cm, es, cs, by rw [e b F3.1]; exact h1, hc, hf, by rw [e bp F3.2.1]; exact h2, he, hbe, by rw [e bs F3.2.2]; exact h3, hs, hbs, n1, n2, n3, ?_⟩⟩, hlen⟩
  rcases hb with hz | ⟨b1, cap, o, g0, g1, g2, g3, g4, g5, g6, hF⟩
  · exact .inl hz
  · exact .inr ⟨b1, cap, o, g0, g1, by rw [e b1 ((hF b1).2 (.inr (.inr (.inr rfl))))]; exact g2, g3, g4, g5, g6, hF⟩
end Go.Vm
