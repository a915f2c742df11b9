/-
  A machine for abstract states over the model: families of objects that lie in many blocks: maps from ints to rows of ints; maps from ints to ranks.
-/
import Derived.Test.YtglghnfbkiondaaDoorVm2
namespace Go.Vm
namespace Mr

/-- Keys, and what lies under each. -/
abbrev Es := List (Int × List Int)
def codeE (es : Es) : Int := encL (es.map fun p => encL (p.1 :: p.2))
def ofE (z : Int) : Int × List Int := match decL z with
  | a :: r => (a, r)
  | [] => (0, [])
def esOf (x : Int) : Es := (decL x).map ofE
theorem esOf_code (es : Es) : esOf (codeE es) = es := by
  unfold esOf codeE
  rw [decL_encL, List.map_map]
  conv => rhs; rw [← List.map_id es]
  refine List.map_congr_left fun p _ => ?_
  simp only [Function.comp, ofE, decL_encL, id]
/-- All entries were born before, each at a time of its own. -/
def BornM (es : Array MapEntry) (cl : Nat) : Prop := (∀ e ∈ es.toList, e.born < cl) ∧ (es.toList.map (·.born)).Nodup
/-- A row of ints, with room for so many. -/
def RowM (L : List Int) (cap : Nat) (o : Obj) : Prop := ∃ c fr, o = .cells c 3 fr ∧ L.map (Value.int .i64) <+: c.toList ∧ c.size = cap ∧ (fr.2 ≤ fr.1 ∨ c.size ≤ fr.1)
/-- What lies under a key: its row; where the row is lent, anything. -/
def valR (hole : Option Int) (sv : Value) (ad cap : Int → Nat) (p : Int × List Int) : Int × Value := (p.1, if hole = some p.1 then sv else .slice (some ⟨ad p.1, 0, none⟩) p.2.length (cap p.1))
def kvE (p : Int × Value) : Value × Value := (.int .i64 p.1, p.2)
/-- A map from ints to rows; the row of one key may be lent. -/
structure RowsIn (hole : Option Int) (es : Es) (w : World) (b : Nat) (F : Nat → Prop) : Prop where
  nodup : (es.map (·.1)).Nodup
  data : ∃ (m : Array MapEntry) (cl : Nat) (sv : Value) (ad cap : Int → Nat), w.heap[b]? = some (.map m cl) ∧ BornM m cl ∧ m.toList.map (fun e => (e.key, e.val)) = (es.map (valR hole sv ad cap)).map kvE ∧
    (∀ p ∈ es, hole ≠ some p.1 → ad p.1 ≠ b ∧ ∃ o, w.heap[ad p.1]? = some o ∧ RowM p.2 (cap p.1) o) ∧
    (∀ p ∈ es, ∀ q ∈ es, hole ≠ some p.1 → hole ≠ some q.1 → ad p.1 = ad q.1 → p.1 = q.1) ∧
    ∀ y, F y ↔ y = b ∨ ∃ p ∈ es, hole ≠ some p.1 ∧ y = ad p.1
/-- A map from ints to six ints. -/
structure RanksIn (es : Es) (w : World) (b : Nat) (F : Nat → Prop) : Prop where
  nodup : (es.map (·.1)).Nodup
  six : ∀ p ∈ es, p.2.length = 6
  data : ∃ (m : Array MapEntry) (cl : Nat), w.heap[b]? = some (.map m cl) ∧ BornM m cl ∧ m.toList.map (fun e => (e.key, e.val)) = (es.map fun p => (p.1, Value.agg (p.2.map (Value.int .i64)).toArray)).map kvE ∧ ∀ y, F y ↔ y = b
/-- An iterator over a map: which keys have come. -/
def IterIn (bi : Nat) (seen : List Int) (w : World) (b : Nat) : Prop := ∃ (m : Array MapEntry) (cl since : Nat) (sn : Array Nat), w.heap[b]? = some (.map m cl) ∧ w.heap[bi]? = some (.mapIter (some b) since sn cl) ∧ (∀ e ∈ m.toList, e.born < since) ∧ since ≤ cl ∧
  (∀ e ∈ m.toList, ∀ k, e.key = .int .i64 k → (sn.contains e.born = true ↔ k ∈ seen)) ∧ ∀ k, seen.getLast? = some k → ∃ e ∈ m.toList, e.key = .int .i64 k ∧ ∃ s0 : Array Nat, sn = s0.push e.born
/-- A map of rows that is ranged over; the row of one key may be lent. -/
structure RangeIn (hole : Option Int) (bi : Nat) (es : Es) (seen : List Int) (w : World) (b : Nat) (F : Nat → Prop) : Prop where
  ex : ∃ F0, RowsIn hole es w b F0 ∧ ¬ F0 bi ∧ ∀ y, F y ↔ F0 y ∨ y = bi
  it : IterIn bi seen w b
  once : seen.Nodup
  keys : ∀ k ∈ seen, ∃ p ∈ es, p.1 = k
/-- Which row is lent. -/
def LentIn (h : Int) (y0 cap : Nat) (es : Es) (w : World) (b : Nat) : Prop := ∃ (L : List Int) (m : Array MapEntry) (cl : Nat) (e : MapEntry), (h, L) ∈ es ∧ w.heap[b]? = some (.map m cl) ∧ e ∈ m.toList ∧ e.key = .int .i64 h ∧ e.val = .slice (some ⟨y0, 0, none⟩) L.length cap
end Mr
open Mr

/-- 0: a map of rows. 1: one of whose rows is lent. 2: a map of ranks. 3: a map of rows that is ranged over. 4: one of whose rows is lent. 5: a map of ranks, told up to the order of its entries. -/
def fam (k : Nat) (x : Int) (w : World) (b : Nat) (F : Nat → Prop) : Prop :=
  (k = 0 ∧ ∃ es, x = codeE es ∧ RowsIn none es w b F) ∨ (k = 1 ∧ ∃ h es, x = encL [h, codeE es] ∧ RowsIn (some h) es w b F) ∨ (k = 2 ∧ ∃ es, x = codeE es ∧ RanksIn es w b F) ∨
  (k = 3 ∧ ∃ (bi : Nat) (es : Es) (seen : List Int), x = encL [(bi : Int), codeE es, encL seen] ∧ RangeIn none bi es seen w b F) ∨ (k = 4 ∧ ∃ (bi : Nat) (es : Es) (seen : List Int) (h : Int) (y0 cap : Nat), x = encL [(bi : Int), codeE es, encL seen, h, (y0 : Int), (cap : Int)] ∧ RangeIn (some h) bi es seen w b F ∧ LentIn h y0 cap es w b) ∨
  (k = 5 ∧ ∃ es es', x = codeE es' ∧ es.Perm es' ∧ RanksIn es w b F)
namespace Mr
theorem RowsIn.root {hole : Option Int} {es : Es} {w : World} {b : Nat} {F : Nat → Prop} (h : RowsIn hole es w b F) : F b := by
  obtain ⟨_, _, _, _, _, _, _, _, _, _, _, hF⟩ := h
  exact (hF b).2 (.inl rfl)
theorem RowsIn.lt {hole : Option Int} {es : Es} {w : World} {b : Nat} {F : Nat → Prop} (h : RowsIn hole es w b F) {y : Nat} (hy : F y) : y < w.heap.size := by
  obtain ⟨_, _, _, _, _, _, h1, _, _, h2, _, hF⟩ := h
  rcases (hF y).1 hy with rfl | ⟨p, hp, hh, rfl⟩
  · exact (Array.getElem?_eq_some_iff.1 h1).1
  · obtain ⟨_, o, ho, _⟩ := h2 p hp hh
    exact (Array.getElem?_eq_some_iff.1 ho).1
theorem RowsIn.local {hole : Option Int} {es : Es} {w w' : World} {b : Nat} {F : Nat → Prop} (h : RowsIn hole es w b F) (e : ∀ y, F y → w'.heap[y]? = w.heap[y]?) : RowsIn hole es w' b F := by
  obtain ⟨hn, m, cl, sv, ad, cap, h1, hb, hm, h2, h3, hF⟩ := h
  refine ⟨hn, m, cl, sv, ad, cap, by rw [e b ((hF b).2 (.inl rfl))]; exact h1, hb, hm, fun p hp hh => ?_, h3, hF⟩
  obtain ⟨hne, o, ho, hr⟩ := h2 p hp hh
  exact ⟨hne, o, by rw [e _ ((hF _).2 (.inr ⟨p, hp, hh, rfl⟩))]; exact ho, hr⟩
theorem RangeIn.root {hole : Option Int} {bi : Nat} {es : Es} {seen : List Int} {w : World} {b : Nat} {F : Nat → Prop} (h : RangeIn hole bi es seen w b F) : F b := by
  obtain ⟨⟨F0, hR, _, hF⟩, _, _, _⟩ := h
  exact (hF b).2 (.inl hR.root)
theorem RangeIn.lt {hole : Option Int} {bi : Nat} {es : Es} {seen : List Int} {w : World} {b : Nat} {F : Nat → Prop} (h : RangeIn hole bi es seen w b F) {y : Nat} (hy : F y) : y < w.heap.size := by
  obtain ⟨⟨F0, hR, _, hF⟩, ⟨_, _, _, _, _, h2, _⟩, _, _⟩ := h
  rcases (hF y).1 hy with h | rfl
  · exact hR.lt h
  · exact (Array.getElem?_eq_some_iff.1 h2).1
theorem RangeIn.local {hole : Option Int} {bi : Nat} {es : Es} {seen : List Int} {w w' : World} {b : Nat} {F : Nat → Prop} (h : RangeIn hole bi es seen w b F) (e : ∀ y, F y → w'.heap[y]? = w.heap[y]?) : RangeIn hole bi es seen w' b F := by
  obtain ⟨⟨F0, hR, hn, hF⟩, ⟨m, cl, since, sn, h1, h2, h3⟩, ho, hk⟩ := h
  exact ⟨⟨F0, hR.local fun y hy => e y ((hF y).2 (.inl hy)), hn, hF⟩, ⟨m, cl, since, sn, by rw [e b ((hF b).2 (.inl hR.root))]; exact h1, by rw [e bi ((hF bi).2 (.inr rfl))]; exact h2, h3⟩, ho, hk⟩
end Mr
theorem fam_root {k : Nat} {x : Int} {w : World} {b : Nat} {F : Nat → Prop} (h : fam k x w b F) : F b := by
  rcases h with ⟨_, _, _, h⟩ | ⟨_, _, _, _, h⟩ | ⟨_, _, _, _, _, _, _, _, _, _, hF⟩ | ⟨_, _, _, _, _, h⟩ | ⟨_, _, _, _, _, _, _, _, h, _⟩ | ⟨_, _, _, _, _, _, _, _, _, _, _, _, hF⟩
  · exact h.root
  · exact h.root
  · exact (hF b).2 rfl
  · exact h.root
  · exact h.root
  · exact (hF b).2 rfl
theorem fam_lt {k : Nat} {x : Int} {w : World} {b : Nat} {F : Nat → Prop} (h : fam k x w b F) {y : Nat} (hy : F y) : y < w.heap.size := by
  rcases h with ⟨_, _, _, h⟩ | ⟨_, _, _, _, h⟩ | ⟨_, _, _, _, _, _, _, h1, _, _, hF⟩ | ⟨_, _, _, _, _, h⟩ | ⟨_, _, _, _, _, _, _, _, h, _⟩ | ⟨_, _, _, _, _, _, _, _, _, h1, _, _, hF⟩
  · exact h.lt hy
  · exact h.lt hy
  · obtain rfl := (hF y).1 hy
    exact (Array.getElem?_eq_some_iff.1 h1).1
  · exact h.lt hy
  · exact h.lt hy
  · obtain rfl := (hF y).1 hy
    exact (Array.getElem?_eq_some_iff.1 h1).1
theorem fam_local {k : Nat} {x : Int} {w w' : World} {b : Nat} {F : Nat → Prop} (h : fam k x w b F) (e : ∀ y, F y → w'.heap[y]? = w.heap[y]?) : fam k x w' b F := by
  rcases h with ⟨hk, es, hx, h⟩ | ⟨hk, h0, es, hx, h⟩ | ⟨hk, es, hx, hn, h6, m, cl, h1, hb, hm, hF⟩ | ⟨hk, bi, es, seen, hx, h⟩ | ⟨hk, bi, es, seen, h0, y0, cap, hx, h, L, m, cl, en, l1, l2, l3⟩ | ⟨hk, es, es', hx, hp, hn, h6, m, cl, h1, hb, hm, hF⟩
  · exact .inl ⟨hk, es, hx, h.local e⟩
  · exact .inr (.inl ⟨hk, h0, es, hx, h.local e⟩)
  · exact .inr (.inr (.inl ⟨hk, es, hx, hn, h6, m, cl, by rw [e b ((hF b).2 rfl)]; exact h1, hb, hm, hF⟩))
  · exact .inr (.inr (.inr (.inl ⟨hk, bi, es, seen, hx, h.local e⟩)))
  · exact .inr (.inr (.inr (.inr (.inl ⟨hk, bi, es, seen, h0, y0, cap, hx, h.local e, L, m, cl, en, l1, by rw [e b h.root]; exact l2, l3⟩))))
  · exact .inr (.inr (.inr (.inr (.inr ⟨hk, es, es', hx, hp, hn, h6, m, cl, by rw [e b ((hF b).2 rfl)]; exact h1, hb, hm, hF⟩))))
end Go.Vm
