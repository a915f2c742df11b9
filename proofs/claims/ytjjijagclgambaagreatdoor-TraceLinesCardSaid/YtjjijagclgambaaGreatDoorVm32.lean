/-
  A machine for abstract states over the model (part 32): maps from ints to any values, plainly.
-/
import Derived.Test.YtjjijagclgambaaGreatDoorVm31
namespace Go.Vm

abbrev Kvs := List (Int × Value)
def gets : Kvs → Int → Option Value
  | [], _ => none
  | (a, v) :: r, k => if a = k then some v else gets r k
def puts : Kvs → Int → Value → Kvs
  | [], k, y => [(k, y)]
  | (a, v) :: r, k, y => if a = k then (k, y) :: r else (a, v) :: puts r k y
def dels : Kvs → Int → Kvs
  | [], _ => []
  | (a, v) :: r, k => if a = k then r else (a, v) :: dels r k
def kvI (p : Int × Value) : Value × Value := (.int .i64 p.1, p.2)
/-- A map with these entries. -/
def MapAt (w : World) (b : Nat) (l : Kvs) : Prop := ∃ es cl, w.heap[b]? = some (.map es cl) ∧ es.toList.map kvOf = l.map kvI ∧ Born es cl
theorem findG (k0 : IntKind) (k : Int) : ∀ {xs : List MapEntry} {l : Kvs} (i : Nat), xs.map kvOf = l.map kvI →
    (gets l k = none → Instr.findNow (.int k0) (.int .i64 k) xs i = some none ∧ ∀ y, puts l k y = l ++ [(k, y)]) ∧
    (∀ v, gets l k = some v → ∃ j bn, Instr.findNow (.int k0) (.int .i64 k) xs i = some (some (i + j, v)) ∧ xs[j]? = some ⟨.int .i64 k, v, bn⟩ ∧
      (∀ y bn', (xs.set j ⟨.int .i64 k, y, bn'⟩).map kvOf = (puts l k y).map kvI) ∧ (xs.eraseIdx j).map kvOf = (dels l k).map kvI)
  | [], [], i, _ => ⟨fun _ => ⟨rfl, fun _ => rfl⟩, fun v e => by cases e⟩
  | [], _ :: _, _, h => by cases h
  | _ :: _, [], _, h => by cases h
  | e :: xs, (a, v0) :: r, i, h => by
    simp only [List.map_cons, List.cons.injEq] at h
    obtain ⟨h1, h2⟩ := h
    obtain ⟨ek, ev, bn⟩ := e
    simp only [kvOf, kvI, Prod.mk.injEq] at h1
    obtain ⟨rfl, rfl⟩ := h1
    by_cases hk : a = k
    · subst hk
      refine ⟨fun e => by simp [gets] at e, fun v e => ?_⟩
      simp only [gets, if_true, Option.some.injEq] at e
      subst e
      refine ⟨0, bn, by simp [Instr.findNow, Instr.sameNow], rfl, fun y bn' => ?_, ?_⟩
      · simp only [List.set_cons_zero, List.map_cons, kvOf, kvI, puts, if_true, ← h2]
      · simp only [List.eraseIdx_cons_zero, dels, if_true, h2]
    · obtain ⟨g1, g2⟩ := findG k0 k (i + 1) h2
      have hne : (k == a) = false := by
        rw [Bool.eq_false_iff]; intro e; exact hk (by simpa using e : k = a).symm
      have hs : Instr.sameNow (.int k0) (.int .i64 k) (.int .i64 a) = some false := by
        simp only [Instr.sameNow, if_true, hne]
      refine ⟨fun e => ?_, fun v e => ?_⟩
      · simp only [gets, if_neg hk] at e
        obtain ⟨q1, q3⟩ := g1 e
        exact ⟨by simp only [Instr.findNow, hs, q1], fun y => by simp only [puts, if_neg hk, q3, List.cons_append]⟩
      · simp only [gets, if_neg hk] at e
        obtain ⟨j, bn0, q1, q2, q3, q4⟩ := g2 v e
        refine ⟨j + 1, bn0, ?_, by simpa using q2, fun y bn' => ?_, ?_⟩
        · simp only [Instr.findNow, hs, q1]
          congr 3; omega
        · simp only [List.set_cons_succ, List.map_cons, kvOf, kvI, puts, if_neg hk]
          rw [← q3 y bn']
        · simp only [List.eraseIdx_cons_succ, List.map_cons, kvOf, kvI, dels, if_neg hk]
          rw [← q4]
section
variable {P : Program} {w : World} {b : Nat} {l : Kvs} {t kt et : TypeId} {k0 : IntKind}
theorem MapAt.lookup (h : MapAt w b l) (hu : P.underlying t = some (.map kt et)) (hk : P.underlying kt = some (.int k0)) {u : AVal} (hz : zeroA P et = some u) {z : Value} (hz2 : ∀ ρ, u.den ρ = some z) (k : Int) (c : Bool) :
    (Instr.lookup t (.map (some b)) (.int .i64 k) c).run P w = .ok (if c then .tuple #[(gets l k).getD z, .bool (gets l k).isSome] else (gets l k).getD z) w := by
  obtain ⟨es, cl, hg, he, _⟩ := h
  obtain ⟨zv, hz1, hz3⟩ := zeroA_ok hz
  obtain rfl : zv = z := Option.some.inj ((hz3 ⟨fun _ => 0, fun _ => false, fun _ => default, fun _ => undef, fun _ => none, fun _ _ _ => 0⟩).symm.trans (hz2 _))
  obtain ⟨_, hck⟩ := keyC_ok (P := P) (w := w) (d := .int k0) rfl (x := k)
  have hck' := hck 9999 kt es.isEmpty hk
  obtain ⟨f1, f2⟩ := findG k0 k 0 he
  cases hmg : gets l k with
  | none =>
    obtain ⟨q2, _⟩ := f1 hmg
    cases c <;> simp [Instr.lookup, run_und hu, getObj_map hg, hck', findKey_run hk q2, hz1]
  | some v =>
    obtain ⟨j, bn, q2, _⟩ := f2 v hmg
    cases c <;> simp [Instr.lookup, run_und hu, getObj_map hg, hck', findKey_run hk q2]
theorem MapAt.update (h : MapAt w b l) (hu : P.underlying t = some (.map kt et)) (hk : P.underlying kt = some (.int k0)) (k : Int) (y : Value) :
    ∃ es cl, (Instr.mapUpdate t (.map (some b)) (.int .i64 k) y).run P w = .ok () { w with heap := w.heap.setIfInBounds b (.map es cl) } ∧ es.toList.map kvOf = (puts l k y).map kvI ∧ Born es cl := by
  obtain ⟨xs, cl, hg, he, hbn⟩ := h
  obtain ⟨_, hck⟩ := keyC_ok (P := P) (w := w) (d := .int k0) rfl (x := k)
  have hck' := hck 9999 kt false hk
  obtain ⟨f1, f2⟩ := findG k0 k 0 he
  cases hmg : gets l k with
  | none =>
    obtain ⟨q2, q3⟩ := f1 hmg
    refine ⟨xs.push ⟨.int .i64 k, y, cl⟩, cl + 1, ?_, ?_, hbn.push⟩
    · simp only [Instr.mapUpdate, Sem.run_bind, run_und hu, Result.andThen_ok, getObj_map hg, hck', findKey_run hk q2, setObj_map hg]
    · rw [q3 y, Array.toList_push, List.map_append, he, List.map_append]; rfl
  | some v =>
    obtain ⟨j, bn, q2, q4, q5, _⟩ := f2 v hmg
    rw [Nat.zero_add] at q2
    have hx? : xs[j]? = some ⟨.int .i64 k, v, bn⟩ := by rw [← Array.getElem?_toList]; exact q4
    have hm' : (xs.modify j (fun e => { e with key := .int .i64 k, val := y })).toList = xs.toList.set j ⟨.int .i64 k, y, bn⟩ := by
      apply List.ext_getElem?
      intro i
      rw [Array.getElem?_toList, Array.getElem?_modify, List.getElem?_set]
      by_cases hi : j = i
      · subst hi
        have hlt : j < xs.size := (Array.getElem?_eq_some_iff.1 hx?).1
        have hb1 : xs[j].born = bn := by rw [(Array.getElem?_eq_some_iff.1 hx?).2]
        simp [hlt, hb1]
      · simp [hi]
    have hks : (Instr.keyThatStays (.int .i64 k) (.int .i64 k)).run P w = .ok (.int .i64 k) w := by simp [Instr.keyThatStays, Instr.sameBits]
    refine ⟨xs.modify j (fun e => { e with key := .int .i64 k, val := y }), cl, ?_, ?_, ?_⟩
    · simp only [Instr.mapUpdate, Sem.run_bind, run_und hu, Result.andThen_ok, getObj_map hg, hck', findKey_run hk q2, hx?, Option.map_some, Option.getD_some, hks, setObj_map hg]
    · rw [hm', q5 y bn]
    · have hmb : (xs.modify j (fun e => { e with key := .int .i64 k, val := y })).toList.map (·.born) = xs.toList.map (·.born) := by
        rw [hm']
        apply List.ext_getElem?
        intro i
        rw [List.getElem?_map, List.getElem?_map, List.getElem?_set]
        by_cases hi : j = i
        · subst hi
          have hlt : j < xs.toList.length := (List.getElem?_eq_some_iff.1 q4).1
          rw [if_pos rfl, if_pos hlt, q4]; rfl
        · rw [if_neg hi]
      exact hbn.of_map hmb
end
end Go.Vm
