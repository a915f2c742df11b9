/-
  Trace lines (0), plain: a byte replaced by another everywhere; words joined.
-/
import Derived.Lib.Replace
namespace Go.TraceP
open Go.Lib

/-- Every a turned into b. -/
def turn (a b : UInt8) (s : List UInt8) : List UInt8 := s.map fun x => if x = a then b else x
theorem index_one_cons (a c : UInt8) (l : List UInt8) : index (c :: l) [a] = if a = c then 0 else if index l [a] == -1 then -1 else index l [a] + 1 := by
  rw [index]
  have e : ([a].isPrefixOf (c :: l)) = decide (a = c) := by
    simp [List.isPrefixOf]
    exact Bool.eq_iff_iff.2 (by simp)
  rw [e]
  by_cases h : a = c <;> simp [h]
theorem index_one_nil (a : UInt8) : index [] [a] = -1 := rfl
theorem replaceK_nil (a b : UInt8) (k : Nat) : replaceK [a] [b] k [] = [] := by
  cases k with
  | zero => rfl
  | succ k => rfl
theorem replaceK_ne {a b c : UInt8} (h : a ≠ c) (k : Nat) (l : List UInt8) : replaceK [a] [b] k (c :: l) = c :: replaceK [a] [b] k l := by
  cases k with
  | zero => rfl
  | succ k =>
    rw [replaceK, replaceK, index_one_cons, if_neg h]
    by_cases h1 : index l [a] = -1
    · simp [h1]
    · have h2 := index_ge l [a]
      obtain ⟨i, hi⟩ : ∃ i : Nat, index l [a] = (i : Int) := ⟨(index l [a]).toNat, by omega⟩
      have e1 : (index l [a] == -1) = false := beq_eq_false_iff_ne.2 h1
      have e2 : (index l [a] + 1 == -1) = false := beq_eq_false_iff_ne.2 (by omega)
      have e3 : (index l [a] + 1).toNat = i + 1 := by omega
      have e4 : (index l [a]).toNat = i := by omega
      simp only [e1, e2, e3, e4, Bool.false_eq_true, if_false, List.take_succ_cons, List.drop_succ_cons, List.cons_append, show i + 1 + [a].length = (i + [a].length) + 1 from by simp]
theorem replaceK_eq {a b : UInt8} (k : Nat) (l : List UInt8) : replaceK [a] [b] (k + 1) (a :: l) = b :: replaceK [a] [b] k l := by
  rw [replaceK, index_one_cons, if_pos rfl]
  simp
theorem replaceK_turn (a b : UInt8) : ∀ (s : List UInt8) (k : Nat), s.count a ≤ k → replaceK [a] [b] k s = turn a b s
  | [], k, _ => replaceK_nil a b k
  | c :: l, k, h => by
    by_cases hc : a = c
    · subst hc
      rw [List.count_cons_self] at h
      cases k with
      | zero => omega
      | succ k =>
        rw [replaceK_eq, replaceK_turn a b l k (by omega)]
        simp [turn]
    · rw [replaceK_ne hc, replaceK_turn a b l k (by rwa [List.count_cons_of_ne (Ne.symm hc)] at h)]
      simp [turn, Ne.symm hc]
theorem replaceAll_turn (a b : UInt8) (s : List UInt8) : replaceAll s [a] [b] = turn a b s := by
  unfold replaceAll replace
  by_cases h : a = b
  · subst h
    rw [if_pos (by simp)]
    unfold turn
    conv => lhs; rw [← List.map_id s]
    apply List.map_congr_left
    intro x _
    by_cases hx : x = a <;> simp [hx]
  · rw [if_neg (by simp [h])]
    refine replaceK_turn a b s _ ?_
    unfold replaceNum
    rw [if_pos (.inl (by omega)), count_one]
    exact Nat.le_refl _
theorem turn_append (a b : UInt8) (s t : List UInt8) : turn a b (s ++ t) = turn a b s ++ turn a b t := by simp [turn]
/-- Words, cut at every a: never none. -/
def wordsAt (a : UInt8) : List UInt8 → List (List UInt8)
  | [] => [[]]
  | c :: l => if c = a then [] :: wordsAt a l else match wordsAt a l with
    | [] => [[c]]
    | w :: r => (c :: w) :: r
def joinB (b : UInt8) : List (List UInt8) → List UInt8
  | [] => []
  | [w] => w
  | w :: r => w ++ b :: joinB b r
theorem wordsAt_ne (a : UInt8) : ∀ s, wordsAt a s ≠ []
  | [] => by simp [wordsAt]
  | c :: l => by
    rw [wordsAt]
    split
    · simp
    · split <;> simp
theorem joinB_cons (b c : UInt8) (w : List UInt8) (r : List (List UInt8)) : joinB b ((c :: w) :: r) = c :: joinB b (w :: r) := by
  cases r <;> rfl
theorem joinB_words (a b : UInt8) : ∀ s, joinB b (wordsAt a s) = turn a b s
  | [] => rfl
  | c :: l => by
    have ih := joinB_words a b l
    rw [wordsAt]
    by_cases h : c = a
    · rw [if_pos h]
      cases hw : wordsAt a l with
      | nil => exact absurd hw (wordsAt_ne a l)
      | cons w r =>
        rw [hw] at ih
        show [] ++ b :: joinB b (w :: r) = _
        rw [ih]
        simp [turn, h]
    · rw [if_neg h]
      cases hw : wordsAt a l with
      | nil => exact absurd hw (wordsAt_ne a l)
      | cons w r =>
        rw [hw] at ih
        show joinB b ((c :: w) :: r) = _
        rw [joinB_cons, ih]
        simp [turn, h]
end Go.TraceP
