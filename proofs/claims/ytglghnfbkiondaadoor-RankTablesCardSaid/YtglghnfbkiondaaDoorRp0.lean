/-
  Ranks, plainly: rows in order; classes of numbers.
-/
import Derived.Lib.BitFns
namespace Go.Vm
namespace Rk

/-- A row in order. -/
def sortL (L : List Int) : List Int := L.mergeSort fun x y => decide (x ≤ y)
theorem sortL_perm (L : List Int) : (sortL L).Perm L := List.mergeSort_perm _ _
theorem sortL_len (L : List Int) : (sortL L).length = L.length := (sortL_perm L).length_eq
theorem sortL_sorted (L : List Int) : (sortL L).Pairwise fun x y => x ≤ y := by
  have h := List.pairwise_mergeSort (le := fun (x y : Int) => decide (x ≤ y)) (fun a b c h1 h2 => by
    simp only [decide_eq_true_eq] at h1 h2 ⊢; omega) (fun a b => by
    simp only [Bool.or_eq_true, decide_eq_true_eq]; omega) L
  exact h.imp fun h => by simpa using h
theorem sortL_le (L : List Int) {i j : Nat} (hij : i ≤ j) (hj : j < L.length) : (sortL L).getD i 0 ≤ (sortL L).getD j 0 := by
  have hl := sortL_len L
  rcases Nat.eq_or_lt_of_le hij with rfl | h
  · exact Int.le_refl _
  · have hi' : i < (sortL L).length := by omega
    have hj' : j < (sortL L).length := by omega
    have := List.pairwise_iff_getElem.1 (sortL_sorted L) i j hi' hj' h
    simpa [List.getD_eq_getElem?_getD, hi', hj'] using this
theorem sortL_mem (L : List Int) {i : Nat} (h : i < L.length) : (sortL L).getD i 0 ∈ L := by
  have hi' : i < (sortL L).length := by rw [sortL_len]; exact h
  have : (sortL L).getD i 0 = (sortL L)[i] := by simp [List.getD_eq_getElem?_getD, hi']
  rw [this]
  exact (sortL_perm L).mem_iff.1 (List.getElem_mem hi')
theorem mem_sortL (L : List Int) {x : Int} (h : x ∈ L) : ∃ i, i < L.length ∧ (sortL L).getD i 0 = x := by
  have hx : x ∈ sortL L := (sortL_perm L).mem_iff.2 h
  obtain ⟨i, hi, he⟩ := List.getElem_of_mem hx
  exact ⟨i, by rw [← sortL_len]; exact hi, by simp [List.getD_eq_getElem?_getD, hi, he]⟩
theorem sortL_least (L : List Int) {x : Int} (h : x ∈ L) : (sortL L).getD 0 0 ≤ x := by
  obtain ⟨i, hi, rfl⟩ := mem_sortL L h
  exact sortL_le L (Nat.zero_le _) hi
theorem sortL_most (L : List Int) {x : Int} (h : x ∈ L) : x ≤ (sortL L).getD (L.length - 1) 0 := by
  obtain ⟨i, hi, rfl⟩ := mem_sortL L h
  exact sortL_le L (by omega) (by omega)
-- CLASSES
/-- The class of a number. -/
def clsOf (n : Int) : Nat := Lib.bitLen (max n 1).toNat - 1
/-- So many classes at least. -/
def padL (out : List Int) (c : Nat) : List Int := out ++ List.replicate (c + 1 - out.length) 0
def bump (out : List Int) (c : Nat) : List Int := (padL out c).set c ((padL out c).getD c 0 + 1)
def clsL (L : List Int) : Nat → List Int
  | 0 => []
  | i + 1 => bump (clsL L i) (clsOf (L.getD i 0))
theorem padL_len (out : List Int) (c : Nat) : (padL out c).length = max out.length (c + 1) := by
  unfold padL
  rw [List.length_append, List.length_replicate]; omega
theorem sum_set : ∀ (l : List Int) (c : Nat) (x : Int), c < l.length → (l.set c x).sum = l.sum - l.getD c 0 + x
  | [], c, x, h => by simp at h
  | a :: r, 0, x, h => by simp; omega
  | a :: r, c + 1, x, h => by
    have := sum_set r c x (by simpa using h)
    simp only [List.set_cons_succ, List.sum_cons, this, List.getD_cons_succ]; omega
theorem sum_rep (n : Nat) : (List.replicate n (0 : Int)).sum = 0 := by
  induction n with
  | zero => rfl
  | succ n ih => rw [List.replicate_succ, List.sum_cons, ih]; rfl
theorem bump_sum (out : List Int) (c : Nat) : (bump out c).sum = out.sum + 1 := by
  have hl : c < (padL out c).length := by rw [padL_len]; omega
  have hp : (padL out c).sum = out.sum := by unfold padL; rw [List.sum_append, sum_rep]; omega
  rw [bump, sum_set _ _ _ hl, hp]; omega
theorem clsL_sum (L : List Int) : ∀ i, (clsL L i).sum = (i : Int)
  | 0 => rfl
  | i + 1 => by rw [clsL, bump_sum, clsL_sum L i]; rfl
theorem bitLen_le : ∀ f x, Lib.bitLenAux f x ≤ f
  | 0, _ => Nat.le_refl _
  | f + 1, x => by
    have := bitLen_le f (x / 2)
    unfold Lib.bitLenAux
    split <;> omega
theorem bitLen_pos {x : Nat} (h : 1 ≤ x) : 1 ≤ Lib.bitLen x := by
  unfold Lib.bitLen Lib.bitLenAux
  rw [if_neg (by omega)]; omega
theorem clsOf_le (n : Int) : clsOf n ≤ 63 := by
  have := bitLen_le 64 (max n 1).toNat
  unfold clsOf Lib.bitLen; omega
theorem bump_len (out : List Int) (c : Nat) : (bump out c).length = max out.length (c + 1) := by
  unfold bump; rw [List.length_set, padL_len]
theorem clsL_len (L : List Int) : ∀ i, (clsL L i).length ≤ 64
  | 0 => Nat.zero_le _
  | i + 1 => by
    have := clsL_len L i
    have := clsOf_le (L.getD i 0)
    rw [clsL, bump_len]; omega
theorem clsL_pos (L : List Int) (i : Nat) : 1 ≤ (clsL L (i + 1)).length := by rw [clsL, bump_len]; omega
theorem clsL_nonneg (L : List Int) : ∀ i, ∀ x ∈ clsL L i, 0 ≤ x
  | 0, x, h => by simp [clsL] at h
  | i + 1, x, h => by
    have ih := clsL_nonneg L i
    have hp : ∀ y ∈ padL (clsL L i) (clsOf (L.getD i 0)), 0 ≤ y := fun y hy => by
      unfold padL at hy
      rcases List.mem_append.1 hy with h1 | h1
      · exact ih y h1
      · rw [List.eq_of_mem_replicate h1]; omega
    rw [clsL, bump] at h
    rcases List.mem_or_eq_of_mem_set h with h1 | h1
    · exact hp x h1
    · have hl : clsOf (L.getD i 0) < (padL (clsL L i) (clsOf (L.getD i 0))).length := by rw [padL_len]; omega
      have : 0 ≤ (padL (clsL L i) (clsOf (L.getD i 0))).getD (clsOf (L.getD i 0)) 0 := by
        rw [List.getD_eq_getElem?_getD, List.getElem?_eq_getElem hl]
        exact hp _ (List.getElem_mem hl)
      omega
theorem mem_le_sum : ∀ (l : List Int), (∀ x ∈ l, 0 ≤ x) → ∀ x ∈ l, x ≤ l.sum
  | [], _, x, h => by cases h
  | a :: r, hp, x, h => by
    have h0 : 0 ≤ r.sum := by
      clear h
      induction r with
      | nil => simp
      | cons b t ih =>
        have := hp b (by simp)
        have := ih fun y hy => hp y (by rcases List.mem_cons.1 hy with h | h <;> simp [h])
        rw [List.sum_cons]; omega
    rw [List.sum_cons]
    rcases List.mem_cons.1 h with rfl | h
    · omega
    · have := mem_le_sum r (fun y hy => hp y (List.mem_cons_of_mem _ hy)) x h
      have := hp a List.mem_cons_self
      omega
theorem clsL_le (L : List Int) (i : Nat) : ∀ x ∈ clsL L i, x ≤ (i : Int) := fun x h => by
  have := mem_le_sum _ (clsL_nonneg L i) x h
  rwa [clsL_sum] at this
theorem padL_in (L : List Int) (i c : Nat) : 0 ≤ (padL (clsL L i) c).getD c 0 ∧ (padL (clsL L i) c).getD c 0 ≤ (i : Int) := by
  have hl : c < (padL (clsL L i) c).length := by rw [padL_len]; omega
  have hm : (padL (clsL L i) c).getD c 0 ∈ padL (clsL L i) c := by
    rw [List.getD_eq_getElem?_getD, List.getElem?_eq_getElem hl]
    exact List.getElem_mem hl
  have hp : ∀ y ∈ padL (clsL L i) c, 0 ≤ y ∧ y ≤ (i : Int) := fun y hy => by
    unfold padL at hy
    rcases List.mem_append.1 hy with h1 | h1
    · exact ⟨clsL_nonneg L i y h1, clsL_le L i y h1⟩
    · rw [List.eq_of_mem_replicate h1]; omega
  exact hp _ hm
end Rk
end Go.Vm
