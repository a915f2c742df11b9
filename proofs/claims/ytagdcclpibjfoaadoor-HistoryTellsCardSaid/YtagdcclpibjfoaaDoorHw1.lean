/-
  HistoryWide (1): the widths of rows, plainly; the most that are open at starts are as many as at starts and ends.
-/
import Derived.Test.YtagdcclpibjfoaaDoorBa
namespace Go.Proofs.YtagdcclpibjfoaaDoor
open Go.Vm

def St (v : Value) (i : Nat) : Int := selI v (i * 16 + 7)
def En (v : Value) (i : Nat) : Int := selI v (i * 16 + 8)
def opn (v : Value) (j : Nat) (at' : Int) : Bool := decide (St v j ≤ at') && (decide (En v j < 0) || decide (at' ≤ En v j))
def cntW (v : Value) (i : Nat) : Nat → Int
  | 0 => 0
  | j + 1 => cntW v i j + cond (opn v j (St v i) && opn v i (St v i)) 1 0
def maxW (v : Value) (n : Nat) : Nat → Int
  | 0 => 0
  | i + 1 => if cntW v i n > maxW v n i then cntW v i n else maxW v n i
def cntO (v : Value) (at' : Int) : Nat → Int
  | 0 => 0
  | j + 1 => cntO v at' j + cond (opn v j at') 1 0
def mx2 (a b : Int) : Int := if b > a then b else a
def maxR (v : Value) (n : Nat) : Nat → Int
  | 0 => 0
  | i + 1 => mx2 (mx2 (maxR v n i) (cntO v (St v i) n)) (cntO v (En v i) n)

theorem cntW_eq {v : Value} {i : Nat} (h : opn v i (St v i) = true) : ∀ n, cntW v i n = cntO v (St v i) n
  | 0 => rfl
  | n + 1 => by simp only [cntW, cntO, cntW_eq h n, h, Bool.and_true]
theorem cntO_le {v : Value} {a b : Int} {n : Nat} (h : ∀ j, j < n → opn v j a = true → opn v j b = true) : cntO v a n ≤ cntO v b n := by
  induction n with
  | zero => exact Int.le_refl _
  | succ n ih =>
    have := ih fun j hj => h j (by omega)
    have h1 := h n (by omega)
    simp only [cntO]
    cases ha : opn v n a with
    | false => cases opn v n b <;> simp <;> omega
    | true => rw [h1 ha]; simp; omega
/-- Some that is open begins last; if none is, none is. -/
theorem last_open {v : Value} {a : Int} : ∀ n, (∀ j, j < n → opn v j a = false) ∨ ∃ k, k < n ∧ opn v k a = true ∧ ∀ j, j < n → opn v j a = true → St v j ≤ St v k
  | 0 => .inl fun j hj => by omega
  | n + 1 => by
    rcases last_open (v := v) (a := a) n with h | ⟨k, hk, ho, hm⟩
    · cases hn : opn v n a with
      | false =>
        exact .inl fun j hj => by
          rcases Nat.lt_or_ge j n with h' | h'
          · exact h j h'
          · obtain rfl : j = n := by omega
            exact hn
      | true =>
        refine .inr ⟨n, by omega, hn, fun j hj hoj => ?_⟩
        rcases Nat.lt_or_ge j n with h' | h'
        · rw [h j h'] at hoj; cases hoj
        · obtain rfl : j = n := by omega
          exact Int.le_refl _
    · cases hn : opn v n a with
      | false =>
        refine .inr ⟨k, by omega, ho, fun j hj hoj => ?_⟩
        rcases Nat.lt_or_ge j n with h' | h'
        · exact hm j h' hoj
        · obtain rfl : j = n := by omega
          rw [hn] at hoj; cases hoj
      | true =>
        rcases Int.lt_or_le (St v k) (St v n) with hlt | hge
        · refine .inr ⟨n, by omega, hn, fun j hj hoj => ?_⟩
          rcases Nat.lt_or_ge j n with h' | h'
          · have := hm j h' hoj; omega
          · obtain rfl : j = n := by omega
            exact Int.le_refl _
        · refine .inr ⟨k, by omega, ho, fun j hj hoj => ?_⟩
          rcases Nat.lt_or_ge j n with h' | h'
          · exact hm j h' hoj
          · obtain rfl : j = n := by omega
            exact hge
theorem cntO_none {v : Value} {a : Int} : ∀ {n}, (∀ j, j < n → opn v j a = false) → cntO v a n = 0
  | 0, _ => rfl
  | n + 1, h => by
    have h1 := cntO_none (v := v) (a := a) (n := n) fun j hj => h j (by omega)
    have h2 := h n (by omega)
    simp only [cntO, h1, h2, cond_false]; rfl
theorem opn_iff {v : Value} {j : Nat} {a : Int} : opn v j a = true ↔ St v j ≤ a ∧ (En v j < 0 ∨ a ≤ En v j) := by
  simp [opn]
/-- At any time there are no more open than at some start. -/
theorem cntO_at_start (v : Value) (a : Int) (n : Nat) : cntO v a n = 0 ∨ ∃ k, k < n ∧ cntO v a n ≤ cntO v (St v k) n := by
  rcases last_open (v := v) (a := a) n with h | ⟨k, hk, ho, hm⟩
  · exact .inl (cntO_none h)
  · refine .inr ⟨k, hk, cntO_le fun j hj hoj => ?_⟩
    have h1 := opn_iff.1 hoj
    have h2 := opn_iff.1 ho
    have h3 := hm j hj hoj
    exact opn_iff.2 ⟨h3, h1.2.imp id fun h => by omega⟩
theorem maxW_ge {v : Value} {n : Nat} : ∀ {m k}, k < m → cntW v k n ≤ maxW v n m
  | m + 1, k, hk => by
    simp only [maxW]
    rcases Nat.lt_or_ge k m with h | h
    · have := maxW_ge (v := v) (n := n) h; split <;> omega
    · obtain rfl : k = m := by omega
      split <;> omega
theorem maxW_nonneg {v : Value} {n : Nat} : ∀ m, 0 ≤ maxW v n m
  | 0 => by simp [maxW]
  | m + 1 => by have := maxW_nonneg (v := v) (n := n) m; simp only [maxW]; split <;> omega
theorem wide {v : Value} {n : Nat} (h : ∀ i, i < n → En v i < St v i → En v i < 0) : maxW v n n = maxR v n n := by
  have hop : ∀ i, i < n → opn v i (St v i) = true := fun i hi => by
    refine opn_iff.2 ⟨Int.le_refl _, ?_⟩
    have := h i hi
    omega
  have hW : ∀ i, i < n → cntW v i n = cntO v (St v i) n := fun i hi => cntW_eq (hop i hi) n
  have hle : ∀ m, m ≤ n → maxW v n m ≤ maxR v n m := by
    intro m
    induction m with
    | zero => exact fun _ => Int.le_refl _
    | succ m ih =>
      intro hm
      have h1 := ih (by omega)
      simp only [maxW, maxR, hW m (by omega), mx2]
      split <;> split <;> split <;> omega
  have hge : ∀ m, m ≤ n → maxR v n m ≤ maxW v n n := by
    intro m
    induction m with
    | zero => exact fun _ => maxW_nonneg n
    | succ m ih =>
      intro hm
      have h1 := ih (by omega)
      have h2 : cntO v (St v m) n ≤ maxW v n n := by rw [← hW m (by omega)]; exact maxW_ge (by omega)
      have h3 : cntO v (En v m) n ≤ maxW v n n := by
        rcases cntO_at_start v (En v m) n with h0 | ⟨k, hk, hkl⟩
        · rw [h0]; exact maxW_nonneg n
        · rw [← hW k hk] at hkl
          exact Int.le_trans hkl (maxW_ge hk)
      simp only [maxR, mx2]
      split <;> split <;> omega
  have := hle n (Nat.le_refl n)
  have := hge n (Nat.le_refl n)
  omega

end Go.Proofs.YtagdcclpibjfoaaDoor
