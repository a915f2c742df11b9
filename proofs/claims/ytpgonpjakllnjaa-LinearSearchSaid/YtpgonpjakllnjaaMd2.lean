/-
  LinearModel: histories of who asks one by one, plainly.
-/
import Derived.Test.YtpgonpjakllnjaaLm9
section
namespace Go.Proofs.Ytpgonpjakllnjaa
open Go.Vm Go.Vm.Md
namespace Lm

def mod0 : Mod := ⟨[], [], []⟩
-- OPERATIONS IN A ROW
def opL (L : List Int) (i j : Nat) : Int := L.getD (i * 4 + j) 0
def goL (L : List Int) (m : Mod) (i : Nat) : (Int × Int) × Mod := applyO m (opL L i 0) (opL L i 1) (opL L i 2) (opL L i 3)
def iota : Nat → List Int
  | 0 => []
  | n + 1 => iota n ++ [(n : Int)]
-- HISTORIES
def cH (x : Int) (i j : Nat) : Int := (decL x).getD (i * 16 + j) 0
def goH (x : Int) (m : Mod) (i : Nat) : (Int × Int) × Mod := applyO m (cH x i 2) (cH x i 3) (cH x i 4) (cH x i 5)
def stH (x : Int) : Nat → Mod
  | 0 => mod0
  | i + 1 => (goH x (stH x i) i).2
def anH (x : Int) (i : Nat) : Int × Int := (goH x (stH x i) i).1
def outH (x : Int) : Nat → List Int
  | 0 => []
  | i + 1 => outH x i ++ [(anH x i).1, (anH x i).2]
/-- A history of who asks one by one, and its order. -/
structure Good (x y : Int) (n : Nat) : Prop where
  lx : (decL x).length = n * 16
  y : decL y = iota n
  kd : ∀ i, i < n → cH x i 1 = 2
  st : ∀ i, i < n → cH x i 7 = 2 * i
  en : ∀ i, i < n → cH x i 8 = 2 * i + 1
  er : ∀ i, i < n → cH x i 11 = 0
  an : ∀ i, i < n → cH x i 9 = (anH x i).1 ∧ cH x i 10 = (anH x i).2
  n1 : 1 ≤ n
  n60 : n ≤ 60
-- NAMES
open Classical in
noncomputable def goodF (x y : Int) : Int := if ∃ n, Good x y n then 1 else 0
def outF (x y : Int) : Int := encL (outH x (decL y).length)
def stF (x y : Int) : Int := (stH x (decL y).length).code
def ioF (x _y : Int) : Int := encL (iota ((decL x).length / 16))
def apO (x o : Int) : (Int × Int) × Mod := applyO (Mod.of x) ((decL o).getD 0 0) ((decL o).getD 1 0) ((decL o).getD 2 0) ((decL o).getD 3 0)
def GW : GP := fun _ _ _ _ F => F 60 = goodF ∧ F 61 = outF ∧ F 62 = stF ∧ F 63 = ioF ∧ F 70 = (fun x o => (apO x o).1.1) ∧ F 71 = (fun x o => (apO x o).1.2) ∧ F 72 = (fun x o => (apO x o).2.code)
noncomputable def FW : Nat → Int → Int → Int := fun k => if k = 60 then goodF else if k = 61 then outF else if k = 62 then stF else if k = 63 then ioF else if k = 70 then (fun x o => (apO x o).1.1) else if k = 71 then (fun x o => (apO x o).1.2) else (fun x o => (apO x o).2.code)
end Lm
end Go.Proofs.Ytpgonpjakllnjaa
end

/-
  LinearModel: what holds of a model's map, semaphores and queue, whatever is applied.
-/
section
namespace Go.Proofs.Ytpgonpjakllnjaa
open Go.Vm Go.Vm.Md
namespace Lm

def Ran (v : Int) : Prop := -9223372036854775808 ≤ v ∧ v < 9223372036854775808
theorem keysM_put : ∀ (M : List Int) (k x : Int), keysM (mPut M k x) = if k ∈ keysM M then keysM M else keysM M ++ [k]
  | [], k, x => by simp [mPut, keysM]
  | [_], k, x => by simp [mPut, keysM]
  | a :: b :: r, k, x => by
    by_cases h : a = k
    · simp [mPut, keysM, h]
    · have hn : ¬ k = a := fun e => h e.symm
      simp only [mPut, if_neg h, keysM, keysM_put r k x, List.mem_cons, hn, false_or]
      split <;> rfl
theorem keysM_del : ∀ (M : List Int) (k : Int), (keysM (mDel M k)).Sublist (keysM M)
  | [], k => List.Sublist.refl _
  | [_], k => List.Sublist.refl _
  | a :: b :: r, k => by
    by_cases h : a = k
    · simp only [mDel, if_pos h, keysM]; exact List.sublist_cons_self _ _
    · simp only [mDel, if_neg h, keysM]; exact (keysM_del r k).cons_cons _
theorem mem_put : ∀ (M : List Int) (k x v : Int), v ∈ mPut M k x → v ∈ M ∨ v = k ∨ v = x
  | [], k, x, v, h => by simp [mPut] at h; rcases h with h | h <;> simp [h]
  | [_], k, x, v, h => by simp [mPut] at h; rcases h with h | h <;> simp [h]
  | a :: b :: r, k, x, v, h => by
    by_cases e : a = k
    · simp only [mPut, if_pos e, List.mem_cons] at h
      rcases h with h | h | h
      · exact .inl (by simp [h])
      · exact .inr (.inr h)
      · exact .inl (by simp [h])
    · simp only [mPut, if_neg e, List.mem_cons] at h
      rcases h with h | h | h
      · exact .inl (by simp [h])
      · exact .inl (by simp [h])
      · rcases mem_put r k x v h with h | h
        · exact .inl (by simp [h])
        · exact .inr h
theorem mem_del : ∀ (M : List Int) (k v : Int), v ∈ mDel M k → v ∈ M
  | [], k, v, h => h
  | [_], k, v, h => h
  | a :: b :: r, k, v, h => by
    by_cases e : a = k
    · simp only [mDel, if_pos e] at h; simp [h]
    · simp only [mDel, if_neg e, List.mem_cons] at h
      rcases h with h | h | h
      · simp [h]
      · simp [h]
      · have := mem_del r k v h; simp [this]
theorem mapOk_put {M : List Int} {k x : Int} (h : MapOk M) (h0 : 0 ≤ k) (h1 : k ≤ 255) (hx : Ran x) : MapOk (mPut M k x) := by
  obtain ⟨a, b, c⟩ := h
  refine ⟨?_, fun q hq => ?_, fun v hv => ?_⟩
  · rw [keysM_put]
    split
    · exact a
    · rename_i hn
      refine List.nodup_append.2 ⟨a, by simp, fun p hp q hq => ?_⟩
      rw [List.mem_singleton.1 hq]
      intro e; rw [e] at hp; exact hn hp
  · rw [keysM_put] at hq
    split at hq
    · exact b q hq
    · rcases List.mem_append.1 hq with h2 | h2
      · exact b q h2
      · rw [List.mem_singleton.1 h2]; exact ⟨h0, h1⟩
  · rcases mem_put M k x v hv with h2 | h2 | h2
    · exact c v h2
    · rw [h2]; omega
    · rw [h2]; exact hx
theorem mapOk_del {M : List Int} {k : Int} (h : MapOk M) : MapOk (mDel M k) :=
  ⟨h.1.sublist (keysM_del M k), fun q hq => h.2.1 q ((keysM_del M k).subset hq), fun v hv => h.2.2 v (mem_del M k v hv)⟩
theorem ran_wrap (x : Int) : Ran (IntKind.i64.wrap x) := by
  rw [IntKind.wrap_i64]
  unfold Ran
  omega
theorem ModOk_apply {m : Mod} {k a b : Int} (h : ModOk m.Q m.M m.S) (hk : 0 ≤ k ∧ k ≤ 255) (ha : Ran a) (hb : Ran b) (n : Nat) : ModOk (apply m n k a b).2.Q (apply m n k a b).2.M (apply m n k a b).2.S := by
  obtain ⟨h1, h2, h3, h4⟩ := h
  have st : ∀ v d e x, ModOk (stepM m k v d e x).2.Q (stepM m k v d e x).2.M (stepM m k v d e x).2.S := fun v d e x => by
    unfold stepM
    split
    · exact ⟨h1, h2, h3, h4⟩
    · exact ⟨h1, h2, mapOk_put h3 hk.1 hk.2 (ran_wrap _), h4⟩
  have same : ModOk m.Q m.M m.S := ⟨h1, h2, h3, h4⟩
  unfold apply
  split
  · split
    · exact same
    · refine ⟨by simp only [List.length_append, List.length_cons, List.length_nil]; omega, h2, h3, fun v hv => ?_⟩
      rcases List.mem_append.1 hv with h5 | h5
      · exact h4 v h5
      · rw [List.mem_singleton.1 h5]; exact ha
  · split
    · exact same
    · exact ⟨by simp only [List.length_drop]; omega, h2, h3, fun v hv => h4 v (List.mem_of_mem_drop hv)⟩
  · exact same
  · exact same
  · exact ⟨h1, mapOk_put h2 hk.1 hk.2 ha, h3, h4⟩
  · exact ⟨h1, mapOk_del h2, h3, h4⟩
  · split
    · exact same
    · split
      · exact ⟨h1, mapOk_put h2 hk.1 hk.2 hb, h3, h4⟩
      · exact same
  · exact same
  · exact same
  · exact ⟨h1, h2, mapOk_put h3 hk.1 hk.2 ha, h4⟩
  · split
    · exact same
    · exact st _ _ _ _
  · split
    · exact same
    · exact st _ _ _ _
  · exact same
  · exact ⟨h1, h2, mapOk_del h3, h4⟩
  · exact same
theorem ModOk_applyO {m : Mod} {c k a b : Int} (h : ModOk m.Q m.M m.S) : ModOk (applyO m c k a b).2.Q (applyO m c k a b).2.M (applyO m c k a b).2.S := by
  unfold applyO
  split
  · rename_i hr
    have := rgt_in hr
    exact ModOk_apply h ⟨this.2.2.1, this.2.2.2.1⟩ ⟨by omega, by omega⟩ ⟨by omega, by omega⟩ _
  · exact h
theorem mapOk0 : MapOk [] := ⟨List.nodup_nil, fun _ h => absurd h List.not_mem_nil, fun _ h => absurd h List.not_mem_nil⟩
theorem ModOk0 : ModOk mod0.Q mod0.M mod0.S := ⟨Nat.zero_le _, mapOk0, mapOk0, fun _ h => absurd h List.not_mem_nil⟩
-- KEYS ARE FEW
theorem few : ∀ (n : Nat) (K : List Int), K.Nodup → (∀ k ∈ K, 0 ≤ k ∧ k < (n : Int)) → K.length ≤ n
  | 0, K, _, h => by
    cases K with
    | nil => exact Nat.le_refl _
    | cons a t => have := h a List.mem_cons_self; omega
  | n + 1, K, hd, h => by
    have h1 : (K.erase (n : Int)).length ≤ n := few n _ (hd.erase _) fun k hk => by
      have h2 := h k (List.mem_of_mem_erase hk)
      have h3 : k ≠ (n : Int) := fun e => by
        rw [e] at hk
        exact absurd hk (List.Nodup.not_mem_erase hd)
      omega
    have h2 : K.length ≤ (K.erase (n : Int)).length + 1 := by
      rw [List.length_erase]; split <;> omega
    omega
end Lm
end Go.Proofs.Ytpgonpjakllnjaa
end
