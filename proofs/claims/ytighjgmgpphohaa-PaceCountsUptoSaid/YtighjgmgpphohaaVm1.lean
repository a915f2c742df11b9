/- A machine for abstract states over the model (part 1): trees of numbered things, terms, abstract values, what they stand for. -/
import Derived.Calls
import Derived.KernelRfl
namespace Go.Vm
inductive Tr (α : Type) where
 | leaf
 | node (l : Tr α) (o : Option α) (r : Tr α)
def Tr.get {α : Type} : Tr α -> Nat -> Option α
 | .leaf, _ => none
 | .node l o r, k => cond (Nat.beq k 0) o (cond (Nat.beq (Nat.mod k 2) 1) (l.get (Nat.div k 2)) (r.get (Nat.pred (Nat.div k 2))))
def Tr.left {α : Type} : Tr α -> Tr α
 | .leaf => .leaf
 | .node l _ _ => l
def Tr.right {α : Type} : Tr α -> Tr α
 | .leaf => .leaf
 | .node _ _ r => r
def Tr.mid {α : Type} : Tr α -> Option α
 | .leaf => none
 | .node _ o _ => o
def Tr.setN {α : Type} : Nat -> Nat -> Option α -> Tr α -> Tr α
 | 0, _, _, _ => .leaf
 | n + 1, k, o, t =>
  cond (Nat.beq k 0) (.node t.left o t.right)
   (cond (Nat.beq (Nat.mod k 2) 1) (.node (setN n (Nat.div k 2) o t.left) t.mid t.right)
    (.node t.left t.mid (setN n (Nat.pred (Nat.div k 2)) o t.right)))
def Tr.set {α : Type} (t : Tr α) (k : Nat) (v : α) : Tr α := Tr.setN 64 k (some v) t
def Tr.del {α : Type} (t : Tr α) (k : Nat) : Tr α := Tr.setN 64 k none t
theorem Tr.get_zero {α : Type} (t : Tr α) : t.get 0 = t.mid := by cases t <;> simp [Tr.get, Tr.mid]
theorem Tr.get_odd {α : Type} (t : Tr α) (k : Nat) (h : k % 2 = 1) : t.get k = t.left.get (k / 2) := by
 cases t with
 | leaf => simp [Tr.get, Tr.left]
 | node l o r =>
  have h0 : k ≠ 0 := by omega
  have e1 : Nat.beq k 0 = false := by cases hb : Nat.beq k 0 with | false => rfl | true => exact absurd (Nat.eq_of_beq_eq_true hb) h0
  have e2 : Nat.beq (Nat.mod k 2) 1 = true := by show Nat.beq (k % 2) 1 = true; rw [h]; rfl
  show cond (Nat.beq k 0) o (cond (Nat.beq (Nat.mod k 2) 1) (l.get (Nat.div k 2)) _) = _
  rw [e1, e2]; rfl
theorem Tr.get_even {α : Type} (t : Tr α) (k : Nat) (h0 : k ≠ 0) (h : k % 2 ≠ 1) : t.get k = t.right.get (k / 2 - 1) := by
 cases t with
 | leaf => simp [Tr.get, Tr.right]
 | node l o r =>
  have e1 : Nat.beq k 0 = false := by cases hb : Nat.beq k 0 with | false => rfl | true => exact absurd (Nat.eq_of_beq_eq_true hb) h0
  have e2 : Nat.beq (Nat.mod k 2) 1 = false := by
   show Nat.beq (k % 2) 1 = false
   cases hb : Nat.beq (k % 2) 1 with | false => rfl | true => exact absurd (Nat.eq_of_beq_eq_true hb) h
  show cond (Nat.beq k 0) o (cond (Nat.beq (Nat.mod k 2) 1) _ (r.get (Nat.pred (Nat.div k 2)))) = _
  rw [e1, e2]; rfl
theorem Tr.setN_zero {α : Type} (n : Nat) (o : Option α) (t : Tr α) : Tr.setN (n + 1) 0 o t = .node t.left o t.right := rfl
theorem Tr.setN_odd {α : Type} (n k : Nat) (o : Option α) (t : Tr α) (h : k % 2 = 1) :
 Tr.setN (n + 1) k o t = .node (setN n (k / 2) o t.left) t.mid t.right := by
 have h0 : k ≠ 0 := by omega
 have e1 : Nat.beq k 0 = false := by cases hb : Nat.beq k 0 with | false => rfl | true => exact absurd (Nat.eq_of_beq_eq_true hb) h0
 have e2 : Nat.beq (Nat.mod k 2) 1 = true := by show Nat.beq (k % 2) 1 = true; rw [h]; rfl
 show cond (Nat.beq k 0) _ (cond (Nat.beq (Nat.mod k 2) 1) _ _) = _
 rw [e1, e2]; rfl
theorem Tr.setN_even {α : Type} (n k : Nat) (o : Option α) (t : Tr α) (h0 : k ≠ 0) (h : k % 2 ≠ 1) :
 Tr.setN (n + 1) k o t = .node t.left t.mid (setN n (k / 2 - 1) o t.right) := by
 have e1 : Nat.beq k 0 = false := by cases hb : Nat.beq k 0 with | false => rfl | true => exact absurd (Nat.eq_of_beq_eq_true hb) h0
 have e2 : Nat.beq (Nat.mod k 2) 1 = false := by
  show Nat.beq (k % 2) 1 = false
  cases hb : Nat.beq (k % 2) 1 with | false => rfl | true => exact absurd (Nat.eq_of_beq_eq_true hb) h
 show cond (Nat.beq k 0) _ (cond (Nat.beq (Nat.mod k 2) 1) _ _) = _
 rw [e1, e2]; rfl
theorem Tr.get_setN {α : Type} : ∀ (n k : Nat) (o : Option α) (t : Tr α) (j : Nat) (x : α), (Tr.setN n k o t).get j = some x ->
 (j = k /\ o = some x) ∨ (j ≠ k /\ t.get j = some x) := by
 intro n
 induction n with
 | zero => intro k o t j x h; simp [Tr.setN, Tr.get] at h
 | succ n ih =>
  intro k o t j x h
  by_cases hk : k = 0
  · subst hk
    rw [Tr.setN_zero] at h
    by_cases hj : j = 0
    · subst hj; rw [Tr.get_zero] at h; exact .inl ⟨rfl, h⟩
    · refine .inr ⟨hj, ?_⟩
      by_cases h2 : j % 2 = 1
      · rw [Tr.get_odd _ _ h2] at h ⊢; exact h
      · rw [Tr.get_even _ _ hj h2] at h ⊢; exact h
  · by_cases k2 : k % 2 = 1
    · rw [Tr.setN_odd _ _ _ _ k2] at h
      by_cases hj : j = 0
      · subst hj; rw [Tr.get_zero] at h; exact .inr ⟨fun e => hk e.symm, by rw [Tr.get_zero]; exact h⟩
      · by_cases h2 : j % 2 = 1
        · rw [Tr.get_odd _ _ h2] at h
          rcases ih _ _ _ _ _ h with ⟨e, ho⟩ | ⟨ne, ht⟩
          · exact .inl ⟨by omega, ho⟩
          · exact .inr ⟨by omega, by rw [Tr.get_odd _ _ h2]; exact ht⟩
        · rw [Tr.get_even _ _ hj h2] at h
          exact .inr ⟨by omega, by rw [Tr.get_even _ _ hj h2]; exact h⟩
    · rw [Tr.setN_even _ _ _ _ hk k2] at h
      by_cases hj : j = 0
      · subst hj; rw [Tr.get_zero] at h; exact .inr ⟨fun e => hk e.symm, by rw [Tr.get_zero]; exact h⟩
      · by_cases h2 : j % 2 = 1
        · rw [Tr.get_odd _ _ h2] at h
          exact .inr ⟨by omega, by rw [Tr.get_odd _ _ h2]; exact h⟩
        · rw [Tr.get_even _ _ hj h2] at h
          rcases ih _ _ _ _ _ h with ⟨e, ho⟩ | ⟨ne, ht⟩
          · exact .inl ⟨by omega, ho⟩
          · exact .inr ⟨by omega, by rw [Tr.get_even _ _ hj h2]; exact ht⟩
theorem Tr.get_set {α : Type} {t : Tr α} {k : Nat} {v : α} {j : Nat} {x : α} (h : (t.set k v).get j = some x) :
 (j = k /\ x = v) ∨ (j ≠ k /\ t.get j = some x) := by
 rcases Tr.get_setN _ _ _ _ _ _ h with ⟨a, b⟩ | h
 · exact .inl ⟨a, (Option.some.inj b).symm⟩
 · exact .inr h
theorem Tr.get_del {α : Type} {t : Tr α} {k : Nat} {j : Nat} {x : α} (h : (t.del k).get j = some x) : j ≠ k /\ t.get j = some x := by
 rcases Tr.get_setN _ _ _ _ _ _ h with ⟨_, b⟩ | h
 · cases b
 · exact h
def iLt : Int -> Int -> Bool
 | .ofNat a, .ofNat b => Nat.blt a b
 | .ofNat _, .negSucc _ => false
 | .negSucc _, .ofNat _ => true
 | .negSucc a, .negSucc b => Nat.blt b a
theorem iLt_eq (a b : Int) : iLt a b = decide (a < b) := by
 cases a <;> cases b <;> simp only [iLt, Int.ofNat_eq_natCast]
 · rename_i a b; rw [Bool.eq_iff_iff, Nat.blt_eq, decide_eq_true_iff]; omega
 · symm; rw [decide_eq_false_iff_not]; omega
 · symm; rw [decide_eq_true_iff]; omega
 · rename_i a b; rw [Bool.eq_iff_iff, Nat.blt_eq, decide_eq_true_iff]; omega
def iEq : Int -> Int -> Bool
 | .ofNat a, .ofNat b => Nat.beq a b
 | .negSucc a, .negSucc b => Nat.beq a b
 | _, _ => false
theorem nat_beq_iff (a b : Nat) : Nat.beq a b = true ↔ a = b := ⟨Nat.eq_of_beq_eq_true, fun h => by subst h; exact Nat.beq_refl a⟩
theorem iEq_eq (a b : Int) : iEq a b = decide (a = b) := by
 cases a <;> cases b <;> simp only [iEq, Int.ofNat_eq_natCast]
 · rename_i a b; rw [Bool.eq_iff_iff, nat_beq_iff, decide_eq_true_iff]; omega
 · symm; rw [decide_eq_false_iff_not]; omega
 · symm; rw [decide_eq_false_iff_not]; omega
 · rename_i a b; rw [Bool.eq_iff_iff, nat_beq_iff, decide_eq_true_iff]; omega
def lo : IntKind -> Int
 | .i8 => -128 | .i16 => -32768 | .i32 => -2147483648 | .i64 => -9223372036854775808 | _ => 0
def hi : IntKind -> Int
 | .i8 => 128 | .i16 => 32768 | .i32 => 2147483648 | .i64 => 9223372036854775808
 | .u8 => 256 | .u16 => 65536 | .u32 => 4294967296 | .u64 => 18446744073709551616
def wrapF (k : IntKind) (n : Int) : Int := cond (iLt n (lo k)) (k.wrap n) (cond (iLt n (hi k)) n (k.wrap n))
theorem wrap_in (k : IntKind) (n : Int) (h1 : lo k <= n) (h2 : n < hi k) : k.wrap n = n := by
 cases k <;> simp only [lo, hi] at h1 h2 <;> simp [IntKind.wrap, IntKind.bits, IntKind.signed] <;> omega
theorem wrapF_eq (k : IntKind) (n : Int) : wrapF k n = k.wrap n := by
 unfold wrapF
 rw [iLt_eq, iLt_eq]
 by_cases h1 : n < lo k
 · simp [h1]
 · by_cases h2 : n < hi k
   · simp [h1, h2]; rw [wrap_in k n (by omega) h2]
   · simp [h1, h2]
end Go.Vm
