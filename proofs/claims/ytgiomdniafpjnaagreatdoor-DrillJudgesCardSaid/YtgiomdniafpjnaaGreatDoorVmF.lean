/-
  A machine for abstract states over the model (part 1): trees of numbered things, terms, abstract values, what they stand for.
-/
import Derived.Calls
import Derived.KernelRfl
section
namespace Go.Vm

/-- A tree of numbered things. -/
inductive Tr (α : Type) where
  | leaf
  | node (l : Tr α) (o : Option α) (r : Tr α)

def Tr.get {α : Type} : Tr α → Nat → Option α
  | .leaf, _ => none
  | .node l o r, k => cond (Nat.beq k 0) o (cond (Nat.beq (Nat.mod k 2) 1) (l.get (Nat.div k 2)) (r.get (Nat.pred (Nat.div k 2))))

def Tr.left {α : Type} : Tr α → Tr α
  | .leaf => .leaf
  | .node l _ _ => l
def Tr.right {α : Type} : Tr α → Tr α
  | .leaf => .leaf
  | .node _ _ r => r
def Tr.mid {α : Type} : Tr α → Option α
  | .leaf => none
  | .node _ o _ => o

def Tr.setN {α : Type} : Nat → Nat → Option α → Tr α → Tr α
  | 0, _, _, _ => .leaf
  | n + 1, k, o, t =>
    cond (Nat.beq k 0) (.node t.left o t.right)
      (cond (Nat.beq (Nat.mod k 2) 1) (.node (setN n (Nat.div k 2) o t.left) t.mid t.right)
        (.node t.left t.mid (setN n (Nat.pred (Nat.div k 2)) o t.right)))

def Tr.set {α : Type} (t : Tr α) (k : Nat) (v : α) : Tr α := Tr.setN 64 k (some v) t
def Tr.del {α : Type} (t : Tr α) (k : Nat) : Tr α := Tr.setN 64 k none t

theorem Tr.get_zero {α : Type} (t : Tr α) : t.get 0 = t.mid := by cases t <;> simp [Tr.get, Tr.mid]
theorem Tr.get_odd {α : Type} (t : Tr α) (k : Nat) (h : k % 2 = 1) : t.get k = t.left.get (k / 2) := by
  cases t with
  | leaf => simp [Tr.get, Tr.left]
  | node l o r =>
    have h0 : k ≠ 0 := by omega
    have e1 : Nat.beq k 0 = false := by cases hb : Nat.beq k 0 with | false => rfl | true => exact absurd (Nat.eq_of_beq_eq_true hb) h0
    have e2 : Nat.beq (Nat.mod k 2) 1 = true := by show Nat.beq (k % 2) 1 = true; rw [h]; rfl
    show cond (Nat.beq k 0) o (cond (Nat.beq (Nat.mod k 2) 1) (l.get (Nat.div k 2)) _) = _
    rw [e1, e2]; rfl
theorem Tr.get_even {α : Type} (t : Tr α) (k : Nat) (h0 : k ≠ 0) (h : k % 2 ≠ 1) : t.get k = t.right.get (k / 2 - 1) := by
  cases t with
  | leaf => simp [Tr.get, Tr.right]
  | node l o r =>
    have e1 : Nat.beq k 0 = false := by cases hb : Nat.beq k 0 with | false => rfl | true => exact absurd (Nat.eq_of_beq_eq_true hb) h0
    have e2 : Nat.beq (Nat.mod k 2) 1 = false := by
      show Nat.beq (k % 2) 1 = false
      cases hb : Nat.beq (k % 2) 1 with | false => rfl | true => exact absurd (Nat.eq_of_beq_eq_true hb) h
    show cond (Nat.beq k 0) o (cond (Nat.beq (Nat.mod k 2) 1) _ (r.get (Nat.pred (Nat.div k 2)))) = _
    rw [e1, e2]; rfl

theorem Tr.setN_zero {α : Type} (n : Nat) (o : Option α) (t : Tr α) : Tr.setN (n + 1) 0 o t = .node t.left o t.right := rfl
theorem Tr.setN_odd {α : Type} (n k : Nat) (o : Option α) (t : Tr α) (h : k % 2 = 1) :
    Tr.setN (n + 1) k o t = .node (setN n (k / 2) o t.left) t.mid t.right := by
  have h0 : k ≠ 0 := by omega
  have e1 : Nat.beq k 0 = false := by cases hb : Nat.beq k 0 with | false => rfl | true => exact absurd (Nat.eq_of_beq_eq_true hb) h0
  have e2 : Nat.beq (Nat.mod k 2) 1 = true := by show Nat.beq (k % 2) 1 = true; rw [h]; rfl
  show cond (Nat.beq k 0) _ (cond (Nat.beq (Nat.mod k 2) 1) _ _) = _
  rw [e1, e2]; rfl
theorem Tr.setN_even {α : Type} (n k : Nat) (o : Option α) (t : Tr α) (h0 : k ≠ 0) (h : k % 2 ≠ 1) :
    Tr.setN (n + 1) k o t = .node t.left t.mid (setN n (k / 2 - 1) o t.right) := by
  have e1 : Nat.beq k 0 = false := by cases hb : Nat.beq k 0 with | false => rfl | true => exact absurd (Nat.eq_of_beq_eq_true hb) h0
  have e2 : Nat.beq (Nat.mod k 2) 1 = false := by
    show Nat.beq (k % 2) 1 = false
    cases hb : Nat.beq (k % 2) 1 with | false => rfl | true => exact absurd (Nat.eq_of_beq_eq_true hb) h
  show cond (Nat.beq k 0) _ (cond (Nat.beq (Nat.mod k 2) 1) _ _) = _
  rw [e1, e2]; rfl

theorem Tr.get_setN {α : Type} : ∀ (n k : Nat) (o : Option α) (t : Tr α) (j : Nat) (x : α), (Tr.setN n k o t).get j = some x →
    (j = k ∧ o = some x) ∨ (j ≠ k ∧ t.get j = some x) := by
  intro n
  induction n with
  | zero => intro k o t j x h; simp [Tr.setN, Tr.get] at h
  | succ n ih =>
    intro k o t j x h
    by_cases hk : k = 0
    · subst hk
      rw [Tr.setN_zero] at h
      by_cases hj : j = 0
      · subst hj; rw [Tr.get_zero] at h; exact .inl ⟨rfl, h⟩
      · refine .inr ⟨hj, ?_⟩
        by_cases h2 : j % 2 = 1
        · rw [Tr.get_odd _ _ h2] at h ⊢; exact h
        · rw [Tr.get_even _ _ hj h2] at h ⊢; exact h
    · by_cases k2 : k % 2 = 1
      · rw [Tr.setN_odd _ _ _ _ k2] at h
        by_cases hj : j = 0
        · subst hj; rw [Tr.get_zero] at h; exact .inr ⟨fun e => hk e.symm, by rw [Tr.get_zero]; exact h⟩
        · by_cases h2 : j % 2 = 1
          · rw [Tr.get_odd _ _ h2] at h
            rcases ih _ _ _ _ _ h with ⟨e, ho⟩ | ⟨ne, ht⟩
            · exact .inl ⟨by omega, ho⟩
            · exact .inr ⟨by omega, by rw [Tr.get_odd _ _ h2]; exact ht⟩
          · rw [Tr.get_even _ _ hj h2] at h
            exact .inr ⟨by omega, by rw [Tr.get_even _ _ hj h2]; exact h⟩
      · rw [Tr.setN_even _ _ _ _ hk k2] at h
        by_cases hj : j = 0
        · subst hj; rw [Tr.get_zero] at h; exact .inr ⟨fun e => hk e.symm, by rw [Tr.get_zero]; exact h⟩
        · by_cases h2 : j % 2 = 1
          · rw [Tr.get_odd _ _ h2] at h
            exact .inr ⟨by omega, by rw [Tr.get_odd _ _ h2]; exact h⟩
          · rw [Tr.get_even _ _ hj h2] at h
            rcases ih _ _ _ _ _ h with ⟨e, ho⟩ | ⟨ne, ht⟩
            · exact .inl ⟨by omega, ho⟩
            · exact .inr ⟨by omega, by rw [Tr.get_even _ _ hj h2]; exact ht⟩

theorem Tr.get_set {α : Type} {t : Tr α} {k : Nat} {v : α} {j : Nat} {x : α} (h : (t.set k v).get j = some x) :
    (j = k ∧ x = v) ∨ (j ≠ k ∧ t.get j = some x) := by
  rcases Tr.get_setN _ _ _ _ _ _ h with ⟨a, b⟩ | h
  · exact .inl ⟨a, (Option.some.inj b).symm⟩
  · exact .inr h
theorem Tr.get_del {α : Type} {t : Tr α} {k : Nat} {j : Nat} {x : α} (h : (t.del k).get j = some x) : j ≠ k ∧ t.get j = some x := by
  rcases Tr.get_setN _ _ _ _ _ _ h with ⟨_, b⟩ | h
  · cases b
  · exact h

-- INTEGERS, QUICKLY
def iLt : Int → Int → Bool
  | .ofNat a, .ofNat b => Nat.blt a b
  | .ofNat _, .negSucc _ => false
  | .negSucc _, .ofNat _ => true
  | .negSucc a, .negSucc b => Nat.blt b a
theorem iLt_eq (a b : Int) : iLt a b = decide (a < b) := by
  cases a <;> cases b <;> simp only [iLt, Int.ofNat_eq_natCast]
  · rename_i a b; rw [Bool.eq_iff_iff, Nat.blt_eq, decide_eq_true_iff]; omega
  · symm; rw [decide_eq_false_iff_not]; omega
  · symm; rw [decide_eq_true_iff]; omega
  · rename_i a b; rw [Bool.eq_iff_iff, Nat.blt_eq, decide_eq_true_iff]; omega
def iEq : Int → Int → Bool
  | .ofNat a, .ofNat b => Nat.beq a b
  | .negSucc a, .negSucc b => Nat.beq a b
  | _, _ => false
theorem nat_beq_iff (a b : Nat) : Nat.beq a b = true ↔ a = b := ⟨Nat.eq_of_beq_eq_true, fun h => by subst h; exact Nat.beq_refl a⟩
theorem iEq_eq (a b : Int) : iEq a b = decide (a = b) := by
  cases a <;> cases b <;> simp only [iEq, Int.ofNat_eq_natCast]
  · rename_i a b; rw [Bool.eq_iff_iff, nat_beq_iff, decide_eq_true_iff]; omega
  · symm; rw [decide_eq_false_iff_not]; omega
  · symm; rw [decide_eq_false_iff_not]; omega
  · rename_i a b; rw [Bool.eq_iff_iff, nat_beq_iff, decide_eq_true_iff]; omega
def lo : IntKind → Int
  | .i8 => -128 | .i16 => -32768 | .i32 => -2147483648 | .i64 => -9223372036854775808 | _ => 0
def hi : IntKind → Int
  | .i8 => 128 | .i16 => 32768 | .i32 => 2147483648 | .i64 => 9223372036854775808
  | .u8 => 256 | .u16 => 65536 | .u32 => 4294967296 | .u64 => 18446744073709551616
def wrapF (k : IntKind) (n : Int) : Int := cond (iLt n (lo k)) (k.wrap n) (cond (iLt n (hi k)) n (k.wrap n))
theorem wrap_in (k : IntKind) (n : Int) (h1 : lo k ≤ n) (h2 : n < hi k) : k.wrap n = n := by
  cases k <;> simp only [lo, hi] at h1 h2 <;> simp [IntKind.wrap, IntKind.bits, IntKind.signed] <;> omega
theorem wrapF_eq (k : IntKind) (n : Int) : wrapF k n = k.wrap n := by
  unfold wrapF
  rw [iLt_eq, iLt_eq]
  by_cases h1 : n < lo k
  · simp [h1]
  · by_cases h2 : n < hi k
    · simp [h1, h2]; rw [wrap_in k n (by omega) h2]
    · simp [h1, h2]

end Go.Vm
end

/-
  A machine for abstract states over the model (part 2): terms, abstract values, blocks, what they stand for.
-/
section
namespace Go.Vm

-- LISTS OF NUMBERS AS ONE NUMBER
/-- A text under a function's name: of which function, of which numbers. -/
def zigN : Int → Nat
  | .ofNat n => 2 * n
  | .negSucc n => 2 * n + 1
def encN : List Int → Nat
  | [] => 0
  | x :: r => 2 ^ zigN x * (2 * encN r + 1)
def unzig (a : Nat) : Int := if a % 2 = 0 then .ofNat (a / 2) else .negSucc (a / 2)
theorem unzig_zig : ∀ x : Int, unzig (zigN x) = x
  | .ofNat n => by
    have h1 : 2 * n % 2 = 0 := by omega
    have h2 : 2 * n / 2 = n := by omega
    simp only [unzig, zigN, h1, h2, if_true]
  | .negSucc n => by
    have h1 : ¬ (2 * n + 1) % 2 = 0 := by omega
    have h2 : (2 * n + 1) / 2 = n := by omega
    simp only [unzig, zigN, h1, h2, if_false]
def twos : Nat → Nat → Nat
  | 0, _ => 0
  | f + 1, n => if n % 2 = 1 then 0 else twos f (n / 2) + 1
theorem twos_pow : ∀ (f a m : Nat), a < f → twos f (2 ^ a * (2 * m + 1)) = a
  | 0, _, _, h => by omega
  | f + 1, 0, m, _ => by
    have : (2 ^ 0 * (2 * m + 1)) % 2 = 1 := by omega
    simp only [twos, this, if_true]
  | f + 1, a + 1, m, h => by
    have e : 2 ^ (a + 1) * (2 * m + 1) = 2 * (2 ^ a * (2 * m + 1)) := by rw [Nat.pow_succ, Nat.mul_assoc, Nat.mul_left_comm]
    have h1 : ¬ (2 * (2 ^ a * (2 * m + 1))) % 2 = 1 := by omega
    have h2 : 2 * (2 ^ a * (2 * m + 1)) / 2 = 2 ^ a * (2 * m + 1) := by omega
    rw [e]
    simp only [twos, h1, if_false, h2, twos_pow f a m (by omega)]
def decN : Nat → Nat → List Int
  | 0, _ => []
  | f + 1, n => if n = 0 then [] else unzig (twos n n) :: decN f ((n / 2 ^ twos n n - 1) / 2)
theorem encN_cons (x : Int) (r : List Int) : zigN x < encN (x :: r) ∧ encN r < encN (x :: r) := by
  have h1 : zigN x < 2 ^ zigN x := Nat.lt_two_pow_self
  have h2 : 2 ^ zigN x * 1 ≤ 2 ^ zigN x * (2 * encN r + 1) := Nat.mul_le_mul_left _ (by omega)
  have h3 : 1 * (2 * encN r + 1) ≤ 2 ^ zigN x * (2 * encN r + 1) := Nat.mul_le_mul_right _ (by omega)
  show _ < 2 ^ zigN x * (2 * encN r + 1) ∧ _ < 2 ^ zigN x * (2 * encN r + 1)
  omega
theorem decN_encN : ∀ (l : List Int) (f : Nat), encN l < f → decN f (encN l) = l
  | [], 0, h => by omega
  | [], f + 1, _ => by simp only [encN, decN, if_true]
  | x :: r, 0, h => by omega
  | x :: r, f + 1, h => by
    obtain ⟨h1, h2⟩ := encN_cons x r
    have h0 : ¬ encN (x :: r) = 0 := by omega
    have ht : twos (encN (x :: r)) (encN (x :: r)) = zigN x := twos_pow _ _ _ h1
    have hd : (encN (x :: r) / 2 ^ zigN x - 1) / 2 = encN r := by
      show (2 ^ zigN x * (2 * encN r + 1) / 2 ^ zigN x - 1) / 2 = encN r
      rw [Nat.mul_div_cancel_left _ (Nat.two_pow_pos _)]; omega
    simp only [decN, h0, if_false, ht, unzig_zig, hd, decN_encN r f (by omega)]
def encL (l : List Int) : Int := (encN l : Nat)
def decL (c : Int) : List Int := decN (c.toNat + 1) c.toNat
@[simp] theorem decL_encL (l : List Int) : decL (encL l) = l := decN_encN l _ (Nat.lt_succ_self _)
@[simp] theorem decL_zero : decL 0 = [] := decL_encL []
def encS (b : ByteArray) : Int := encL (b.data.toList.map fun x => (x.toNat : Int))
def decS (c : Int) : ByteArray := ⟨((decL c).map fun x => UInt8.ofNat x.toNat).toArray⟩
@[simp] theorem decS_encS (b : ByteArray) : decS (encS b) = b := by
  unfold decS encS
  rw [decL_encL, List.map_map]
  apply ByteArray.ext
  apply Array.toList_inj.1
  show (b.data.toList.map _) = _
  conv => rhs; rw [← List.map_id b.data.toList]
  apply List.map_congr_left
  intro x _
  simp
/-- What a list of pairs has for a key. -/
def mGet : List Int → Int → Option Int
  | k :: v :: r, x => if k = x then some v else mGet r x
  | _, _ => none
def mPut : List Int → Int → Int → List Int
  | k :: v :: r, x, y => if k = x then k :: y :: r else k :: v :: mPut r x y
  | _, x, y => [x, y]
def mDel : List Int → Int → List Int
  | k :: v :: r, x => if k = x then r else k :: v :: mDel r x
  | l, _ => l
/-- What everyone knows to compute, of lists as numbers: 0 a place, 1 a pair, 2 a place set, 3 one more, 4 how many, 5 to 9 as maps, 10 and 11 a beginning and the rest. -/
def univ (k : Nat) (x y : Int) : Int :=
  match k with
  | 0 => (decL x).getD y.toNat 0
  | 1 => encL [x, y]
  | 2 => encL ((decL x).set ((decL y).getD 0 0).toNat ((decL y).getD 1 0))
  | 3 => encL (decL x ++ [y])
  | 4 => ((decL x).length : Nat)
  | 5 => (mGet (decL x) y).getD 0
  | 6 => if (mGet (decL x) y).isSome then 1 else 0
  | 7 => encL (mPut (decL x) ((decL y).getD 0 0) ((decL y).getD 1 0))
  | 8 => encL (mDel (decL x) y)
  | 9 => ((decL x).length / 2 : Nat)
  | 10 => encL ((decL x).take y.toNat)
  | 11 => encL ((decL x).drop y.toNat)
  | 12 => encL (decL x ++ decL y)
  | 13 => if x = y then 0 else x
  | 14 => if y ≤ x then x - y else 0
  | 15 => encS (decS x)
  | 16 => encS ((decS x).extract ((decL y).getD 0 0).toNat ((decL y).getD 1 0).toNat)
  | 17 => encS (decS x ++ decS y)
  | 18 => encS ⟨#[UInt8.ofNat x.toNat]⟩
  | 19 => encL (List.replicate x.toNat y)
  | 20 => encL (List.replicate (x.toNat * y.toNat) 0)
  | 21 => encL ((List.range 256).map fun (j : Nat) => if (j : Int) = (decL y).getD 0 0 then (decL y).getD 1 0 else (decL x).getD j 0)
  | _ => 0

structure Env where
  I : Nat → Int
  B : Nat → Bool
  S : Nat → ByteArray
  V : Nat → Value
  N : Nat → Option Nat
  F : Nat → Int → Int → Int
  /-- what a loop over a function began with -/
  T : Nat → Option Loop := fun _ => none

structure Env.Le (ρ ρ' : Env) : Prop where
  i : ρ'.I = ρ.I
  b : ρ'.B = ρ.B
  s : ρ'.S = ρ.S
  v : ρ'.V = ρ.V
  f : ρ'.F = ρ.F
  n : ∀ i b, ρ.N i = some b → ρ'.N i = some b
  t : ∀ i r, ρ.T i = some r → ρ'.T i = some r
theorem Env.Le.refl (ρ : Env) : ρ.Le ρ := ⟨rfl, rfl, rfl, rfl, rfl, fun _ _ h => h, fun _ _ h => h⟩
theorem Env.Le.trans {a b c : Env} (h : a.Le b) (g : b.Le c) : a.Le c :=
  ⟨g.i.trans h.i, g.b.trans h.b, g.s.trans h.s, g.v.trans h.v, g.f.trans h.f, fun i x e => g.n i x (h.n i x e), fun i x e => g.t i x (h.t i x e)⟩
def Env.put (ρ : Env) (i b : Nat) : Env := { ρ with N := fun j => if j = i then some b else ρ.N j }
theorem Env.le_put {ρ : Env} {i b : Nat} (h : ρ.N i = none) : ρ.Le (ρ.put i b) :=
  ⟨rfl, rfl, rfl, rfl, rfl, fun j x e => by
    show (if j = i then some b else ρ.N j) = some x
    split
    · rename_i hj; subst hj; rw [h] at e; cases e
    · exact e, fun _ _ e => e⟩
def Env.putT (ρ : Env) (i : Nat) (r : Loop) : Env := { ρ with T := fun j => if j = i then some r else ρ.T j }
theorem Env.le_putT {ρ : Env} {i : Nat} {r : Loop} (h : ρ.T i = none) : ρ.Le (ρ.putT i r) :=
  ⟨rfl, rfl, rfl, rfl, rfl, fun _ _ e => e, fun j x e => by
    show (if j = i then some r else ρ.T j) = some x
    split
    · rename_i hj; subst hj; rw [h] at e; cases e
    · exact e⟩
theorem Env.putT_same (ρ : Env) (i : Nat) (r : Loop) : (ρ.putT i r).T i = some r := by simp [Env.putT]
theorem Env.putT_other (ρ : Env) {i j : Nat} (r : Loop) (h : j ≠ i) : (ρ.putT i r).T j = ρ.T j := by simp [Env.putT, h]
theorem Env.put_same (ρ : Env) (i b : Nat) : (ρ.put i b).N i = some b := by simp [Env.put]
theorem Env.put_other (ρ : Env) {i j : Nat} (b : Nat) (h : j ≠ i) : (ρ.put i b).N j = ρ.N j := by simp [Env.put, h]

def selI (v : Value) (i : Nat) : Int :=
  match v with
  | .agg c => match c[i]? with
    | some (.int _ n) => n
    | _ => 0
  | _ => 0

def intBin (op : BinOp) (k : IntKind) (x y : Int) : Option Int :=
  match op with
  | .add => some (k.wrap (x + y))
  | .sub => some (k.wrap (x - y))
  | .mul => some (k.wrap (x * y))
  | .quo => if y = 0 then none else some (k.wrap (x.tdiv y))
  | .rem => if y = 0 then none else some (x.tmod y)
  | .and => some (k.wrap (BitVec.ofInt k.bits x &&& BitVec.ofInt k.bits y).toNat)
  | .or => some (k.wrap (BitVec.ofInt k.bits x ||| BitVec.ofInt k.bits y).toNat)
  | .xor => some (k.wrap (BitVec.ofInt k.bits x ^^^ BitVec.ofInt k.bits y).toNat)
  | .andNot => some (k.wrap (BitVec.ofInt k.bits x &&& ~~~BitVec.ofInt k.bits y).toNat)
  | .shl => if y < 0 then none else some (k.wrap (x * 2 ^ min y.toNat k.bits))
  | .shr => if y < 0 then none else some (x.fdiv (2 ^ min y.toNat k.bits))
  | _ => none
/-- A text under a function's name: of which function, of which numbers. -/
def codN (k : Nat) (x y : Int) : Nat := 1000000 + 2 ^ k * (2 * (2 ^ zigN x * (2 * zigN y + 1)) + 1)
/-- No more than a million bytes. -/
def cutM (b : ByteArray) : ByteArray := ⟨(b.data.toList.take 1000000).toArray⟩
theorem cutM_le (b : ByteArray) : (cutM b).size ≤ 1000000 := by
  show ((b.data.toList.take 1000000).toArray).size ≤ _
  simp; omega
theorem cutM_eq {b : ByteArray} (h : b.size ≤ 1000000) : cutM b = b := by
  apply ByteArray.ext
  show (b.data.toList.take 1000000).toArray = b.data
  have h2 : b.data.size ≤ 1000000 := h
  rw [List.take_of_length_le (by simpa using h2)]
/-- Numbers out of the names alone, that always are. -/
inductive PT where
  | lit (n : Int)
  | var (i : Nat)
  | sel (a sz j : Nat) (i : PT)
  | cv (k : IntKind) (a : PT)
  | bin (op : BinOp) (k : IntKind) (a b : PT)
  | fn (k : Nat) (a b : PT)
  | un (k : Nat) (a b : PT)
  | elem (o : PT) (sz j : Nat) (i : PT)
  /-- a text's name, as a number; a text under a function's name -/
  | sv (i : Nat)
  | sf (k : Nat) (a b : PT)
def PT.den (ρ : Env) : PT → Int
  | .lit n => n
  | .var i => ρ.I i
  | .sel a sz j i => selI (ρ.V a) ((i.den ρ).toNat * sz + j)
  | .cv k a => k.wrap (a.den ρ)
  | .bin op k a b => (intBin op k (a.den ρ) (b.den ρ)).getD 0
  | .fn k a b => ρ.F k (a.den ρ) (b.den ρ)
  | .un k a b => univ k (a.den ρ) (b.den ρ)
  | .elem o sz j i => Int.ofNat ((o.den ρ).toNat + ((i.den ρ).toNat * sz + j))
  | .sv i => encS (ρ.S i)
  | .sf k a b => encS (cutM (ρ.S (codN k (a.den ρ) (b.den ρ))))
theorem PT.den_mono {ρ ρ' : Env} (h : ρ.Le ρ') (t : PT) : t.den ρ' = t.den ρ := by
  induction t with
  | lit n => rfl
  | var i => simp only [PT.den, h.i]
  | sel a sz j i ih => simp only [PT.den, h.v, ih]
  | cv k a ih => simp only [PT.den, ih]
  | bin op k a b iha ihb => simp only [PT.den, iha, ihb]
  | fn k a b iha ihb => simp only [PT.den, h.f, iha, ihb]
  | un k a b iha ihb => simp only [PT.den, iha, ihb]
  | elem o sz j i iho ih => simp only [PT.den, iho, ih]
  | sv i => simp only [PT.den, h.s]
  | sf k a b iha ihb => simp only [PT.den, h.s, iha, ihb]
def PT.beq : PT → PT → Bool
  | .lit a, .lit b => iEq a b
  | .var i, .var j => Nat.beq i j
  | .sel a s j i, .sel a' s' j' i' => Nat.beq a a' && Nat.beq s s' && Nat.beq j j' && PT.beq i i'
  | .cv k a, .cv k' b => decide (k = k') && PT.beq a b
  | .bin o k a b, .bin o' k' c d => decide (o = o') && decide (k = k') && PT.beq a c && PT.beq b d
  | .fn k a b, .fn k' c d => Nat.beq k k' && PT.beq a c && PT.beq b d
  | .un k a b, .un k' c d => Nat.beq k k' && PT.beq a c && PT.beq b d
  | .elem o s j i, .elem o' s' j' i' => PT.beq o o' && Nat.beq s s' && Nat.beq j j' && PT.beq i i'
  | .sv i, .sv j => Nat.beq i j
  | .sf k a b, .sf k' c d => Nat.beq k k' && PT.beq a c && PT.beq b d
  | _, _ => false
theorem PT.beq_eq : ∀ {a b : PT}, PT.beq a b = true → a = b := by
  intro a
  induction a with
  | lit x => intro b h; cases b <;> simp [PT.beq, iEq_eq] at h; rw [h]
  | var i => intro b h; cases b <;> simp [PT.beq] at h; rw [h]
  | sel a s j i ih => intro c h; cases c <;> simp [PT.beq] at h; rw [h.1.1.1, h.1.1.2, h.1.2, ih h.2]
  | cv k a iha => intro c h; cases c <;> simp [PT.beq] at h; rw [h.1, iha h.2]
  | bin o k a b iha ihb =>
    intro c h
    cases c <;> simp [PT.beq] at h
    obtain ⟨⟨⟨rfl, rfl⟩, h1⟩, h2⟩ := h
    rw [iha h1, ihb h2]
  | fn k a b iha ihb => intro c h; cases c <;> simp [PT.beq] at h; rw [h.1.1, iha h.1.2, ihb h.2]
  | un k a b iha ihb => intro c h; cases c <;> simp [PT.beq] at h; rw [h.1.1, iha h.1.2, ihb h.2]
  | elem o s j i iho ih => intro c h; cases c <;> simp [PT.beq] at h; rw [iho h.1.1.1, h.1.1.2, h.1.2, ih h.2]
  | sv i => intro b h; cases b <;> simp [PT.beq] at h; rw [h]
  | sf k a b iha ihb => intro c h; cases c <;> simp [PT.beq] at h; rw [h.1.1, iha h.1.2, ihb h.2]

inductive ST where
  | lit (b : List UInt8)
  | var (i : Nat)
  | cat (a b : ST)
  /-- what a named function answers: a text -/
  | fn (k : Nat) (a b : PT)
  /-- one byte -/
  | byt (a : PT)
  /-- a text that is told as a number -/
  | dec (c : PT)
  /-- a piece of a text -/
  | sub (s : ST) (a b : PT)
def ST.den (ρ : Env) : ST → ByteArray
  | .lit b => ⟨b.toArray⟩
  | .var i => ρ.S i
  | .cat a b => a.den ρ ++ b.den ρ
  | .fn k a b => cutM (ρ.S (codN k (a.den ρ) (b.den ρ)))
  | .byt a => ⟨#[UInt8.ofNat (a.den ρ).toNat]⟩
  | .dec c => decS (c.den ρ)
  | .sub s a b => (s.den ρ).extract (a.den ρ).toNat (b.den ρ).toNat

inductive IT where
  | lit (n : Int)
  | var (i : Nat)
  | nv (i : Nat)
  | bin (op : BinOp) (k : IntKind) (a b : IT)
  | cv (k : IntKind) (a : IT)
  | slen (s : ST)
  | nsub (i n : Nat)
  | mx (a b : IT)
  | mn (a b : IT)
  /-- a cell of a row: of the element 'i', that has 'sz' cells, the cell 'j' -/
  | sel (a sz j : Nat) (i : IT)
  /-- the place of that cell, of a row that begins at 'o' -/
  | elem (o : IT) (sz j : Nat) (i : IT)
  /-- what a named function answers -/
  | fn (k : Nat) (a b : IT)
  /-- what a function answers that everyone knows -/
  | un (k : Nat) (a b : IT)
  /-- a text as a number -/
  | scode (s : ST)

def isArith : BinOp → Bool
  | .add | .sub | .mul | .quo | .rem | .and | .or | .xor | .andNot | .shl | .shr => true
  | _ => false
def intCmp (op : BinOp) (x y : Int) : Option Bool :=
  match op with
  | .eql => some (x == y)
  | .neq => some (x != y)
  | .lss => some (decide (x < y))
  | .leq => some (decide (x ≤ y))
  | .gtr => some (decide (x > y))
  | .geq => some (decide (x ≥ y))
  | _ => none
def intCmpF (op : BinOp) (x y : Int) : Option Bool :=
  match op with
  | .eql => some (iEq x y)
  | .neq => some (!iEq x y)
  | .lss => some (iLt x y)
  | .leq => some (!iLt y x)
  | .gtr => some (iLt y x)
  | .geq => some (!iLt x y)
  | _ => none
theorem intCmpF_eq (op : BinOp) (x y : Int) : intCmpF op x y = intCmp op x y := by
  have a1 : iEq x y = (x == y) := by rw [iEq_eq]; cases h : (x == y) <;> simp_all
  have a2 : (!iEq x y) = (x != y) := by rw [a1]; rfl
  have a3 : (!iLt y x) = decide (x ≤ y) := by rw [iLt_eq]; by_cases h : y < x <;> simp [h] <;> omega
  have a4 : (!iLt x y) = decide (x ≥ y) := by rw [iLt_eq]; by_cases h : x < y <;> simp [h] <;> omega
  cases op <;> first
    | exact congrArg some a1
    | exact congrArg some a2
    | exact congrArg some a3
    | exact congrArg some a4
    | exact congrArg some (iLt_eq x y)
    | exact congrArg some (iLt_eq y x)
    | rfl

def intBinF (op : BinOp) (k : IntKind) (x y : Int) : Option Int :=
  match op with
  | .add => some (wrapF k (x + y))
  | .sub => some (wrapF k (x - y))
  | .mul => some (wrapF k (x * y))
  | .quo => cond (iEq y 0) none (some (wrapF k (x.tdiv y)))
  | .rem => cond (iEq y 0) none (some (x.tmod y))
  | op => intBin op k x y
theorem intBinF_eq (op : BinOp) (k : IntKind) (x y : Int) : intBinF op k x y = intBin op k x y := by
  cases op <;> simp only [intBinF, intBin, wrapF_eq, iEq_eq] <;> by_cases h : y = 0 <;> simp [h]

def IT.den (ρ : Env) : IT → Option Int
  | .lit n => some n
  | .var i => some (ρ.I i)
  | .nv i => (ρ.N i).map Int.ofNat
  | .bin op k a b => match a.den ρ, b.den ρ with
    | some x, some y => intBin op k x y
    | _, _ => none
  | .cv k a => (a.den ρ).map k.wrap
  | .slen s => some ((s.den ρ).size : Int)
  | .nsub i n => (ρ.N i).map fun c => Int.ofNat (c - n)
  | .mx a b => match a.den ρ, b.den ρ with
    | some x, some y => some (if y > x then y else x)
    | _, _ => none
  | .mn a b => match a.den ρ, b.den ρ with
    | some x, some y => some (if y < x then y else x)
    | _, _ => none
  | .sel a sz j i => (i.den ρ).map fun x => selI (ρ.V a) (x.toNat * sz + j)
  | .elem o sz j i => match o.den ρ, i.den ρ with
    | some y, some x => some (Int.ofNat (y.toNat + (x.toNat * sz + j)))
    | _, _ => none
  | .fn k a b => match a.den ρ, b.den ρ with
    | some x, some y => some (ρ.F k x y)
    | _, _ => none
  | .un k a b => match a.den ρ, b.den ρ with
    | some x, some y => some (univ k x y)
    | _, _ => none
  | .scode s => some (encS (s.den ρ))

/-- So many bytes at most. -/
def szB : ST → Option Nat
  | .lit b => some b.length
  | .var _ => none
  | .cat a b => match szB a, szB b with
    | some m, some n => some (m + n)
    | _, _ => none
  | .fn _ _ _ => some 1000000
  | .byt _ => some 1
  | .dec _ => none
  | .sub s _ _ => szB s
theorem szB_ok (ρ : Env) : ∀ {s : ST} {n : Nat}, szB s = some n → (s.den ρ).size ≤ n := by
  intro s
  induction s with
  | lit b => intro n h; cases h; show b.toArray.size ≤ _; simp
  | var i => intro n h; cases h
  | cat a b iha ihb =>
    intro n h
    simp only [szB] at h
    split at h
    · rename_i x y hx hy
      cases h
      have h1 := iha hx
      have h2 := ihb hy
      simp only [ST.den, ByteArray.size_append]; omega
    · cases h
  | fn k a b => intro n h; cases h; exact cutM_le _
  | byt a => intro n h; cases h; exact Nat.le_refl _
  | dec c => intro n h; cases h
  | sub s a b ih =>
    intro n h
    have := ih h
    simp only [ST.den, ByteArray.size_extract]; omega
theorem ST.den_mono {ρ ρ' : Env} (h : ρ.Le ρ') (s : ST) : s.den ρ' = s.den ρ := by
  induction s with
  | lit b => rfl
  | var i => simp [ST.den, h.s]
  | cat a b iha ihb => simp [ST.den, iha, ihb]
  | fn k a b => simp only [ST.den, PT.den_mono h, h.s]
  | byt a => simp only [ST.den, PT.den_mono h]
  | dec c => simp only [ST.den, PT.den_mono h]
  | sub s a b ih => simp only [ST.den, PT.den_mono h, ih]
theorem IT.den_mono {ρ ρ' : Env} (h : ρ.Le ρ') : ∀ {t : IT} {x : Int}, t.den ρ = some x → t.den ρ' = some x := by
  intro t
  induction t with
  | lit n => exact fun e => e
  | var i => intro x e; simp only [IT.den, h.i] at e ⊢; exact e
  | nv i =>
    intro x e
    simp only [IT.den] at e ⊢
    cases hn : ρ.N i with
    | none => rw [hn] at e; cases e
    | some b => rw [hn] at e; rw [h.n i b hn]; exact e
  | bin op k a b iha ihb =>
    intro x e
    simp only [IT.den] at e ⊢
    cases ha : a.den ρ with
    | none => rw [ha] at e; cases e
    | some y =>
      cases hb : b.den ρ with
      | none => rw [ha, hb] at e; cases e
      | some z => rw [ha, hb] at e; rw [iha ha, ihb hb]; exact e
  | cv k a iha =>
    intro x e
    simp only [IT.den] at e ⊢
    cases ha : a.den ρ with
    | none => rw [ha] at e; cases e
    | some y => rw [ha] at e; rw [iha ha]; exact e
  | slen s => intro x e; simp only [IT.den, ST.den_mono h] at e ⊢; exact e
  | nsub i n =>
    intro x e
    simp only [IT.den] at e ⊢
    cases hn : ρ.N i with
    | none => rw [hn] at e; cases e
    | some b => rw [hn] at e; rw [h.n i b hn]; exact e
  | mx a b iha ihb =>
    intro x e
    simp only [IT.den] at e ⊢
    cases ha : a.den ρ with
    | none => rw [ha] at e; cases e
    | some y =>
      cases hb : b.den ρ with
      | none => rw [ha, hb] at e; cases e
      | some z => rw [ha, hb] at e; rw [iha ha, ihb hb]; exact e
  | mn a b iha ihb =>
    intro x e
    simp only [IT.den] at e ⊢
    cases ha : a.den ρ with
    | none => rw [ha] at e; cases e
    | some y =>
      cases hb : b.den ρ with
      | none => rw [ha, hb] at e; cases e
      | some z => rw [ha, hb] at e; rw [iha ha, ihb hb]; exact e
  | sel a sz j i ih =>
    intro x e
    simp only [IT.den, h.v] at e ⊢
    cases hi : i.den ρ with
    | none => rw [hi] at e; cases e
    | some y => rw [hi] at e; rw [ih hi]; exact e
  | elem o sz j i iho ih =>
    intro x e
    simp only [IT.den] at e ⊢
    cases ho : o.den ρ with
    | none => rw [ho] at e; cases e
    | some z =>
      cases hi : i.den ρ with
      | none => rw [ho, hi] at e; cases e
      | some y => rw [ho, hi] at e; rw [iho ho, ih hi]; exact e
  | fn k a b iha ihb =>
    intro x e
    simp only [IT.den, h.f] at e ⊢
    cases ha : a.den ρ with
    | none => rw [ha] at e; cases e
    | some y =>
      cases hb : b.den ρ with
      | none => rw [ha, hb] at e; cases e
      | some z => rw [ha, hb] at e; rw [iha ha, ihb hb]; exact e
  | un k a b iha ihb =>
    intro x e
    simp only [IT.den] at e ⊢
    cases ha : a.den ρ with
    | none => rw [ha] at e; cases e
    | some y =>
      cases hb : b.den ρ with
      | none => rw [ha, hb] at e; cases e
      | some z => rw [ha, hb] at e; rw [iha ha, ihb hb]; exact e
  | scode s => intro x e; simp only [IT.den, ST.den_mono h] at e ⊢; exact e

def ST.beq : ST → ST → Bool
  | .lit a, .lit b => a == b
  | .var i, .var j => Nat.beq i j
  | .cat a b, .cat c d => ST.beq a c && ST.beq b d
  | .fn k a b, .fn k' c d => Nat.beq k k' && PT.beq a c && PT.beq b d
  | .byt a, .byt b => PT.beq a b
  | .dec a, .dec b => PT.beq a b
  | .sub s a b, .sub t c d => ST.beq s t && PT.beq a c && PT.beq b d
  | _, _ => false
theorem ST.beq_eq : ∀ {a b : ST}, ST.beq a b = true → a = b := by
  intro a
  induction a with
  | lit x => intro b h; cases b <;> simp [ST.beq] at h; subst h; rfl
  | var i => intro b h; cases b <;> simp [ST.beq] at h; rw [h]
  | cat a b iha ihb =>
    intro c h
    cases c <;> simp [ST.beq] at h
    rw [iha h.1, ihb h.2]
  | fn k a b => intro c h; cases c <;> simp [ST.beq] at h; rw [h.1.1, PT.beq_eq h.1.2, PT.beq_eq h.2]
  | byt a => intro c h; cases c <;> simp [ST.beq] at h; rw [PT.beq_eq h]
  | dec a => intro c h; cases c <;> simp [ST.beq] at h; rw [PT.beq_eq h]
  | sub s a b ih => intro c h; cases c <;> simp [ST.beq] at h; rw [ih h.1.1, PT.beq_eq h.1.2, PT.beq_eq h.2]
def IT.beq : IT → IT → Bool
  | .lit a, .lit b => iEq a b
  | .var i, .var j => Nat.beq i j
  | .nv i, .nv j => Nat.beq i j
  | .bin o k a b, .bin o' k' c d => decide (o = o') && decide (k = k') && IT.beq a c && IT.beq b d
  | .cv k a, .cv k' b => decide (k = k') && IT.beq a b
  | .slen s, .slen t => ST.beq s t
  | .nsub i n, .nsub j m => Nat.beq i j && Nat.beq n m
  | .mx a b, .mx c d => IT.beq a c && IT.beq b d
  | .mn a b, .mn c d => IT.beq a c && IT.beq b d
  | .sel a s j i, .sel a' s' j' i' => Nat.beq a a' && Nat.beq s s' && Nat.beq j j' && IT.beq i i'
  | .fn k a b, .fn k' c d => Nat.beq k k' && IT.beq a c && IT.beq b d
  | .elem o s j i, .elem o' s' j' i' => IT.beq o o' && Nat.beq s s' && Nat.beq j j' && IT.beq i i'
  | .un k a b, .un k' c d => Nat.beq k k' && IT.beq a c && IT.beq b d
  | .scode s, .scode t => ST.beq s t
  | _, _ => false
theorem IT.beq_eq : ∀ {a b : IT}, IT.beq a b = true → a = b := by
  intro a
  induction a with
  | lit x => intro b h; cases b <;> simp [IT.beq, iEq_eq] at h; rw [h]
  | var i => intro b h; cases b <;> simp [IT.beq] at h; rw [h]
  | nv i => intro b h; cases b <;> simp [IT.beq] at h; rw [h]
  | bin o k a b iha ihb =>
    intro c h
    cases c <;> simp [IT.beq] at h
    obtain ⟨⟨⟨rfl, rfl⟩, h1⟩, h2⟩ := h
    rw [iha h1, ihb h2]
  | cv k a iha => intro c h; cases c <;> simp [IT.beq] at h; rw [h.1, iha h.2]
  | slen s => intro b h; cases b <;> simp [IT.beq] at h; rw [ST.beq_eq h]
  | nsub i n => intro b h; cases b <;> simp [IT.beq] at h; rw [h.1, h.2]
  | mx a b iha ihb => intro c h; cases c <;> simp [IT.beq] at h; rw [iha h.1, ihb h.2]
  | mn a b iha ihb => intro c h; cases c <;> simp [IT.beq] at h; rw [iha h.1, ihb h.2]
  | sel a s j i ih => intro c h; cases c <;> simp [IT.beq] at h; rw [h.1.1.1, h.1.1.2, h.1.2, ih h.2]
  | elem o s j i iho ih => intro c h; cases c <;> simp [IT.beq] at h; rw [iho h.1.1.1, h.1.1.2, h.1.2, ih h.2]
  | fn k a b iha ihb => intro c h; cases c <;> simp [IT.beq] at h; rw [h.1.1, iha h.1.2, ihb h.2]
  | un k a b iha ihb => intro c h; cases c <;> simp [IT.beq] at h; rw [h.1.1, iha h.1.2, ihb h.2]
  | scode s => intro b h; cases b <;> simp [IT.beq] at h; rw [ST.beq_eq h]
/-- A text as a number out of the names alone. -/
def ST.toP : ST → PT
  | .lit b => .lit (encS ⟨b.toArray⟩)
  | .var i => .sv i
  | .cat a b => .un 17 a.toP b.toP
  | .fn k a b => .sf k a b
  | .byt a => .un 18 a (.lit 0)
  | .dec c => .un 15 c (.lit 0)
  | .sub s a b => .un 16 s.toP (.un 1 a b)
theorem ST.toP_den {ρ : Env} : ∀ s : ST, s.toP.den ρ = encS (s.den ρ)
  | .lit b => rfl
  | .var i => rfl
  | .cat a b => by simp only [ST.toP, PT.den, ST.den, univ, ST.toP_den a, ST.toP_den b, decS_encS]
  | .fn k a b => rfl
  | .byt a => rfl
  | .dec c => rfl
  | .sub s a b => by simp only [ST.toP, PT.den, ST.den, univ, ST.toP_den s, decS_encS, decL_encL]; rfl
/-- A number that is out of the names alone, and always is. -/
def IT.toP : IT → Option PT
  | .lit n => some (.lit n)
  | .var i => some (.var i)
  | .sel a sz j i => i.toP.map (.sel a sz j)
  | .cv k a => a.toP.map (.cv k)
  | .fn k a b => match a.toP, b.toP with
    | some x, some y => some (.fn k x y)
    | _, _ => none
  | .un k a b => match a.toP, b.toP with
    | some x, some y => some (.un k x y)
    | _, _ => none
  | .elem o sz j i => match o.toP, i.toP with
    | some x, some y => some (.elem x sz j y)
    | _, _ => none
  | .bin .quo k a (.lit (.ofNat (n + 1))) => a.toP.map fun x => .bin .quo k x (.lit (.ofNat (n + 1)))
  | .bin .rem k a (.lit (.ofNat (n + 1))) => a.toP.map fun x => .bin .rem k x (.lit (.ofNat (n + 1)))
  | .bin .add k a b => match a.toP, b.toP with
    | some x, some y => some (.bin .add k x y)
    | _, _ => none
  | .bin .sub k a b => match a.toP, b.toP with
    | some x, some y => some (.bin .sub k x y)
    | _, _ => none
  | .bin .mul k a b => match a.toP, b.toP with
    | some x, some y => some (.bin .mul k x y)
    | _, _ => none
  | .scode s => some s.toP
  | _ => none
theorem IT.toP_den {ρ : Env} : ∀ {t : IT} {p : PT}, t.toP = some p → t.den ρ = some (p.den ρ) := by
  intro t
  induction t with
  | lit n => intro p h; cases h; rfl
  | var i => intro p h; cases h; rfl
  | sel a sz j i ih =>
    intro p h
    simp only [IT.toP] at h
    obtain ⟨q, hq, rfl⟩ := Option.map_eq_some_iff.1 h
    simp only [IT.den, ih hq, PT.den, Option.map_some]
  | cv k a ih =>
    intro p h
    simp only [IT.toP] at h
    obtain ⟨q, hq, rfl⟩ := Option.map_eq_some_iff.1 h
    simp only [IT.den, ih hq, PT.den, Option.map_some]
  | fn k a b iha ihb =>
    intro p h
    simp only [IT.toP] at h
    split at h
    · rename_i x y hx hy
      cases h
      simp only [IT.den, iha hx, ihb hy, PT.den]
    · cases h
  | un k a b iha ihb =>
    intro p h
    simp only [IT.toP] at h
    split at h
    · rename_i x y hx hy
      cases h
      simp only [IT.den, iha hx, ihb hy, PT.den]
    · cases h
  | elem o sz j i iho ih =>
    intro p h
    simp only [IT.toP] at h
    split at h
    · rename_i x y hx hy
      cases h
      simp only [IT.den, iho hx, ih hy, PT.den]
    · cases h
  | scode s => intro p h; cases h; simp only [IT.den, ST.toP_den]
  | bin op k a b iha ihb =>
    intro p h
    unfold IT.toP at h
    split at h
    all_goals first
      | (cases h; done)
      | (rename_i heq; cases heq; done)
      | skip
    all_goals rename_i heq
    all_goals cases heq
    all_goals first
      | (obtain ⟨q, hq, rfl⟩ := Option.map_eq_some_iff.1 h
         have hn : ∀ n : Nat, ¬ ((Int.ofNat (n + 1)) = 0) := fun n => by simp; omega
         simp only [IT.den, iha hq, PT.den, intBin]
         rw [if_neg (hn _)]
         rfl)
      | (split at h
         · rename_i x y hx hy
           cases h
           simp only [IT.den, iha hx, ihb hy, PT.den, intBin, Option.getD_some]
         · cases h)
      | (cases h; done)
  | _ => intro p h; simp [IT.toP] at h
def mkBin (op : BinOp) (k : IntKind) (a b : IT) : Option IT :=
  match a, b with
  | .lit x, .lit y => (intBinF op k x y).map IT.lit
  | a, .lit y => match op with
    | .quo | .rem => cond (iEq y 0) none (some (.bin op k a (.lit y)))
    | .shl | .shr => cond (iLt y 0) none (some (.bin op k a (.lit y)))
    | _ => cond (isArith op) (some (.bin op k a (.lit y))) none
  | a, b => match op with
    | .quo | .rem | .shl | .shr => none
    | _ => cond (isArith op) (some (.bin op k a b)) none
theorem mkBin_den {ρ : Env} {op : BinOp} {k : IntKind} {a b t : IT} {x y : Int} (h : mkBin op k a b = some t) (ha : a.den ρ = some x) (hb : b.den ρ = some y) :
    ∃ z, t.den ρ = some z ∧ intBin op k x y = some z := by
  unfold mkBin at h
  split at h
  · cases ha; cases hb
    rw [intBinF_eq] at h
    obtain ⟨z, hz, rfl⟩ := Option.map_eq_some_iff.1 h
    exact ⟨z, rfl, hz⟩
  · rename_i y' _
    obtain rfl : y' = y := Option.some.inj hb
    cases op <;> simp only [isArith, cond_true, cond_false, iEq_eq, iLt_eq] at h <;> first
      | (cases h; done)
      | (cases h; simp only [IT.den, ha, intBin]; exact ⟨_, rfl, rfl⟩)
      | (by_cases h0 : y' = 0
         · simp [h0] at h
         · simp only [h0, decide_false, cond_false, Option.some.injEq] at h; subst h; simp only [IT.den, ha, intBin, h0, if_false]; exact ⟨_, rfl, rfl⟩)
      | (by_cases h0 : y' < 0
         · simp [h0] at h
         · simp only [h0, decide_false, cond_false, Option.some.injEq] at h; subst h; simp only [IT.den, ha, intBin, h0, if_false]; exact ⟨_, rfl, rfl⟩)
  · cases op <;> simp only [isArith, cond_true, cond_false] at h <;> first
      | (cases h; done)
      | (cases h; simp only [IT.den, ha, hb, intBin]; exact ⟨_, rfl, rfl⟩)

def mkCv (k : IntKind) : IT → IT
  | .lit x => .lit (wrapF k x)
  | t => .cv k t
theorem mkCv_den {ρ : Env} {k : IntKind} {t : IT} {x : Int} (h : t.den ρ = some x) : (mkCv k t).den ρ = some (k.wrap x) := by
  unfold mkCv
  split
  · cases h; simp [IT.den, wrapF_eq]
  · simp [IT.den, h]

inductive BT where
  | lit (b : Bool)
  | var (i : Nat)
  | cmp (op : BinOp) (a b : IT)
  | not (b : BT)
  | seq (a b : ST)
  | and (a b : BT)
def BT.den (ρ : Env) : BT → Option Bool
  | .lit b => some b
  | .var i => some (ρ.B i)
  | .cmp op a b => match a.den ρ, b.den ρ with
    | some x, some y => intCmp op x y
    | _, _ => none
  | .not b => (b.den ρ).map (!·)
  | .seq a b => some ((a.den ρ).toList == (b.den ρ).toList)
  | .and a b => match a.den ρ, b.den ρ with
    | some x, some y => some (x && y)
    | _, _ => none
theorem BT.den_mono {ρ ρ' : Env} (h : ρ.Le ρ') : ∀ {t : BT} {x : Bool}, t.den ρ = some x → t.den ρ' = some x := by
  intro t
  induction t with
  | lit n => exact fun e => e
  | var i => intro x e; simp only [BT.den, h.b] at e ⊢; exact e
  | cmp op a b =>
    intro x e
    simp only [BT.den] at e ⊢
    cases ha : a.den ρ with
    | none => rw [ha] at e; cases e
    | some y =>
      cases hb : b.den ρ with
      | none => rw [ha, hb] at e; cases e
      | some z => rw [ha, hb] at e; rw [IT.den_mono h ha, IT.den_mono h hb]; exact e
  | not b ih =>
    intro x e
    simp only [BT.den] at e ⊢
    cases hb : b.den ρ with
    | none => rw [hb] at e; cases e
    | some z => rw [hb] at e; rw [ih hb]; exact e
  | seq a b => intro x e; simp only [BT.den, ST.den_mono h] at e ⊢; exact e
  | and a b iha ihb =>
    intro x e
    simp only [BT.den] at e ⊢
    cases ha : a.den ρ with
    | none => rw [ha] at e; cases e
    | some y =>
      cases hb : b.den ρ with
      | none => rw [ha, hb] at e; cases e
      | some z => rw [ha, hb] at e; rw [iha ha, ihb hb]; exact e
def mkAnd : BT → BT → BT
  | .lit true, b => b
  | .lit false, _ => .lit false
  | a, .lit true => a
  | _, .lit false => .lit false
  | a, b => .and a b
theorem mkAnd_den {ρ : Env} {a b : BT} {x y : Bool} (ha : a.den ρ = some x) (hb : b.den ρ = some y) : (mkAnd a b).den ρ = some (x && y) := by
  unfold mkAnd
  split
  · cases ha; simpa using hb
  · cases ha; rfl
  · cases hb; simpa using ha
  · cases hb; simp [BT.den]
  · simp [BT.den, ha, hb]

def mkCmp (op : BinOp) (a b : IT) : Option BT :=
  match a, b with
  | .lit x, .lit y => (intCmpF op x y).map BT.lit
  | a, b => match op with
    | .eql => cond (IT.beq a b) (some (.lit true)) (some (.cmp .eql a b))
    | .neq => cond (IT.beq a b) (some (.lit false)) (some (.cmp .neq a b))
    | .lss | .leq | .gtr | .geq => some (.cmp op a b)
    | _ => none
theorem mkCmp_den {ρ : Env} {op : BinOp} {a b : IT} {t : BT} {x y : Int} (h : mkCmp op a b = some t) (ha : a.den ρ = some x) (hb : b.den ρ = some y) :
    ∃ z, t.den ρ = some z ∧ intCmp op x y = some z := by
  unfold mkCmp at h
  split at h
  · cases ha; cases hb
    rw [intCmpF_eq] at h
    obtain ⟨z, hz, rfl⟩ := Option.map_eq_some_iff.1 h
    exact ⟨z, rfl, hz⟩
  · cases op <;> simp only at h <;> first
      | (cases h; done)
      | (cases h; simp only [BT.den, ha, hb, intCmp]; exact ⟨_, rfl, rfl⟩)
      | (cases hq : IT.beq a b with
         | true =>
           rw [hq] at h; cases h
           rw [IT.beq_eq hq] at ha
           rw [ha] at hb; cases hb
           simp [BT.den, intCmp]
         | false =>
           rw [hq] at h; cases h
           simp only [BT.den, ha, hb, intCmp]; exact ⟨_, rfl, rfl⟩)
def mkNot : BT → BT
  | .lit b => .lit (!b)
  | t => .not t
theorem mkNot_den {ρ : Env} {t : BT} {x : Bool} (h : t.den ρ = some x) : (mkNot t).den ρ = some (!x) := by
  unfold mkNot
  split
  · cases h; rfl
  · simp [BT.den, h]

inductive AVal where
  | bool (t : BT)
  | int (k : IntKind) (t : IT)
  | str (s : ST)
  | ptrNil
  | ptr (l : Nat) (off : IT)
  | sliceNil
  | slice (l : Nat) (off len cap : IT)
  | mapNil
  | map (l : Nat)
  | func (fn : Fn) (first captured : List AVal)
  | nilFunc
  | iface (t : TypeId) (v : AVal)
  | nilIface
  | agg (cs : List AVal)
  | tuple (vs : List AVal)
  | var (i : Nat)
  /-- what a loop over a function hands to that function -/
  | yld (l : Nat)

def natOf : Option Int → Option Nat
  | some (.ofNat n) => some n
  | _ => none
theorem natOf_some {o : Option Int} {n : Nat} (h : natOf o = some n) : o = some (n : Int) := by
  unfold natOf at h
  split at h
  · cases h; rfl
  · cases h

mutual
def AVal.den (ρ : Env) : AVal → Option Value
  | .bool t => (t.den ρ).map Value.bool
  | .int k t => (t.den ρ).map (Value.int k)
  | .str s => some (.string (s.den ρ))
  | .ptrNil => some (.pointer none)
  | .ptr l off => match ρ.N l, natOf (off.den ρ) with
    | some b, some o => some (.pointer (some ⟨b, o, none⟩))
    | _, _ => none
  | .sliceNil => some (.slice none 0 0)
  | .slice l off len cap => match ρ.N l, natOf (off.den ρ), natOf (len.den ρ), natOf (cap.den ρ) with
    | some b, some o, some n, some c => some (.slice (some ⟨b, o, none⟩) n c)
    | _, _, _, _ => none
  | .mapNil => some (.map none)
  | .map l => (ρ.N l).map fun b => .map (some b)
  | .func fn first captured => match AVal.denL ρ first, AVal.denL ρ captured with
    | some a, some b => some (.func fn a.toArray b.toArray)
    | _, _ => none
  | .nilFunc => some .nilFunc
  | .iface t v => (v.den ρ).map (Value.iface t)
  | .nilIface => some .nilIface
  | .agg cs => (AVal.denL ρ cs).map fun l => .agg l.toArray
  | .tuple vs => (AVal.denL ρ vs).map fun l => .tuple l.toArray
  | .var i => some (ρ.V i)
  | .yld l => (ρ.N l).map fun b => .func (.yield b) #[] #[]
def AVal.denL (ρ : Env) : List AVal → Option (List Value)
  | [] => some []
  | v :: r => match v.den ρ, AVal.denL ρ r with
    | some x, some l => some (x :: l)
    | _, _ => none
end

theorem natOf_mono {ρ ρ' : Env} (h : ρ.Le ρ') {t : IT} {n : Nat} (e : natOf (t.den ρ) = some n) : natOf (t.den ρ') = some n := by
  rw [IT.den_mono h (natOf_some e)]; rfl

mutual
theorem AVal.den_mono {ρ ρ' : Env} (h : ρ.Le ρ') : ∀ (v : AVal) {x : Value}, v.den ρ = some x → v.den ρ' = some x
  | .bool t, x, e => by
    simp only [AVal.den] at e ⊢
    obtain ⟨y, hy, rfl⟩ := Option.map_eq_some_iff.1 e
    rw [BT.den_mono h hy]; rfl
  | .int k t, x, e => by
    simp only [AVal.den] at e ⊢
    obtain ⟨y, hy, rfl⟩ := Option.map_eq_some_iff.1 e
    rw [IT.den_mono h hy]; rfl
  | .str s, x, e => by simp only [AVal.den, ST.den_mono h] at e ⊢; exact e
  | .ptrNil, x, e => e
  | .ptr l off, x, e => by
    simp only [AVal.den] at e ⊢
    split at e
    · rename_i b o hb ho
      rw [h.n l b hb, natOf_mono h ho]; exact e
    · cases e
  | .sliceNil, x, e => e
  | .slice l off len cap, x, e => by
    simp only [AVal.den] at e ⊢
    split at e
    · rename_i b o n c hb ho hn hc
      rw [h.n l b hb, natOf_mono h ho, natOf_mono h hn, natOf_mono h hc]; exact e
    · cases e
  | .mapNil, x, e => e
  | .map l, x, e => by
    simp only [AVal.den] at e ⊢
    obtain ⟨y, hy, rfl⟩ := Option.map_eq_some_iff.1 e
    rw [h.n l y hy]; rfl
  | .func fn first captured, x, e => by
    simp only [AVal.den] at e ⊢
    split at e
    · rename_i a b ha hb
      rw [AVal.denL_mono h first ha, AVal.denL_mono h captured hb]; exact e
    · cases e
  | .nilFunc, x, e => e
  | .iface t v, x, e => by
    simp only [AVal.den] at e ⊢
    obtain ⟨y, hy, rfl⟩ := Option.map_eq_some_iff.1 e
    rw [AVal.den_mono h v hy]; rfl
  | .nilIface, x, e => e
  | .agg cs, x, e => by
    simp only [AVal.den] at e ⊢
    obtain ⟨y, hy, rfl⟩ := Option.map_eq_some_iff.1 e
    rw [AVal.denL_mono h cs hy]; rfl
  | .tuple cs, x, e => by
    simp only [AVal.den] at e ⊢
    obtain ⟨y, hy, rfl⟩ := Option.map_eq_some_iff.1 e
    rw [AVal.denL_mono h cs hy]; rfl
  | .var i, x, e => by simp only [AVal.den, h.v] at e ⊢; exact e
  | .yld l, x, e => by
    simp only [AVal.den] at e ⊢
    obtain ⟨y, hy, rfl⟩ := Option.map_eq_some_iff.1 e
    rw [h.n l y hy]; rfl
theorem AVal.denL_mono {ρ ρ' : Env} (h : ρ.Le ρ') : ∀ (l : List AVal) {xs : List Value}, AVal.denL ρ l = some xs → AVal.denL ρ' l = some xs
  | [], xs, e => e
  | v :: r, xs, e => by
    simp only [AVal.denL] at e ⊢
    split at e
    · rename_i x l hx hl
      rw [AVal.den_mono h v hx, AVal.denL_mono h r hl]; exact e
    · cases e
end

theorem AVal.denL_length {ρ : Env} : ∀ {l : List AVal} {xs : List Value}, AVal.denL ρ l = some xs → xs.length = l.length
  | [], xs, e => by cases e; rfl
  | v :: r, xs, e => by
    simp only [AVal.denL] at e
    split at e
    · rename_i x l hx hl
      cases e; simp [AVal.denL_length hl]
    · cases e
theorem AVal.denL_get {ρ : Env} : ∀ {l : List AVal} {xs : List Value} {i : Nat} {v : AVal}, AVal.denL ρ l = some xs → l[i]? = some v → ∃ x, xs[i]? = some x ∧ v.den ρ = some x
  | [], xs, i, v, e, g => by cases g
  | u :: r, xs, i, v, e, g => by
    simp only [AVal.denL] at e
    split at e
    · rename_i x l hx hl
      cases e
      cases i with
      | zero => simp at g; subst g; exact ⟨x, rfl, hx⟩
      | succ i => simp at g; simpa using AVal.denL_get hl g
    · cases e
theorem AVal.denL_append {ρ : Env} : ∀ {l r : List AVal} {xs ys : List Value}, AVal.denL ρ l = some xs → AVal.denL ρ r = some ys → AVal.denL ρ (l ++ r) = some (xs ++ ys)
  | [], r, xs, ys, e, g => by cases e; simpa using g
  | u :: l, r, xs, ys, e, g => by
    simp only [AVal.denL] at e
    split at e
    · rename_i x l' hx hl
      cases e
      simp only [List.cons_append, AVal.denL, hx, AVal.denL_append hl g]
    · cases e
theorem AVal.denL_take {ρ : Env} : ∀ {l : List AVal} {xs : List Value} (n : Nat), AVal.denL ρ l = some xs → AVal.denL ρ (l.take n) = some (xs.take n)
  | [], xs, n, e => by cases e; simp [AVal.denL]
  | u :: l, xs, n, e => by
    simp only [AVal.denL] at e
    split at e
    · rename_i x l' hx hl
      cases e
      cases n with
      | zero => simp [AVal.denL]
      | succ n => simp only [List.take_succ_cons, AVal.denL, hx, AVal.denL_take n hl]
    · cases e
theorem AVal.denL_drop {ρ : Env} : ∀ {l : List AVal} {xs : List Value} (n : Nat), AVal.denL ρ l = some xs → AVal.denL ρ (l.drop n) = some (xs.drop n)
  | [], xs, n, e => by cases e; simp [AVal.denL]
  | u :: l, xs, n, e => by
    cases n with
    | zero => exact e
    | succ n =>
      simp only [AVal.denL] at e
      split at e
      · rename_i x l' hx hl
        cases e
        simpa using AVal.denL_drop n hl
      · cases e

end Go.Vm
end

/-
  A machine for abstract states over the model: families of objects that lie in many blocks (here: none).
-/
section
namespace Go.Vm

/-- An object of such a family, told by such a number, that begins in such a block and lies in these. -/
def fam (_ : Nat) (_ : Int) (_ : World) (_ : Nat) (_ : Nat → Prop) : Prop := False
theorem fam_local {k : Nat} {x : Int} {w w' : World} {b : Nat} {F : Nat → Prop} (h : fam k x w b F) (_ : ∀ y, F y → w'.heap[y]? = w.heap[y]?) : fam k x w' b F := h.elim
theorem fam_lt {k : Nat} {x : Int} {w : World} {b : Nat} {F : Nat → Prop} (h : fam k x w b F) {y : Nat} (_ : F y) : y < w.heap.size := h.elim
theorem fam_root {k : Nat} {x : Int} {w : World} {b : Nat} {F : Nat → Prop} (h : fam k x w b F) : F b := h.elim
end Go.Vm
end
