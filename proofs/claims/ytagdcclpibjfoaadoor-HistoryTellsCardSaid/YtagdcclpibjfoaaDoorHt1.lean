/-
  HistoryTells (1): what rows of records come to, plainly; names for texts.
-/
import Derived.Test.YtagdcclpibjfoaaDoorTx7
import Derived.Test.YtagdcclpibjfoaaDoorHw1
import Derived.Test.YtagdcclpibjfoaaDoorRw
namespace Go.Proofs.YtagdcclpibjfoaaDoor
open Go.Vm Txt

-- NAMES FOR TEXTS
open Classical in
/-- Texts: those under a function's name, and the others. -/
noncomputable def SxF (f : Nat → Int → Int → List UInt8) (g : Nat → ByteArray) : Nat → ByteArray := fun n => if h : ∃ q : Nat × Int × Int, n = codN q.1 q.2.1 q.2.2 then ⟨(f h.choose.1 h.choose.2.1 h.choose.2.2).toArray⟩ else g n
theorem SxF_cod (f : Nat → Int → Int → List UInt8) (g : Nat → ByteArray) (k : Nat) (x y : Int) : SxF f g (codN k x y) = ⟨(f k x y).toArray⟩ := by
  have h : ∃ q : Nat × Int × Int, codN k x y = codN q.1 q.2.1 q.2.2 := ⟨(k, x, y), rfl⟩
  unfold SxF
  rw [dif_pos h]
  obtain ⟨h1, h2, h3⟩ := codN_inj h.choose_spec
  rw [← h1, ← h2, ← h3]
theorem SxF_lo (f : Nat → Int → Int → List UInt8) (g : Nat → ByteArray) {n : Nat} (hn : n < 1000000) : SxF f g n = g n := by
  have h : ¬ ∃ q : Nat × Int × Int, n = codN q.1 q.2.1 q.2.2 := fun ⟨q, hq⟩ => by unfold codN at hq; omega
  unfold SxF
  rw [dif_neg h]
theorem fn_denF {ρ : Env} {k : Nat} {p q : PT} {x y : Int} {l : List UInt8} (hp : p.den ρ = x) (hq : q.den ρ = y) (hS : ρ.S (codN k x y) = ⟨l.toArray⟩) (hl : l.length ≤ 1000000) : (ST.fn k p q).den ρ = ⟨l.toArray⟩ := by
  simp only [ST.den, hp, hq, hS]
  exact cutM_eq (by show l.toArray.size ≤ _; simpa using hl)

-- RECORDS
def recAt (v : Value) (i : Nat) : Nat → Int := fun j => selI v (i * 16 + j)
def rtext (v : Value) (i : Nat) : List UInt8 := recText (recAt v i)
def joinT (v : Value) : Nat → List UInt8
  | 0 => []
  | i + 1 => joinT v i ++ (rtext v i ++ [10])
def invs (v : Value) : Nat → List Int
  | 0 => []
  | i + 1 => if selI v (i * 16 + 1) = 2 then invs v i ++ [(i : Int)] else invs v i
def longR (v : Value) (kind : Int) : Nat → Int
  | 0 => 0
  | i + 1 => if selI v (i * 16 + 1) = kind ∧ 0 ≤ selI v (i * 16 + 8) then mx2 (longR v kind i) (selI v (i * 16 + 12)) else longR v kind i
def RecIn (v : Value) : Prop := ∀ i j, j < 15 → InI (selI v (i * 16 + j))
theorem recText_len {f : Nat → Int} (h : ∀ j, j < 15 → InI (f j)) : 1 ≤ (recText f).length ∧ (recText f).length ≤ 400 := by
  have hi : ∀ j, j < 15 → (Lib.itoa (f j)).length ≤ 20 := fun j hj => itoa_len (h j hj).1 (h j hj).2
  have h0 := hi 0 (by decide)
  have h6 := hi 6 (by decide)
  have h7 := hi 7 (by decide)
  have h8 := hi 8 (by decide)
  have h11 := hi 11 (by decide)
  have h12 := hi 12 (by decide)
  have ho := opTextR_len (c := f 2) (k := f 3) (a := f 4) (b := f 5)
  have hr := respTextR_len (k := f 9) (v := f 10)
  have hh : (recHead f).length ≤ 120 := by
    unfold recHead
    split
    · simp
    · split
      · simp; omega
      · split
        · simp
        · simp; omega
  have ht : (recTail f).length ≤ 200 := by
    unfold recTail
    split
    · simp; omega
    · split
      · simp; omega
      · split
        · simp; omega
        · simp; omega
  unfold recText
  split
  · simp; omega
  · simp
theorem rtext_len {v : Value} (h : RecIn v) (i : Nat) : 1 ≤ (rtext v i).length ∧ (rtext v i).length ≤ 400 := recText_len fun j hj => h i j hj
theorem joinT_len {v : Value} (h : RecIn v) : ∀ i : Nat, i ≤ (joinT v i).length ∧ (joinT v i).length ≤ 401 * i
  | 0 => by simp [joinT]
  | i + 1 => by
    have h1 := joinT_len h i
    have h2 := rtext_len h i
    simp only [joinT, List.length_append, List.length_cons, List.length_nil]
    omega
theorem invs_len (v : Value) : ∀ i : Nat, (invs v i).length ≤ i
  | 0 => by simp [invs]
  | i + 1 => by
    have := invs_len v i
    simp only [invs]
    split
    · simp; omega
    · omega
theorem invs_mono (v : Value) {i n : Nat} (h : i ≤ n) : (invs v i).length ≤ (invs v n).length := by
  induction n with
  | zero => rw [show i = 0 by omega]; exact Nat.le_refl _
  | succ n ih =>
    rcases Nat.lt_or_ge n i with h1 | h1
    · rw [show i = n + 1 by omega]; exact Nat.le_refl _
    · have := ih h1
      simp only [invs]
      split
      · simp; omega
      · exact this
theorem longR_nonneg (v : Value) (kind : Int) : ∀ i : Nat, 0 ≤ longR v kind i
  | 0 => by simp [longR]
  | i + 1 => by
    have := longR_nonneg v kind i
    simp only [longR, mx2]
    split
    · split <;> omega
    · exact this
end Go.Proofs.YtagdcclpibjfoaaDoor
