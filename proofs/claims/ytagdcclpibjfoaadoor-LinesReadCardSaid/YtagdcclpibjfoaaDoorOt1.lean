/-
  OpsTexts (1): words and numbers of texts, plainly.
-/
import Derived.Test.YtagdcclpibjfoaaDoorTx10
import Derived.Lib.AtoiAllCases
namespace Go.Proofs.YtagdcclpibjfoaaDoor
open Go.Vm
namespace Txt

-- WORDS
def wstep (ws : List (List UInt8)) (b : UInt8) : List (List UInt8) := if b = 32 then ws ++ [[]] else ws.set (ws.length - 1) (ws.getD (ws.length - 1) [] ++ [b])
def wordsOf (l : List UInt8) : List (List UInt8) := l.foldl wstep [[]]
theorem wordsTo_succ {l : List UInt8} {i : Nat} {b : UInt8} (h : l[i]? = some b) : wordsOf (l.take (i + 1)) = wstep (wordsOf (l.take i)) b := by
  unfold wordsOf
  rw [List.take_add_one, h, List.foldl_append]; rfl
theorem wstep_snoc (ls : List (List UInt8)) (w : List UInt8) (b : UInt8) : wstep (ls ++ [w]) b = if b = 32 then ls ++ [w] ++ [[]] else ls ++ [w ++ [b]] := by
  unfold wstep
  split
  · rfl
  · have h1 : (ls ++ [w]).length - 1 = ls.length := by simp
    rw [h1]
    have h2 : (ls ++ [w]).getD ls.length [] = w := by simp
    rw [h2]
    simp
theorem joinW_snoc : ∀ {ls : List (List UInt8)} (x : List UInt8), ls ≠ [] → joinW (ls ++ [x]) = joinW ls ++ (32 :: x)
  | [], _, h => absurd rfl h
  | [w], x, _ => rfl
  | w :: v :: ws, x, _ => by
    have ih := joinW_snoc (ls := v :: ws) x (by simp)
    show w ++ (32 :: joinW ((v :: ws) ++ [x])) = (w ++ (32 :: joinW (v :: ws))) ++ (32 :: x)
    rw [ih]; simp
structure WordsIn (ws : List (List UInt8)) (l : List UInt8) : Prop where
  ne : ws ≠ []
  no : ∀ x ∈ ws, (32 : UInt8) ∉ x
  join : joinW ws = l
  len : ws.length ≤ l.length + 1
theorem WordsIn.step {ws : List (List UInt8)} {l : List UInt8} (h : WordsIn ws l) (b : UInt8) : WordsIn (wstep ws b) (l ++ [b]) := by
  obtain ⟨ls, w, rfl⟩ : ∃ ls w, ws = ls ++ [w] := ⟨ws.dropLast, ws.getLast h.ne, (List.dropLast_concat_getLast h.ne).symm⟩
  rw [wstep_snoc]
  have hl := h.len
  simp only [List.length_append, List.length_cons, List.length_nil] at hl
  split
  · rename_i hb
    subst hb
    refine ⟨by simp, fun x hx => ?_, ?_, by simp; omega⟩
    · rcases List.mem_append.1 hx with hx | hx
      · exact h.no x hx
      · rw [List.mem_singleton.1 hx]; simp
    · rw [joinW_snoc _ (by simp), h.join]
  · rename_i hb
    refine ⟨by simp, fun x hx => ?_, ?_, by simp; omega⟩
    · rcases List.mem_append.1 hx with hx | hx
      · exact h.no x (List.mem_append_left _ hx)
      · rw [List.mem_singleton.1 hx]
        intro h1
        rcases List.mem_append.1 h1 with h1 | h1
        · exact h.no w (by simp) h1
        · exact hb (List.mem_singleton.1 h1).symm
    · rw [← h.join]
      cases ls with
      | nil => rfl
      | cons v vs =>
        rw [joinW_snoc _ (by simp), joinW_snoc _ (by simp)]; simp
theorem words_in (l : List UInt8) : WordsIn (wordsOf l) l := by
  have key : ∀ (l2 l1 : List UInt8) (ws : List (List UInt8)), WordsIn ws l1 → WordsIn (l2.foldl wstep ws) (l1 ++ l2) := by
    intro l2
    induction l2 with
    | nil => intro l1 ws h; simpa using h
    | cons b r ih =>
      intro l1 ws h
      have := ih _ _ (h.step b)
      simpa using this
  exact key l [] [[]] ⟨by simp, fun x hx => by rw [List.mem_singleton.1 hx]; simp, rfl, by simp⟩
/-- A row of texts as one number. -/
def encW (ws : List (List UInt8)) : Int := encL (ws.map fun w => encS (bytes w))
theorem bytes_list (b : ByteArray) : bytes b.data.toList = b := by
  apply ByteArray.ext
  show b.data.toList.toArray = b.data
  simp
theorem bytes_toList (l : List UInt8) : (bytes l).data.toList = l := by
  show l.toArray.toList = l
  simp
theorem bytes_size (l : List UInt8) : (bytes l).size = l.length := by show l.toArray.size = _; simp
theorem un4_enc (ws : List (List UInt8)) (y : Int) : univ 4 (encW ws) y = (ws.length : Int) := by
  show ((decL (encL (ws.map fun w => encS (bytes w)))).length : Int) = _
  rw [decL_encL]; simp
theorem un0_enc {ws : List (List UInt8)} {i : Nat} (h : i < ws.length) : univ 0 (encW ws) (i : Int) = encS (bytes (ws.getD i [])) := by
  show (decL (encL (ws.map fun w => encS (bytes w)))).getD (i : Int).toNat 0 = _
  rw [decL_encL, Int.toNat_natCast, List.getD_eq_getElem?_getD, List.getD_eq_getElem?_getD, List.getElem?_map, List.getElem?_eq_getElem h]
  rfl
theorem un3_enc (ws : List (List UInt8)) (w : List UInt8) : univ 3 (encW ws) (encS (bytes w)) = encW (ws ++ [w]) := by
  show encL (decL (encL (ws.map fun w => encS (bytes w))) ++ [encS (bytes w)]) = _
  rw [decL_encL]
  unfold encW
  rw [List.map_append]; rfl
theorem un2_enc (ws : List (List UInt8)) (i : Nat) (w : List UInt8) : univ 2 (encW ws) (univ 1 (i : Int) (encS (bytes w))) = encW (ws.set i w) := by
  show encL ((decL (encL (ws.map fun w => encS (bytes w)))).set ((decL (encL [(i : Int), encS (bytes w)])).getD 0 0).toNat ((decL (encL [(i : Int), encS (bytes w)])).getD 1 0)) = _
  rw [decL_encL, decL_encL]
  unfold encW
  rw [List.map_set]
  rfl
theorem strs_enc (ws : List (List UInt8)) : strsOf (encW ws) = ws.map fun w => Value.string (bytes w) := by
  unfold strsOf encW
  rw [decL_encL, List.map_map]
  apply List.map_congr_left
  intro w _
  simp
-- NUMBERS
def dig (b : UInt8) : Bool := decide (48 ≤ b.toNat ∧ b.toNat ≤ 57)
def dv (l : List UInt8) : Nat := l.foldl (fun n b => 10 * n + (b.toNat - 48)) 0
/-- The number of digits; -1: it is none. -/
def numL (l : List UInt8) : Int := if l = [] ∨ 9 < l.length ∨ (1 < l.length ∧ l.getD 0 0 = 48) ∨ l.all dig = false then -1 else (dv l : Int)
def atoiV (l : List UInt8) : Int × Bool := match Lib.atoiAll l with
  | .ok v => (v, true)
  | .range => (Lib.atoiSat l, false)
  | _ => (0, false)
/-- What ops.number answers beside. -/
def numZ (l : List UInt8) : Int := if 9 < l.length then 0 else (atoiV l).1
theorem dv_snoc (l : List UInt8) (b : UInt8) : dv (l ++ [b]) = 10 * dv l + (b.toNat - 48) := by
  unfold dv
  rw [List.foldl_append]; rfl
theorem dv_succ {l : List UInt8} {i : Nat} {b : UInt8} (h : l[i]? = some b) : dv (l.take (i + 1)) = 10 * dv (l.take i) + (b.toNat - 48) := by
  rw [List.take_add_one, h]; exact dv_snoc _ _
theorem all_succ {l : List UInt8} {i : Nat} {b : UInt8} (h : l[i]? = some b) : (l.take (i + 1)).all dig = ((l.take i).all dig && dig b) := by
  rw [List.take_add_one, h, List.all_append]; simp
theorem dig_ofNat {d : Nat} (h : d < 10) : dig (UInt8.ofNat (48 + d)) = true ∧ (UInt8.ofNat (48 + d)).toNat - 48 = d := by
  have : (UInt8.ofNat (48 + d)).toNat = 48 + d := by rw [UInt8.toNat_ofNat']; omega
  unfold dig
  rw [this]
  exact ⟨by simp; omega, by omega⟩
theorem ofNat_dig {b : UInt8} (h : dig b = true) : UInt8.ofNat (48 + (b.toNat - 48)) = b := by
  simp only [dig, decide_eq_true_eq] at h
  rw [show 48 + (b.toNat - 48) = b.toNat by omega]
  exact UInt8.ofNat_toNat
theorem rev_ind {P : List UInt8 → Prop} (h0 : P []) (h1 : ∀ l b, P l → P (l ++ [b])) (l : List UInt8) : P l := by
  have key : ∀ n, ∀ l : List UInt8, l.length = n → P l := by
    intro n
    induction n with
    | zero => intro l hl; rw [List.length_eq_zero_iff.1 hl]; exact h0
    | succ n ih =>
      intro l hl
      have hne : l ≠ [] := by intro e; rw [e] at hl; cases hl
      rw [← List.dropLast_concat_getLast hne]
      exact h1 _ _ (ih _ (by simp; omega))
  exact key _ l rfl
theorem dv_lt (l : List UInt8) : l.all dig = true → dv l < 10 ^ l.length := by
  refine rev_ind (P := fun l => l.all dig = true → dv l < 10 ^ l.length) (fun _ => by simp [dv]) (fun l b ih h => ?_) l
  rw [List.all_append] at h
  simp only [Bool.and_eq_true, List.all_cons, List.all_nil, and_true] at h
  have := ih h.1
  have hb := h.2
  simp only [dig, decide_eq_true_eq] at hb
  rw [dv_snoc, List.length_append, List.length_singleton, Nat.pow_succ]
  omega
/-- Digits whose first is no nought tell a number of just these digits. -/
theorem dec_dv (l : List UInt8) : l ≠ [] → l.all dig = true → (1 < l.length → l.getD 0 0 ≠ 48) → Lib.decDigits (dv l) = l := by
  refine rev_ind (P := fun l => l ≠ [] → l.all dig = true → (1 < l.length → l.getD 0 0 ≠ 48) → Lib.decDigits (dv l) = l) (fun h => absurd rfl h) (fun l b ih _ h h0 => ?_) l
  rw [List.all_append] at h
  simp only [Bool.and_eq_true, List.all_cons, List.all_nil, and_true] at h
  have hb := h.2
  simp only [dig, decide_eq_true_eq] at hb
  rw [dv_snoc]
  cases l with
  | nil =>
    have e : 10 * dv [] + (b.toNat - 48) = b.toNat - 48 := by simp [dv]
    rw [e, Lib.decDigits, dif_pos (by omega), ofNat_dig h.2]; rfl
  | cons a r =>
    have ha := h.1
    simp only [List.all_cons, Bool.and_eq_true] at ha
    have hhead : a ≠ 48 := by simpa using h0 (by simp)
    have hd := ih (by simp) h.1 (fun _ => by simpa using hhead)
    have hpos : 1 ≤ dv (a :: r) := by
      rcases Nat.eq_zero_or_pos (dv (a :: r)) with hz | hz
      · exfalso
        rw [hz, Lib.decDigits, dif_pos (by omega)] at hd
        have := (List.cons.inj hd).1
        exact hhead (this.symm.trans (by decide))
      · exact hz
    rw [Lib.decDigits, dif_neg (by omega), show (10 * dv (a :: r) + (b.toNat - 48)) / 10 = dv (a :: r) by omega, hd, show (10 * dv (a :: r) + (b.toNat - 48)) % 10 = b.toNat - 48 by omega, ofNat_dig h.2]
theorem dv_dec : ∀ u : Nat, dv (Lib.decDigits u) = u ∧ (Lib.decDigits u).all dig = true ∧ Lib.decDigits u ≠ [] ∧ (1 ≤ u → (Lib.decDigits u).getD 0 0 ≠ 48) ∧ (1 < (Lib.decDigits u).length → 10 ≤ u) := by
  intro u
  induction u using Nat.strongRecOn with
  | _ u ih =>
    rw [Lib.decDigits]
    by_cases h : u < 10
    · rw [dif_pos h]
      have hd := dig_ofNat h
      refine ⟨by simp only [dv, List.foldl_cons, List.foldl_nil]; omega, by rw [List.all_cons, hd.1]; rfl, by simp, fun h1 => ?_, by simp⟩
      have : (UInt8.ofNat (48 + u)).toNat = 48 + u := by rw [UInt8.toNat_ofNat']; omega
      intro e
      have e' : UInt8.ofNat (48 + u) = 48 := by simpa using e
      rw [e'] at this
      have h48 : (48 : UInt8).toNat = 48 := rfl
      omega
    · rw [dif_neg h]
      have hd := dig_ofNat (d := u % 10) (by omega)
      obtain ⟨h1, h2, h3, h4, _⟩ := ih (u / 10) (by omega)
      refine ⟨by rw [dv_snoc, h1]; omega, by rw [List.all_append, h2, List.all_cons, hd.1]; rfl, by simp, fun _ => ?_, fun _ => by omega⟩
      have := h4 (by omega)
      cases hl : Lib.decDigits (u / 10) with
      | nil => exact absurd hl h3
      | cons a r => rw [hl] at this; simpa using this
theorem numL_itoa {n : Int} (h : 0 ≤ n) (hl : (Lib.itoa n).length ≤ 9) : numL (Lib.itoa n) = n := by
  have e : Lib.itoa n = Lib.decDigits n.toNat := by unfold Lib.itoa; rw [if_neg (by omega)]
  rw [e] at hl ⊢
  obtain ⟨h1, h2, h3, h4, h5⟩ := dv_dec n.toNat
  unfold numL
  rw [if_neg, h1]
  · omega
  · rintro (h6 | h6 | ⟨h6, h7⟩ | h6)
    · exact h3 h6
    · omega
    · exact h4 (by have := h5 h6; omega) h7
    · rw [h2] at h6; cases h6
theorem parse_digs : ∀ (l : List UInt8) (acc k : Nat), acc < 10 ^ k → k + l.length ≤ 17 → l.all dig = true → Lib.parseUint10 acc l = .ok (l.foldl (fun n b => 10 * n + (b.toNat - 48)) acc)
  | [], acc, k, _, _, _ => rfl
  | b :: r, acc, k, ha, hk, h => by
    simp only [List.all_cons, Bool.and_eq_true] at h
    have hb := h.1
    simp only [dig, decide_eq_true_eq] at hb
    simp only [List.length_cons] at hk
    have h16 : 10 ^ k ≤ 10 ^ 16 := Nat.pow_le_pow_right (by decide) (by omega)
    have h16' : (10 : Nat) ^ 16 = 10000000000000000 := by decide
    have h17 : acc * 10 + (b.toNat - 48) < 10 ^ (k + 1) := by rw [Nat.pow_succ]; omega
    simp only [Lib.parseUint10]
    rw [if_pos hb, if_neg (by omega), if_neg (by omega), parse_digs r _ (k + 1) h17 (by omega) h.2, List.foldl_cons, Nat.mul_comm acc 10]
theorem numL_ok {l : List UInt8} (h : 0 ≤ numL l) : l ≠ [] ∧ l.length ≤ 9 ∧ l.all dig = true ∧ Lib.itoa (numL l) = l ∧ atoiV l = (numL l, true) ∧ numL l < 1000000000 := by
  unfold numL at h ⊢
  split at h
  · omega
  rename_i hc
  simp only [not_or, not_and, Nat.not_lt] at hc
  obtain ⟨h1, h2, h3, h4⟩ := hc
  have h4 : l.all dig = true := by simpa using h4
  rw [if_neg (by simp only [not_or, not_and, Nat.not_lt]; exact ⟨h1, h2, h3, by simp [h4]⟩)]
  have hd := dec_dv l h1 h4 h3
  have hlt := dv_lt l h4
  have hp9 : 10 ^ l.length ≤ 10 ^ 9 := Nat.pow_le_pow_right (by decide) h2
  have h9 : (10 : Nat) ^ 9 = 1000000000 := by decide
  refine ⟨h1, h2, h4, ?_, ?_, by omega⟩
  · unfold Lib.itoa
    rw [if_neg (by omega), Int.toNat_natCast, hd]
  · cases l with
    | nil => exact absurd rfl h1
    | cons c r =>
      have hc := h4
      simp only [List.all_cons, Bool.and_eq_true, dig, decide_eq_true_eq] at hc
      have hp : Lib.parseMag (c :: r) = .ok (dv (c :: r)) := by
        unfold Lib.parseMag
        rw [if_neg h1, parse_digs (c :: r) 0 1 (by decide) (by omega) h4]; rfl
      unfold atoiV
      rw [Lib.atoiAll_plain c r (by omega) (by omega), hp]
      simp only [Lib.signless]
      rw [if_neg (by omega)]
/-- When the library reads a number of at most nine bytes that is told so again. -/
theorem num_iff {l : List UInt8} (hl : l.length ≤ 9) : ((atoiV l).2 = true ∧ 0 ≤ (atoiV l).1 ∧ Lib.itoa (atoiV l).1 = l) ↔ 0 ≤ numL l := by
  constructor
  · rintro ⟨h1, h2, h3⟩
    have := numL_itoa h2 (by rw [h3]; exact hl)
    rw [h3] at this
    omega
  · intro h
    obtain ⟨h1, h2, h3, h4, h5, _⟩ := numL_ok h
    rw [h5]
    exact ⟨rfl, h, h4⟩
theorem numZ_ok {l : List UInt8} (h : 0 ≤ numL l) : numZ l = numL l := by
  obtain ⟨_, h2, _, _, h5, _⟩ := numL_ok h
  unfold numZ
  rw [if_neg (by omega), h5]
theorem atoiV_rng (l : List UInt8) : -9223372036854775808 ≤ (atoiV l).1 ∧ (atoiV l).1 < 9223372036854775808 := by
  unfold atoiV
  split
  · rename_i v h
    have := Lib.atoiAll_bounds h
    simp only; omega
  · have := Lib.atoiSat_bounds l
    simp only; omega
  · simp
end Txt
end Go.Proofs.YtagdcclpibjfoaaDoor
