/-
  Lines (1): events as text, plainly: what is told is read, by both readers alike.
-/
import Derived.Test.YtagdcclpibjfoaaDoorOt7
import Derived.Test.YtagdcclpibjfoaaDoorLk7
section
namespace Go.Proofs.YtagdcclpibjfoaaDoor
open Go.Vm
namespace Txt

theorem itoa_blank' (n : Int) : (32 : UInt8) ∉ Lib.itoa n := by
  by_cases h : 0 ≤ n
  · exact itoa_blank h
  · unfold Lib.itoa
    rw [if_pos (by omega)]
    intro hb
    rcases List.mem_cons.1 hb with h1 | h1
    · exact absurd h1 (by decide)
    · have := decDigits_dig _ _ h1
      simp at this
def opName (c : Nat) : List UInt8 := match c with
  | 0 => [110, 111, 110, 101]
  | 1 => [101, 110, 113, 117, 101, 117, 101]
  | 2 => [100, 101, 113, 117, 101, 117, 101]
  | 3 => [108, 101, 110, 103, 116, 104]
  | 4 => [103, 101, 116]
  | 5 => [112, 117, 116]
  | 6 => [100, 101, 108, 101, 116, 101]
  | 7 => [115, 119, 97, 112]
  | 8 => [115, 105, 122, 101]
  | 9 => [102, 108, 111, 111, 114]
  | 10 => [115, 101, 116]
  | 11 => [97, 99, 113, 117, 105, 114, 101]
  | 12 => [114, 101, 108, 101, 97, 115, 101]
  | 13 => [118, 97, 108, 117, 101]
  | 14 => [100, 114, 111, 112]
  | _ => []
def opWords (c : Nat) (k a b : Int) : List (List UInt8) := match c with
  | 0 => [opName 0]
  | 1 => [opName 1, Lib.itoa a]
  | 2 => [opName 2]
  | 3 => [opName 3]
  | 4 => [opName 4, Lib.itoa k]
  | 5 => [opName 5, Lib.itoa k, Lib.itoa a]
  | 6 => [opName 6, Lib.itoa k]
  | 7 => [opName 7, Lib.itoa k, Lib.itoa a, Lib.itoa b]
  | 8 => [opName 8]
  | 9 => [opName 9, Lib.itoa k]
  | 10 => [opName 10, Lib.itoa k, Lib.itoa a]
  | 11 => [opName 11, Lib.itoa k]
  | 12 => [opName 12, Lib.itoa k]
  | 13 => [opName 13, Lib.itoa k]
  | 14 => [opName 14, Lib.itoa k]
  | _ => []
theorem opText_join (c : Nat) (k a b : Int) : opText c k a b = joinW (opWords c k a b) := by
  unfold opText opWords
  split <;> simp [joinW, opName]
theorem opWords_blank (c : Nat) (k a b : Int) : ∀ x ∈ opWords c k a b, (32 : UInt8) ∉ x := by
  intro x hx
  have hi := fun n => itoa_blank' n
  unfold opWords at hx
  split at hx <;> simp only [List.mem_cons, List.not_mem_nil, or_false] at hx <;> rcases hx with rfl | rfl | rfl | rfl <;> first | exact hi _ | (unfold opName; decide)
theorem bytes_inj {a b : List UInt8} (h : bytes a = bytes b) : a = b := by
  have := congrArg (fun x : ByteArray => x.data.toList) h
  simpa [bytes] using this
theorem join_inj {a b : List (List UInt8)} (ha : a ≠ []) (hb : b ≠ []) (h1 : ∀ x ∈ a, (32 : UInt8) ∉ x) (h2 : ∀ x ∈ b, (32 : UInt8) ∉ x) (h : joinW a = joinW b) : a = b := by
  have s1 := split_join ha h1
  have s2 := split_join hb h2
  have c1 := count_join h1
  have c2 := count_join h2
  rw [h] at s1 c1
  rw [← c1] at s1
  rw [← c2] at s2
  have := s1.symm.trans s2
  have inj : ∀ {x y : List (List UInt8)}, x.map bytes = y.map bytes → x = y := by
    intro x
    induction x with
    | nil => intro y h; cases y <;> simp at h; rfl
    | cons p x ih =>
      intro y h
      cases y with
      | nil => simp at h
      | cons q y =>
        simp only [List.map_cons, List.cons.injEq] at h
        rw [bytes_inj h.1, ih h.2]
  exact inj this
-- WORDS, TOLD AND READ
theorem words_join {ws : List (List UInt8)} (h : ws ≠ []) (hb : ∀ x ∈ ws, (32 : UInt8) ∉ x) : wordsOf (joinW ws) = ws := by
  have hw := words_in (joinW ws)
  exact join_inj hw.ne h hw.no hb hw.join
theorem itoa_num {w : List UInt8} (h : 0 ≤ numL w) : Lib.itoa (numL w) = w := (numL_ok h).2.2.2.1
theorem num_itoa {n : Int} (h : 0 ≤ n) (h2 : n < 1000000000) : numL (Lib.itoa n) = n := numL_itoa h (itoa_len9 h h2)
theorem name_at {w : List UInt8} (h : codeOf w < 15) : opName (codeOf w) = w := by
  have h2 : nmL.idxOf w < nmL.length := h
  have h3 := List.getElem_idxOf h2
  have key : ∀ c, c < 15 → ∀ (hc : c < nmL.length), opName c = nmL[c] := by decide
  exact (key _ h h2).trans h3
theorem len1 {ws : List (List UInt8)} (h : ws.length = 1) : ws = [ws.getD 0 []] := by
  match ws, h with
  | [x], _ => rfl
theorem len2 {ws : List (List UInt8)} (h : ws.length = 2) : ws = [ws.getD 0 [], ws.getD 1 []] := by
  match ws, h with
  | [x, y], _ => rfl
theorem len3 {ws : List (List UInt8)} (h : ws.length = 3) : ws = [ws.getD 0 [], ws.getD 1 [], ws.getD 2 []] := by
  match ws, h with
  | [x, y, z], _ => rfl
theorem len4 {ws : List (List UInt8)} (h : ws.length = 4) : ws = [ws.getD 0 [], ws.getD 1 [], ws.getD 2 [], ws.getD 3 []] := by
  match ws, h with
  | [x, y, z, u], _ => rfl
theorem par_words {ws : List (List UInt8)} (h : parOk ws = true) : opWords (codeOf (ws.getD 0 [])) (parK (codeOf (ws.getD 0 [])) ws) (parA (codeOf (ws.getD 0 [])) ws) (parB (codeOf (ws.getD 0 [])) ws) = ws ∧ rightB (codeOf (ws.getD 0 [])) (parK (codeOf (ws.getD 0 [])) ws) (parA (codeOf (ws.getD 0 [])) ws) (parB (codeOf (ws.getD 0 [])) ws) = true := by
  unfold parOk at h
  simp only [Bool.and_eq_true, decide_eq_true_eq] at h
  obtain ⟨⟨h1, h2⟩, h3⟩ := h
  refine ⟨?_, h3⟩
  have hn := name_at h1
  generalize codeOf (ws.getD 0 []) = c at h1 h2 h3 hn ⊢
  simp only [rightB, decide_eq_true_eq] at h3
  rcases (show c = 0 ∨ c = 1 ∨ c = 2 ∨ c = 3 ∨ c = 4 ∨ c = 5 ∨ c = 6 ∨ c = 7 ∨ c = 8 ∨ c = 9 ∨ c = 10 ∨ c = 11 ∨ c = 12 ∨ c = 13 ∨ c = 14 by omega) with rfl | rfl | rfl | rfl | rfl | rfl | rfl | rfl | rfl | rfl | rfl | rfl | rfl | rfl | rfl
  · have hl : ws.length = 1 := h2
    refine Eq.trans ?_ (len1 hl).symm
    show [opName 0] = _
    rw [hn]
  · have hl : ws.length = 2 := h2
    have e1 : parA 1 ws = numL (ws.getD 1 []) := rfl
    refine Eq.trans ?_ (len2 hl).symm
    show [opName 1, Lib.itoa (parA 1 ws)] = _
    rw [hn, e1, itoa_num (by omega)]
  · have hl : ws.length = 1 := h2
    refine Eq.trans ?_ (len1 hl).symm
    show [opName 2] = _
    rw [hn]
  · have hl : ws.length = 1 := h2
    refine Eq.trans ?_ (len1 hl).symm
    show [opName 3] = _
    rw [hn]
  · have hl : ws.length = 2 := h2
    have e1 : parK 4 ws = numL (ws.getD 1 []) := rfl
    refine Eq.trans ?_ (len2 hl).symm
    show [opName 4, Lib.itoa (parK 4 ws)] = _
    rw [hn, e1, itoa_num (by omega)]
  · have hl : ws.length = 3 := h2
    have e1 : parK 5 ws = numL (ws.getD 1 []) := rfl
    have e2 : parA 5 ws = numL (ws.getD 2 []) := rfl
    refine Eq.trans ?_ (len3 hl).symm
    show [opName 5, Lib.itoa (parK 5 ws), Lib.itoa (parA 5 ws)] = _
    rw [hn, e1, itoa_num (by omega), e2, itoa_num (by omega)]
  · have hl : ws.length = 2 := h2
    have e1 : parK 6 ws = numL (ws.getD 1 []) := rfl
    refine Eq.trans ?_ (len2 hl).symm
    show [opName 6, Lib.itoa (parK 6 ws)] = _
    rw [hn, e1, itoa_num (by omega)]
  · have hl : ws.length = 4 := h2
    have e1 : parK 7 ws = numL (ws.getD 1 []) := rfl
    have e2 : parA 7 ws = numL (ws.getD 2 []) := rfl
    have e3 : parB 7 ws = numL (ws.getD 3 []) := rfl
    refine Eq.trans ?_ (len4 hl).symm
    show [opName 7, Lib.itoa (parK 7 ws), Lib.itoa (parA 7 ws), Lib.itoa (parB 7 ws)] = _
    rw [hn, e1, itoa_num (by omega), e2, itoa_num (by omega), e3, itoa_num (by omega)]
  · have hl : ws.length = 1 := h2
    refine Eq.trans ?_ (len1 hl).symm
    show [opName 8] = _
    rw [hn]
  · have hl : ws.length = 2 := h2
    have e1 : parK 9 ws = numL (ws.getD 1 []) := rfl
    refine Eq.trans ?_ (len2 hl).symm
    show [opName 9, Lib.itoa (parK 9 ws)] = _
    rw [hn, e1, itoa_num (by omega)]
  · have hl : ws.length = 3 := h2
    have e1 : parK 10 ws = numL (ws.getD 1 []) := rfl
    have e2 : parA 10 ws = numL (ws.getD 2 []) := rfl
    refine Eq.trans ?_ (len3 hl).symm
    show [opName 10, Lib.itoa (parK 10 ws), Lib.itoa (parA 10 ws)] = _
    rw [hn, e1, itoa_num (by omega), e2, itoa_num (by omega)]
  · have hl : ws.length = 2 := h2
    have e1 : parK 11 ws = numL (ws.getD 1 []) := rfl
    refine Eq.trans ?_ (len2 hl).symm
    show [opName 11, Lib.itoa (parK 11 ws)] = _
    rw [hn, e1, itoa_num (by omega)]
  · have hl : ws.length = 2 := h2
    have e1 : parK 12 ws = numL (ws.getD 1 []) := rfl
    refine Eq.trans ?_ (len2 hl).symm
    show [opName 12, Lib.itoa (parK 12 ws)] = _
    rw [hn, e1, itoa_num (by omega)]
  · have hl : ws.length = 2 := h2
    have e1 : parK 13 ws = numL (ws.getD 1 []) := rfl
    refine Eq.trans ?_ (len2 hl).symm
    show [opName 13, Lib.itoa (parK 13 ws)] = _
    rw [hn, e1, itoa_num (by omega)]
  · have hl : ws.length = 2 := h2
    have e1 : parK 14 ws = numL (ws.getD 1 []) := rfl
    refine Eq.trans ?_ (len2 hl).symm
    show [opName 14, Lib.itoa (parK 14 ws)] = _
    rw [hn, e1, itoa_num (by omega)]
theorem codeOf_name : ∀ c, c < 15 → codeOf (opName c) = c := by decide
theorem words_par {c k a b : Int} (h : rightB c k a b = true) : parOk (opWords c.toNat k a b) = true ∧ (codeOf ((opWords c.toNat k a b).getD 0 []) : Int) = c ∧ parK (codeOf ((opWords c.toNat k a b).getD 0 [])) (opWords c.toNat k a b) = k ∧ parA (codeOf ((opWords c.toNat k a b).getD 0 [])) (opWords c.toNat k a b) = a ∧ parB (codeOf ((opWords c.toNat k a b).getD 0 [])) (opWords c.toNat k a b) = b := by
  have hd := h
  simp only [rightB, decide_eq_true_eq] at hd
  obtain ⟨j, rfl⟩ := Int.eq_ofNat_of_zero_le hd.1
  simp only [Int.toNat_natCast]
  have key : ∀ ws : List (List UInt8), codeOf (ws.getD 0 []) = j → ws.length = parN j → parK j ws = k → parA j ws = a → parB j ws = b → parOk ws = true ∧ (codeOf (ws.getD 0 []) : Int) = j ∧ parK (codeOf (ws.getD 0 [])) ws = k ∧ parA (codeOf (ws.getD 0 [])) ws = a ∧ parB (codeOf (ws.getD 0 [])) ws = b := fun ws h1 h2 h3 h4 h5 => by
    refine ⟨?_, by rw [h1], by rw [h1, h3], by rw [h1, h4], by rw [h1, h5]⟩
    unfold parOk
    rw [h1, h3, h4, h5, h, decide_eq_true (show j < 15 by omega), decide_eq_true h2]; rfl
  rcases (show j = 0 ∨ j = 1 ∨ j = 2 ∨ j = 3 ∨ j = 4 ∨ j = 5 ∨ j = 6 ∨ j = 7 ∨ j = 8 ∨ j = 9 ∨ j = 10 ∨ j = 11 ∨ j = 12 ∨ j = 13 ∨ j = 14 by omega) with rfl | rfl | rfl | rfl | rfl | rfl | rfl | rfl | rfl | rfl | rfl | rfl | rfl | rfl | rfl
  · exact key _ (codeOf_name 0 (by decide)) rfl (show (0 : Int) = k by omega) (show (0 : Int) = a by omega) (show (0 : Int) = b by omega)
  · exact key _ (codeOf_name 1 (by decide)) rfl (show (0 : Int) = k by omega) (num_itoa (by omega) (by omega)) (show (0 : Int) = b by omega)
  · exact key _ (codeOf_name 2 (by decide)) rfl (show (0 : Int) = k by omega) (show (0 : Int) = a by omega) (show (0 : Int) = b by omega)
  · exact key _ (codeOf_name 3 (by decide)) rfl (show (0 : Int) = k by omega) (show (0 : Int) = a by omega) (show (0 : Int) = b by omega)
  · exact key _ (codeOf_name 4 (by decide)) rfl (num_itoa (by omega) (by omega)) (show (0 : Int) = a by omega) (show (0 : Int) = b by omega)
  · exact key _ (codeOf_name 5 (by decide)) rfl (num_itoa (by omega) (by omega)) (num_itoa (by omega) (by omega)) (show (0 : Int) = b by omega)
  · exact key _ (codeOf_name 6 (by decide)) rfl (num_itoa (by omega) (by omega)) (show (0 : Int) = a by omega) (show (0 : Int) = b by omega)
  · exact key _ (codeOf_name 7 (by decide)) rfl (num_itoa (by omega) (by omega)) (num_itoa (by omega) (by omega)) (num_itoa (by omega) (by omega))
  · exact key _ (codeOf_name 8 (by decide)) rfl (show (0 : Int) = k by omega) (show (0 : Int) = a by omega) (show (0 : Int) = b by omega)
  · exact key _ (codeOf_name 9 (by decide)) rfl (num_itoa (by omega) (by omega)) (show (0 : Int) = a by omega) (show (0 : Int) = b by omega)
  · exact key _ (codeOf_name 10 (by decide)) rfl (num_itoa (by omega) (by omega)) (num_itoa (by omega) (by omega)) (show (0 : Int) = b by omega)
  · exact key _ (codeOf_name 11 (by decide)) rfl (num_itoa (by omega) (by omega)) (show (0 : Int) = a by omega) (show (0 : Int) = b by omega)
  · exact key _ (codeOf_name 12 (by decide)) rfl (num_itoa (by omega) (by omega)) (show (0 : Int) = a by omega) (show (0 : Int) = b by omega)
  · exact key _ (codeOf_name 13 (by decide)) rfl (num_itoa (by omega) (by omega)) (show (0 : Int) = a by omega) (show (0 : Int) = b by omega)
  · exact key _ (codeOf_name 14 (by decide)) rfl (num_itoa (by omega) (by omega)) (show (0 : Int) = a by omega) (show (0 : Int) = b by omega)
-- EVENTS
structure Evt where
  k : Int
  w : Int
  o : Int
  n : Int
  c : Int
  y : Int
  a : Int
  b : Int
def Evt.z : Evt := ⟨0, 0, 0, 0, 0, 0, 0, 0⟩
def evB (e : Evt) : Bool := decide (0 ≤ e.w ∧ e.w < 64 ∧ ((e.k = 1 ∧ rightB e.c e.y e.a e.b = true ∧ e.c ≠ 0 ∧ e.o = 0 ∧ e.n = 0) ∨ (e.k = 4 ∧ 0 ≤ e.o ∧ e.o < 64 ∧ e.n = 0 ∧ e.c = 0 ∧ e.y = 0 ∧ e.a = 0 ∧ e.b = 0) ∨
  (e.k = 5 ∧ 1 ≤ e.n ∧ e.n ≤ 1000 ∧ e.o = 0 ∧ e.c = 0 ∧ e.y = 0 ∧ e.a = 0 ∧ e.b = 0) ∨ ((e.k = 0 ∨ e.k = 2 ∨ e.k = 3) ∧ e.o = 0 ∧ e.n = 0 ∧ e.c = 0 ∧ e.y = 0 ∧ e.a = 0 ∧ e.b = 0)))
def evK : List (List UInt8) := [[106, 111, 105, 110], [105, 110, 118, 111, 107, 101], [108, 101, 97, 118, 101], [115, 116, 97, 108, 108], [97, 100, 111, 112, 116], [112, 105, 99, 107]]
def evTail (e : Evt) : List (List UInt8) := if e.k = 1 then opWords e.c.toNat e.y e.a e.b else if e.k = 4 then [Lib.itoa e.o] else if e.k = 5 then [Lib.itoa e.n] else []
def evWords (e : Evt) : List (List UInt8) := evK.getD e.k.toNat [] :: Lib.itoa e.w :: evTail e
def evText (e : Evt) : List UInt8 := if evB e = true then joinW (evWords e) else []
def kidx (w : List UInt8) : Int := if evK.idxOf w < 6 then (evK.idxOf w : Int) else -1
def pqC (ws : List (List UInt8)) : Int := if parOk ws = true then (codeOf (ws.getD 0 []) : Int) else 0
def pqK (ws : List (List UInt8)) : Int := if parOk ws = true then parK (codeOf (ws.getD 0 [])) ws else 0
def pqA (ws : List (List UInt8)) : Int := if parOk ws = true then parA (codeOf (ws.getD 0 [])) ws else 0
def pqB (ws : List (List UInt8)) : Int := if parOk ws = true then parB (codeOf (ws.getD 0 [])) ws else 0
/-- What the program guesses a text to be. -/
def guess (l : List UInt8) : Evt :=
  let ws := wordsOf l
  let k := kidx (ws.getD 0 [])
  let m := joinW (ws.drop 2)
  ⟨k, (atoiV (ws.getD 1 [])).1, if k = 4 then (atoiV m).1 else 0, if k = 5 then (atoiV m).1 else 0, if k = 1 then pqC (wordsOf m) else 0, if k = 1 then pqK (wordsOf m) else 0, if k = 1 then pqA (wordsOf m) else 0, if k = 1 then pqB (wordsOf m) else 0⟩
def linOk (l : List UInt8) : Prop := l ≠ [] ∧ evText (guess l) = l
/-- What the reference reads. -/
def refE (ws : List (List UInt8)) : Evt :=
  let k := kidx (ws.getD 0 [])
  let m := joinW (ws.drop 2)
  ⟨k, numL (ws.getD 1 []), if k = 4 then numL (ws.getD 2 []) else 0, if k = 5 then numL (ws.getD 2 []) else 0, if k = 1 then pqC (wordsOf m) else 0, if k = 1 then pqK (wordsOf m) else 0, if k = 1 then pqA (wordsOf m) else 0, if k = 1 then pqB (wordsOf m) else 0⟩
def refOk (ws : List (List UInt8)) : Prop := 2 ≤ ws.length ∧ (kidx (ws.getD 0 []) = 1 → parOk (wordsOf (joinW (ws.drop 2))) = true) ∧ (3 < kidx (ws.getD 0 []) → ws.length = 3) ∧ (kidx (ws.getD 0 []) ≠ 1 → kidx (ws.getD 0 []) < 4 → ws.length = 2) ∧ evB (refE ws) = true
theorem kname {w : List UInt8} (h : 0 ≤ kidx w) : evK.getD (kidx w).toNat [] = w := by
  unfold kidx at h ⊢
  split at h
  · rename_i h6
    rw [if_pos h6, Int.toNat_natCast]
    have h2 : evK.idxOf w < evK.length := h6
    rw [List.getD_eq_getElem?_getD, List.getElem?_eq_getElem h2]
    exact List.getElem_idxOf h2
  · omega
theorem kidx_name : ∀ k, k < 6 → kidx (evK.getD k []) = k := by decide
theorem evK_blank : ∀ k, k < 6 → (32 : UInt8) ∉ evK.getD k [] := by decide
theorem evWords_blank {e : Evt} (h : 0 ≤ e.k ∧ e.k ≤ 5) : ∀ x ∈ evWords e, (32 : UInt8) ∉ x := by
  intro x hx
  unfold evWords at hx
  rcases List.mem_cons.1 hx with rfl | hx
  · exact evK_blank _ (by omega)
  rcases List.mem_cons.1 hx with rfl | hx
  · exact itoa_blank' _
  unfold evTail at hx
  split at hx
  · exact opWords_blank _ _ _ _ x hx
  · split at hx
    · rw [List.mem_singleton.1 hx]; exact itoa_blank' _
    · split at hx
      · rw [List.mem_singleton.1 hx]; exact itoa_blank' _
      · cases hx
theorem evB_k {e : Evt} (h : evB e = true) : 0 ≤ e.k ∧ e.k ≤ 5 ∧ 0 ≤ e.w ∧ e.w < 64 := by
  simp only [evB, decide_eq_true_eq] at h
  omega
theorem evB_op {e : Evt} (h : evB e = true) (hk : e.k = 1) : rightB e.c e.y e.a e.b = true := by
  simp only [evB, decide_eq_true_eq] at h
  rcases h.2.2 with h | h | h | h
  · exact h.2.1
  · omega
  · omega
  · omega
/-- THE TEXT OF AN EVENT IS READ AS THAT EVENT, by the reference. -/
theorem ref_told {e : Evt} (h : evB e = true) : refOk (evWords e) ∧ refE (evWords e) = e := by
  obtain ⟨k1, k2, w1, w2⟩ := evB_k h
  have hb := h
  simp only [evB, decide_eq_true_eq] at hb
  obtain ⟨k, w, o, n, c, y, a, b⟩ := e
  simp only at k1 k2 w1 w2 hb
  have hk : kidx (evK.getD k.toNat []) = k := by
    have := kidx_name k.toNat (by omega)
    omega
  have hw : numL (Lib.itoa w) = w := num_itoa w1 (by omega)
  by_cases hk1 : k = 1
  · subst hk1
    have hr := evB_op h rfl
    simp only at hr
    obtain ⟨p1, p2, p3, p4, p5⟩ := words_par hr
    have hne : opWords c.toNat y a b ≠ [] := by
      intro e
      rw [e] at p1
      exact absurd p1 (by decide)
    have hj : wordsOf (joinW (opWords c.toNat y a b)) = opWords c.toNat y a b := words_join hne (opWords_blank _ _ _ _)
    have ew : evWords ⟨1, w, o, n, c, y, a, b⟩ = evK.getD (1 : Int).toNat [] :: Lib.itoa w :: opWords c.toNat y a b := rfl
    have eR : refE (evWords ⟨1, w, o, n, c, y, a, b⟩) = ⟨1, w, o, n, c, y, a, b⟩ := by
      rw [ew]
      unfold refE
      simp only [List.getD_cons_zero, List.getD_cons_succ, List.drop_succ_cons, List.drop_zero, hk, hw, hj, if_true, pqC, pqK, pqA, pqB, p1, p2, p3, p4, p5]
      rw [if_neg (by decide), if_neg (by decide), show o = 0 by omega, show n = 0 by omega]
    refine ⟨⟨?_, ?_, ?_, ?_, by rw [eR]; exact h⟩, eR⟩
    · rw [ew]; simp
    · intro _
      rw [ew]
      simp only [List.drop_succ_cons, List.drop_zero, hj, p1]
    · rw [ew]
      simp only [List.getD_cons_zero, hk]
      intro h3; omega
    · rw [ew]
      simp only [List.getD_cons_zero, hk]
      intro h3; exact absurd rfl h3
  · have hz : o = 0 ∨ k = 4 := by omega
    have e1 : evTail ⟨k, w, o, n, c, y, a, b⟩ = if k = 4 then [Lib.itoa o] else if k = 5 then [Lib.itoa n] else [] := by
      unfold evTail
      simp only
      rw [if_neg hk1]
    have ew : evWords ⟨k, w, o, n, c, y, a, b⟩ = evK.getD k.toNat [] :: Lib.itoa w :: (if k = 4 then [Lib.itoa o] else if k = 5 then [Lib.itoa n] else []) := by
      unfold evWords
      rw [e1]
    have eR : refE (evWords ⟨k, w, o, n, c, y, a, b⟩) = ⟨k, w, o, n, c, y, a, b⟩ := by
      rw [ew]
      unfold refE
      simp only [List.getD_cons_zero, List.getD_cons_succ, hk, hw, if_neg hk1]
      by_cases h4 : k = 4
      · subst h4
        rw [if_pos rfl, if_pos rfl, if_neg (by decide)]
        simp only [List.getD_cons_zero]
        rw [num_itoa (by omega) (by omega), show n = 0 by omega, show c = 0 by omega, show y = 0 by omega, show a = 0 by omega, show b = 0 by omega]
      · rw [if_neg h4, if_neg h4]
        by_cases h5 : k = 5
        · subst h5
          rw [if_pos rfl, if_pos rfl]
          simp only [List.getD_cons_zero]
          rw [num_itoa (by omega) (by omega), show o = 0 by omega, show c = 0 by omega, show y = 0 by omega, show a = 0 by omega, show b = 0 by omega]
        · rw [if_neg h5, show n = 0 by omega, show o = 0 by omega, show c = 0 by omega, show y = 0 by omega, show a = 0 by omega, show b = 0 by omega]
    refine ⟨⟨?_, ?_, ?_, ?_, by rw [eR]; exact h⟩, eR⟩
    · rw [ew]; simp
    · rw [ew]
      simp only [List.getD_cons_zero, hk]
      intro h3; exact absurd h3 hk1
    · rw [ew]
      simp only [List.getD_cons_zero, hk]
      intro h3
      by_cases h4 : k = 4
      · rw [if_pos h4]; rfl
      · rw [if_neg h4, if_pos (by omega)]; rfl
    · rw [ew]
      simp only [List.getD_cons_zero, hk]
      intro _ h3
      rw [if_neg (by omega), if_neg (by omega)]; rfl
/-- WHAT THE REFERENCE READS HAS THAT TEXT. -/
theorem ref_text {l : List UInt8} (h : refOk (wordsOf l)) : evText (refE (wordsOf l)) = l ∧ guess l = refE (wordsOf l) := by
  have hin := words_in l
  obtain ⟨h1, h2, h3, h4, h5⟩ := h
  generalize hws : wordsOf l = ws at h1 h2 h3 h4 h5 hin ⊢
  obtain ⟨k1, k2, w1, w2⟩ := evB_k h5
  have hb := h5
  simp only [evB, decide_eq_true_eq] at hb
  have hk : (refE ws).k = kidx (ws.getD 0 []) := rfl
  have hw : (refE ws).w = numL (ws.getD 1 []) := rfl
  have hk0 : 0 ≤ kidx (ws.getD 0 []) := by rw [← hk]; exact k1
  have hnum : 0 ≤ numL (ws.getD 1 []) := by rw [← hw]; exact w1
  have e0 := kname hk0
  have e1 := itoa_num hnum
  have a1 : atoiV (ws.getD 1 []) = (numL (ws.getD 1 []), true) := (numL_ok hnum).2.2.2.2.1
  have hcons : ws = ws.getD 0 [] :: ws.getD 1 [] :: ws.drop 2 := by
    match ws, h1 with
    | x :: y :: r, _ => rfl
  have head : evWords (refE ws) = ws.getD 0 [] :: ws.getD 1 [] :: evTail (refE ws) := by
    unfold evWords
    rw [hk, hw, e0, e1]
  have tail : evTail (refE ws) = ws.drop 2 ∧ guess l = refE ws := by
    by_cases hk1 : kidx (ws.getD 0 []) = 1
    · have hp := h2 hk1
      obtain ⟨p1, p2⟩ := par_words hp
      have hd : ws.drop 2 ≠ [] := by
        intro e
        rw [e] at hp
        exact absurd hp (by decide)
      have hj : wordsOf (joinW (ws.drop 2)) = ws.drop 2 := words_join hd fun x hx => hin.no x (List.mem_of_mem_drop hx)
      rw [hj] at hp p1 p2
      constructor
      · unfold evTail
        rw [hk, if_pos hk1]
        have ec : (refE ws).c = (codeOf ((ws.drop 2).getD 0 []) : Int) := by
          show (if kidx (ws.getD 0 []) = 1 then pqC (wordsOf (joinW (ws.drop 2))) else 0) = _
          rw [if_pos hk1, hj, pqC, if_pos hp]
        have ey : (refE ws).y = parK (codeOf ((ws.drop 2).getD 0 [])) (ws.drop 2) := by
          show (if kidx (ws.getD 0 []) = 1 then pqK (wordsOf (joinW (ws.drop 2))) else 0) = _
          rw [if_pos hk1, hj, pqK, if_pos hp]
        have ea : (refE ws).a = parA (codeOf ((ws.drop 2).getD 0 [])) (ws.drop 2) := by
          show (if kidx (ws.getD 0 []) = 1 then pqA (wordsOf (joinW (ws.drop 2))) else 0) = _
          rw [if_pos hk1, hj, pqA, if_pos hp]
        have eb : (refE ws).b = parB (codeOf ((ws.drop 2).getD 0 [])) (ws.drop 2) := by
          show (if kidx (ws.getD 0 []) = 1 then pqB (wordsOf (joinW (ws.drop 2))) else 0) = _
          rw [if_pos hk1, hj, pqB, if_pos hp]
        rw [ec, ey, ea, eb, Int.toNat_natCast, p1]
      · unfold guess refE
        simp only [hws, a1, hk1, Int.reduceEq, reduceIte]
    · by_cases h4k : kidx (ws.getD 0 []) = 4
      · have hl := h3 (by omega)
        have hd : ws.drop 2 = [ws.getD 2 []] := by
          match ws, hl with
          | [x, y, z], _ => rfl
        have ho : (refE ws).o = numL (ws.getD 2 []) := by
          show (if kidx (ws.getD 0 []) = 4 then numL (ws.getD 2 []) else 0) = _
          rw [if_pos h4k]
        have hn2 : 0 ≤ numL (ws.getD 2 []) := by rw [← ho]; omega
        have a2 : atoiV (ws.getD 2 []) = (numL (ws.getD 2 []), true) := (numL_ok hn2).2.2.2.2.1
        constructor
        · unfold evTail
          rw [hk, if_neg hk1, if_pos h4k, ho, itoa_num hn2, hd]
        · unfold guess refE
          simp only [hws, a1, hd, joinW, a2]
      · by_cases h5k : kidx (ws.getD 0 []) = 5
        · have hl := h3 (by omega)
          have hd : ws.drop 2 = [ws.getD 2 []] := by
            match ws, hl with
            | [x, y, z], _ => rfl
          have ho : (refE ws).n = numL (ws.getD 2 []) := by
            show (if kidx (ws.getD 0 []) = 5 then numL (ws.getD 2 []) else 0) = _
            rw [if_pos h5k]
          have hn2 : 0 ≤ numL (ws.getD 2 []) := by rw [← ho]; omega
          have a2 : atoiV (ws.getD 2 []) = (numL (ws.getD 2 []), true) := (numL_ok hn2).2.2.2.2.1
          constructor
          · unfold evTail
            rw [hk, if_neg hk1, if_neg h4k, if_pos h5k, ho, itoa_num hn2, hd]
          · unfold guess refE
            simp only [hws, a1, hd, joinW, a2]
        · have hl := h4 hk1 (by omega)
          have hd : ws.drop 2 = [] := List.drop_eq_nil_of_le (by omega)
          constructor
          · unfold evTail
            rw [hk, if_neg hk1, if_neg h4k, if_neg h5k, hd]
          · unfold guess refE
            simp only [hws, a1, if_neg h4k, if_neg h5k]
  refine ⟨?_, tail.2⟩
  unfold evText
  rw [if_pos h5, head, tail.1, ← hcons, hin.join]
/-- BOTH READERS READ ALIKE. -/
theorem lin_ref (l : List UInt8) : (linOk l ↔ refOk (wordsOf l)) ∧ (linOk l → guess l = refE (wordsOf l)) := by
  have key : linOk l → refOk (wordsOf l) ∧ guess l = refE (wordsOf l) := fun ⟨h1, h2⟩ => by
    have hb : evB (guess l) = true := by
      cases hb : evB (guess l) with
      | true => rfl
      | false =>
        unfold evText at h2
        rw [hb] at h2
        exact absurd h2.symm h1
    unfold evText at h2
    rw [if_pos hb] at h2
    obtain ⟨r1, r2⟩ := ref_told hb
    have hk := evB_k hb
    have hw : wordsOf l = evWords (guess l) := by
      conv => lhs; rw [← h2]
      exact words_join (by unfold evWords; simp) (evWords_blank ⟨hk.1, hk.2.1⟩)
    rw [hw]
    exact ⟨r1, r2.symm⟩
  refine ⟨⟨fun h => (key h).1, fun h => ?_⟩, fun h => (key h).2⟩
  obtain ⟨h1, h2⟩ := ref_text h
  refine ⟨?_, by rw [h2]; exact h1⟩
  intro e
  have := h.1
  rw [e] at this
  exact absurd this (by decide)
end Txt
end Go.Proofs.YtagdcclpibjfoaaDoor
end

/-
  Lines (2): which events have a number; their texts.
-/
section
namespace Go.Proofs.YtagdcclpibjfoaaDoor
open Go.Vm
namespace Txt

def evV (e : Evt) : Value := .agg #[.int .i64 e.k, .int .i64 e.w, .int .i64 e.o, .int .i64 e.n, .int .i64 e.c, .int .i64 e.y, .int .i64 e.a, .int .i64 e.b]
abbrev InJ (x : Int) : Prop := -9223372036854775808 ≤ x ∧ x < 9223372036854775808
def EvIn (e : Evt) : Prop := InJ e.k ∧ InJ e.w ∧ InJ e.o ∧ InJ e.n ∧ InJ e.c ∧ InJ e.y ∧ InJ e.a ∧ InJ e.b
theorem enc_iff (e : Evt) : Sc.EncOk e.k e.w e.o e.n e.c e.y e.a e.b ↔ evB e = true := by
  have hz : rightB e.c e.y e.a e.b = Sc.rightB e.c e.y e.a e.b := rfl
  simp only [evB, decide_eq_true_eq, Sc.EncOk, hz]
  constructor
  · rintro ⟨h1, h2, h3, h4, h5⟩
    refine ⟨h1, h2, ?_⟩
    rcases h5 with h | h | h | h
    · exact .inl h
    · exact .inr (.inl h)
    · exact .inr (.inr (.inl (by omega)))
    · exact .inr (.inr (.inr (by omega)))
  · rintro ⟨h1, h2, h5⟩
    refine ⟨h1, h2, by omega, by omega, ?_⟩
    rcases h5 with h | h | h | h
    · exact .inl h
    · exact .inr (.inl h)
    · exact .inr (.inr (.inl (by omega)))
    · exact .inr (.inr (.inr (by omega)))
def encI (e : Evt) : Int := if evB e = true then Sc.encX e.k e.w e.o e.n e.c e.y e.a e.b else 0
theorem encU_eq (e : Evt) : Sc.encU e.k e.w e.o e.n e.c e.y e.a e.b = .tuple #[.int .i64 (encI e), .bool (evB e)] := by
  unfold Sc.encU encI
  cases hb : evB e with
  | true => rw [if_pos ((enc_iff e).2 hb), if_pos rfl]
  | false => rw [if_neg (fun h => by have := (enc_iff e).1 h; rw [hb] at this; cases this), if_neg (by simp)]
theorem encode110 (w : World) (e : Evt) : Calls Tryd.prog 110 #[evV e] w (fun x w' => x = .returned (.tuple #[.int .i64 (encI e), .bool (evB e)]) ∧ Framed w w') :=
  (Sc.enc30 w e.k e.w e.o e.n e.c e.y e.a e.b).mono fun x w' ⟨v, h1, h2, h3⟩ => ⟨by rw [h1, h2, encU_eq], h3⟩
theorem encode109 (w : World) (e : Evt) : Calls Tryd.prog 109 #[evV e] w (fun x w' => x = .returned (.tuple #[.int .i64 (encI e), .bool (evB e)]) ∧ Framed w w') :=
  (Sc.enc24 w e.k e.w e.o e.n e.c e.y e.a e.b).mono fun x w' ⟨v, h1, h2, h3⟩ => ⟨by rw [h1, h2, encU_eq], h3⟩
-- UNDER NAMES
def prU (a b : IT) : IT := .un 1 a b
def cod1 (f : Nat → IT) : IT := prU (prU (f 0) (f 1)) (prU (f 2) (f 3))
def cod2 (f : Nat → IT) : IT := prU (prU (f 4) (f 5)) (prU (f 6) (f 7))
def eT (f : Nat → IT) : BT := .cmp .eql (.fn 62 (cod1 f) (cod2 f)) (.lit 1)
def fnOf (l : List AVal) : Nat → IT := fun j => match l[j]? with
  | some (.int _ t) => t
  | _ => .lit 0
def at2 (x : Int) (i j : Nat) : Int := (decL ((decL x).getD i 0)).getD j 0
def evAt (x y : Int) : Evt := ⟨at2 x 0 0, at2 x 0 1, at2 x 1 0, at2 x 1 1, at2 y 0 0, at2 y 0 1, at2 y 1 0, at2 y 1 1⟩
def c1 (e : Evt) : Int := univ 1 (univ 1 e.k e.w) (univ 1 e.o e.n)
def c2 (e : Evt) : Int := univ 1 (univ 1 e.c e.y) (univ 1 e.a e.b)
theorem evAt_c (e : Evt) : evAt (c1 e) (c2 e) = e := by
  have key : ∀ a b c d : Int, at2 (univ 1 (univ 1 a b) (univ 1 c d)) 0 0 = a ∧ at2 (univ 1 (univ 1 a b) (univ 1 c d)) 0 1 = b ∧ at2 (univ 1 (univ 1 a b) (univ 1 c d)) 1 0 = c ∧ at2 (univ 1 (univ 1 a b) (univ 1 c d)) 1 1 = d := fun a b c d => by
    have h : univ 1 (univ 1 a b) (univ 1 c d) = encL [encL [a, b], encL [c, d]] := rfl
    unfold at2
    rw [h, decL_encL]
    simp [decL_encL]
  obtain ⟨k, w, o, n, c, y, a, b⟩ := e
  obtain ⟨h1, h2, h3, h4⟩ := key k w o n
  obtain ⟨g1, g2, g3, g4⟩ := key c y a b
  show Evt.mk (at2 (univ 1 (univ 1 k w) (univ 1 o n)) 0 0) (at2 (univ 1 (univ 1 k w) (univ 1 o n)) 0 1) (at2 (univ 1 (univ 1 k w) (univ 1 o n)) 1 0) (at2 (univ 1 (univ 1 k w) (univ 1 o n)) 1 1)
    (at2 (univ 1 (univ 1 c y) (univ 1 a b)) 0 0) (at2 (univ 1 (univ 1 c y) (univ 1 a b)) 0 1) (at2 (univ 1 (univ 1 c y) (univ 1 a b)) 1 0) (at2 (univ 1 (univ 1 c y) (univ 1 a b)) 1 1) = _
  rw [h1, h2, h3, h4, g1, g2, g3, g4]
def spEncG : SpG := fun args H nl cs => match args with
  | [.agg l] => cond (kinds1 [.i64, .i64, .i64, .i64, .i64, .i64, .i64, .i64] l) (some [.ret (.tuple [.int .i64 (.fn 61 (cod1 (fnOf l)) (cod2 (fnOf l))), .bool (eT (fnOf l))]) H nl cs]) none
  | _ => none
/-- What is known of the two names. -/
def GEn (β : Base) : Prop := ∀ I B S V F, β.G I B S V F → ∀ e : Evt, F 61 (c1 e) (c2 e) = encI e ∧ F 62 (c1 e) (c2 e) = if evB e = true then 1 else 0
theorem list8 {α : Type} {l : List α} (h : l.length = 8) : ∃ a0 a1 a2 a3 a4 a5 a6 a7, l = [a0, a1, a2, a3, a4, a5, a6, a7] := by
  match l, h with
  | [a0, a1, a2, a3, a4, a5, a6, a7], _ => exact ⟨_, _, _, _, _, _, _, _, rfl⟩
theorem kinds1_get : ∀ {ks : List IntKind} {l : List AVal} {j : Nat} {b : AVal} {k : IntKind}, kinds1 ks l = true → l[j]? = some b → ks[j]? = some k → ∃ t, b = .int k t
  | [], [], j, b, k, _, h, _ => by simp at h
  | [], _ :: _, j, b, k, h, _, _ => by simp [kinds1] at h
  | _ :: _, [], j, b, k, h, _, _ => by simp [kinds1] at h
  | k0 :: ks, a :: l, j, b, k, h, hb, hk => by
    cases a <;> simp only [kinds1, Bool.false_eq_true] at h
    simp only [Bool.and_eq_true, decide_eq_true_eq] at h
    cases j with
    | zero =>
      simp at hb hk
      subst hb; subst hk
      exact ⟨_, by rw [h.1]⟩
    | succ j => exact kinds1_get h.2 (by simpa using hb) (by simpa using hk)
theorem open8 {ρ : Env} {l : List AVal} {xs : List Value} (h : kinds1 [.i64, .i64, .i64, .i64, .i64, .i64, .i64, .i64] l = true) (hx : AVal.denL ρ l = some xs) :
    ∃ e : Evt, Value.agg xs.toArray = evV e ∧ (fnOf l 0).den ρ = some e.k ∧ (fnOf l 1).den ρ = some e.w ∧ (fnOf l 2).den ρ = some e.o ∧ (fnOf l 3).den ρ = some e.n ∧ (fnOf l 4).den ρ = some e.c ∧ (fnOf l 5).den ρ = some e.y ∧ (fnOf l 6).den ρ = some e.a ∧ (fnOf l 7).den ρ = some e.b := by
  obtain ⟨hl, hk⟩ := kinds1_ok h hx
  obtain ⟨a0, a1, a2, a3, a4, a5, a6, a7, rfl⟩ := list8 (l := xs) hl
  obtain ⟨z0, e0⟩ := hk 0 .i64 rfl
  obtain ⟨z1, e1⟩ := hk 1 .i64 rfl
  obtain ⟨z2, e2⟩ := hk 2 .i64 rfl
  obtain ⟨z3, e3⟩ := hk 3 .i64 rfl
  obtain ⟨z4, e4⟩ := hk 4 .i64 rfl
  obtain ⟨z5, e5⟩ := hk 5 .i64 rfl
  obtain ⟨z6, e6⟩ := hk 6 .i64 rfl
  obtain ⟨z7, e7⟩ := hk 7 .i64 rfl
  cases e0; cases e1; cases e2; cases e3; cases e4; cases e5; cases e6; cases e7
  have hll := AVal.denL_length hx
  obtain ⟨b0, b1, b2, b3, b4, b5, b6, b7, rfl⟩ := list8 (l := l) (by simpa using hll.symm)
  have key : ∀ {j : Nat} {z : Int} {b : AVal}, [b0, b1, b2, b3, b4, b5, b6, b7][j]? = some b → ([Value.int .i64 z0, .int .i64 z1, .int .i64 z2, .int .i64 z3, .int .i64 z4, .int .i64 z5, .int .i64 z6, .int .i64 z7] : List Value)[j]? = some (.int .i64 z) → (fnOf [b0, b1, b2, b3, b4, b5, b6, b7] j).den ρ = some z := fun {j z b} hb hz => by
    obtain ⟨x, hx1, hx2⟩ := AVal.denL_get hx hb
    rw [hz] at hx1; cases hx1
    obtain ⟨t, rfl⟩ := kinds1_get (k := .i64) h hb (by
      match j, hz with
      | 0, _ => rfl
      | 1, _ => rfl
      | 2, _ => rfl
      | 3, _ => rfl
      | 4, _ => rfl
      | 5, _ => rfl
      | 6, _ => rfl
      | 7, _ => rfl
      | j + 8, hz => simp at hz)
    have ht : t.den ρ = some z := by
      obtain ⟨y, hy1, hy2⟩ := den_int hx2
      cases hy1
      exact hy2
    simp only [fnOf, hb, ht]
  exact ⟨⟨z0, z1, z2, z3, z4, z5, z6, z7⟩, rfl, key rfl rfl, key rfl rfl, key rfl rfl, key rfl rfl, key rfl rfl, key rfl rfl, key rfl rfl, key rfl rfl⟩
theorem cod_den {ρ : Env} {f : Nat → IT} {e : Evt} (h0 : (f 0).den ρ = some e.k) (h1 : (f 1).den ρ = some e.w) (h2 : (f 2).den ρ = some e.o) (h3 : (f 3).den ρ = some e.n) (h4 : (f 4).den ρ = some e.c) (h5 : (f 5).den ρ = some e.y) (h6 : (f 6).den ρ = some e.a) (h7 : (f 7).den ρ = some e.b) : (cod1 f).den ρ = some (c1 e) ∧ (cod2 f).den ρ = some (c2 e) := by
  constructor
  · simp only [cod1, prU, IT.den, h0, h1, h2, h3]; rfl
  · simp only [cod2, prU, IT.den, h4, h5, h6, h7]; rfl
theorem eT_den {ρ : Env} {f : Nat → IT} {e : Evt} (hG : ∀ e : Evt, ρ.F 62 (c1 e) (c2 e) = if evB e = true then 1 else 0) (h : (cod1 f).den ρ = some (c1 e) ∧ (cod2 f).den ρ = some (c2 e)) : (eT f).den ρ = some (evB e) := by
  simp only [eT, BT.den, IT.den, h.1, h.2, hG, intCmp]
  rw [one1]
theorem spEncG_ok {β : Base} {g : FuncId} (hG : GEn β) (h : ∀ w e, Calls Tryd.prog g #[evV e] w (fun x w' => x = .returned (.tuple #[.int .i64 (encI e), .bool (evB e)]) ∧ Framed w w')) : SpGOk Tryd.prog β g spEncG := by
  intro args H nl cs ls ρ w xs hr hx hh hc
  unfold spEncG at hr
  split at hr
  rotate_left
  · cases hr
  rename_i l
  cases hb : kinds1 [.i64, .i64, .i64, .i64, .i64, .i64, .i64, .i64] l with
  | false => rw [hb] at hr; cases hr
  | true =>
    rw [hb] at hr; cases hr
    simp only [AVal.denL, AVal.den] at hx
    cases hl : AVal.denL ρ l with
    | none => rw [hl] at hx; cases hx
    | some ys =>
      rw [hl] at hx
      cases hx
      obtain ⟨e, he, h0, h1, h2, h3, h4, h5, h6, h7⟩ := open8 hb hl
      have hcd := cod_den h0 h1 h2 h3 h4 h5 h6 h7
      have hg := hG _ _ _ _ _ hh.g
      show Calls Tryd.prog g #[Value.agg ys.toArray] w _
      rw [he]
      refine spV_ok (xs := [evV e]) (h w e) ?_ hh hc
      have h61 : (IT.fn 61 (cod1 (fnOf l)) (cod2 (fnOf l))).den ρ = some (encI e) := by
        simp only [IT.den, hcd.1, hcd.2, (hg e).1]
      simp only [AVal.den, AVal.denL, h61, eT_den (fun e => (hg e).2) hcd, Option.map_some]
-- THE TEXT OF AN EVENT
def GL : GP := fun I B S V F => GT I B S V F ∧ ∀ e : Evt, F 61 (c1 e) (c2 e) = encI e ∧ F 62 (c1 e) (c2 e) = if evB e = true then 1 else 0
def FL (k : Nat) (x y : Int) : Int := match k with
  | 9 => prI x y
  | 61 => encI (evAt x y)
  | 62 => if evB (evAt x y) = true then 1 else 0
  | _ => 0
noncomputable def envE (e : Evt) : Env := ⟨fun i => [e.k, e.w, e.o, e.n, e.c, e.y, e.a, e.b].getD i 0, fun _ => false, Sx, fun _ => undef, fun _ => none, FL⟩
theorem envE_G {e : Evt} (h : EvIn e) : GL.at (envE e) := by
  obtain ⟨h0, h1, h2, h3, h4, h5, h6, h7⟩ := h
  refine ⟨⟨⟨rfl, fun i _ => ?_, fun n _ => ?_, fun a n _ => ?_⟩, fun _ _ => rfl⟩, fun e => ?_⟩
  · show InJ ([e.k, e.w, e.o, e.n, e.c, e.y, e.a, e.b].getD i 0)
    match i with
    | 0 => exact h0
    | 1 => exact h1
    | 2 => exact h2
    | 3 => exact h3
    | 4 => exact h4
    | 5 => exact h5
    | 6 => exact h6
    | 7 => exact h7
    | n + 8 => exact ⟨by simp, by simp⟩
  · exact ⟨by simp [envE, selI, undef], by simp [envE, selI, undef]⟩
  · exact ⟨by simp [envE, selI, undef], by simp [envE, selI, undef]⟩
  · show encI (evAt (c1 e) (c2 e)) = _ ∧ (if evB (evAt (c1 e) (c2 e)) = true then (1 : Int) else 0) = _
    rw [evAt_c]; exact ⟨rfl, rfl⟩
def evJ (j : Nat) : AVal := .agg [.int .i64 (.lit (.ofNat j)), iv 1, iv 2, iv 3, iv 4, iv 5, iv 6, iv 7]
def evA : AVal := .agg [iv 0, iv 1, iv 2, iv 3, iv 4, iv 5, iv 6, iv 7]
def fJ (j : Nat) : Nat → IT := fun i => if i = 0 then .lit (.ofNat j) else .var i
def csEv (j : Nat) : Cs := [(eT (fJ j), true)]
theorem text_ev {e : Evt} (h : evB e = true) : evText e = evK.getD e.k.toNat [] ++ ([32] ++ (Lib.itoa e.w ++ (if e.k = 1 then [32] ++ opTextR e.c e.y e.a e.b else if e.k = 4 then [32] ++ Lib.itoa e.o else if e.k = 5 then [32] ++ Lib.itoa e.n else []))) := by
  unfold evText
  rw [if_pos h]
  unfold evWords evTail
  by_cases h1 : e.k = 1
  · have hr := evB_op h h1
    rw [if_pos h1, if_pos h1]
    obtain ⟨p1, _⟩ := words_par hr
    unfold opTextR
    rw [if_pos hr, opText_join]
    cases ho : opWords e.c.toNat e.y e.a e.b with
    | nil => rw [ho] at p1; exact absurd p1 (by decide)
    | cons x r => simp [joinW]
  · rw [if_neg h1, if_neg h1]
    by_cases h4 : e.k = 4
    · rw [if_pos h4, if_pos h4]; simp [joinW]
    · rw [if_neg h4, if_neg h4]
      by_cases h5 : e.k = 5
      · rw [if_pos h5, if_pos h5]; simp [joinW]
      · rw [if_neg h5, if_neg h5]; simp [joinW]
def sp65 : CallF := spL [(110, spEncG), (58, spOpT), (74, spItoa)]
def Run65 (args : List AVal) (cs : Cs) (s : ST) : Prop := (run Tryd.prog [(127, .same)] sp65 8000 false 65 (entry Tryd.f65 (Tryd.f65.body.getD .ret) args .leaf 0 cs)).map (·.all (retIs (.str s))) = some true
theorem t65_0 : Run65 [evJ 0] (csEv 0) (.cat (.lit [106, 111, 105, 110, 32]) (.fn 1 (.var 1) (.lit 0))) := by unfold Run65; kernel_rfl
theorem t65_1 : Run65 [evJ 1] (csEv 1) (.cat (.cat (.lit [105, 110, 118, 111, 107, 101, 32]) (.fn 1 (.var 1) (.lit 0))) (.cat (.lit [32]) (.fn 3 (prP (.var 4) (.var 5)) (prP (.var 6) (.var 7))))) := by unfold Run65; kernel_rfl
theorem t65_2 : Run65 [evJ 2] (csEv 2) (.cat (.lit [108, 101, 97, 118, 101, 32]) (.fn 1 (.var 1) (.lit 0))) := by unfold Run65; kernel_rfl
theorem t65_3 : Run65 [evJ 3] (csEv 3) (.cat (.lit [115, 116, 97, 108, 108, 32]) (.fn 1 (.var 1) (.lit 0))) := by unfold Run65; kernel_rfl
theorem t65_4 : Run65 [evJ 4] (csEv 4) (.cat (.cat (.lit [97, 100, 111, 112, 116, 32]) (.fn 1 (.var 1) (.lit 0))) (.cat (.lit [32]) (.fn 1 (.var 2) (.lit 0)))) := by unfold Run65; kernel_rfl
theorem t65_5 : Run65 [evJ 5] (csEv 5) (.cat (.cat (.lit [112, 105, 99, 107, 32]) (.fn 1 (.var 1) (.lit 0))) (.cat (.lit [32]) (.fn 1 (.var 3) (.lit 0)))) := by unfold Run65; kernel_rfl
theorem t65_n : Run65 [evA] [(eT .var, false)] (.lit []) := by unfold Run65; kernel_rfl
theorem sp65_ok (w : World) (hw : TabW w) : CallOk Tryd.prog ⟨w, [], GL⟩ sp65 := by
  refine spL_ok fun p hp => ?_
  simp only [List.mem_cons, List.not_mem_nil, or_false] at hp
  rcases hp with rfl | rfl | rfl
  · exact spEncG_ok (fun _ _ _ _ _ h => h.2) encode110
  · exact spOpT_ok (fun _ _ _ _ _ h => h.1) fun hh c k a b h1 h2 h3 h4 => text58 _ (TabW.of hw rfl hh) h1 h2 h3 h4
  · exact spText_ok (fun _ _ _ _ _ h => h.1.1) fun hh n h1 h2 => itoa74 (TabW.of hw rfl hh) n h1 h2
theorem leaf65 (w : World) (hw : TabW w) {e : Evt} (hin : EvIn e) {j : Nat} (hj : e.k = j) (hb : evB e = true) {s : ST} (hrun : Run65 [evJ j] (csEv j) s)
    (hs : ∀ ρ : Env, ρ.S = Sx → (∀ x y, ρ.F 9 x y = prI x y) → (∀ i, ρ.I i = (envE e).I i) → TB ρ s (evText e)) : Calls Tryd.prog 65 #[evV e] w (fun x w' => x = .returned (.string ⟨(evText e).toArray⟩) ∧ Framed w w') := by
  have hx : AVal.denL (envE e) [evJ j] = some [evV e] := by
    show some [Value.agg #[.int .i64 (Int.ofNat j), .int .i64 e.w, .int .i64 e.o, .int .i64 e.n, .int .i64 e.c, .int .i64 e.y, .int .i64 e.a, .int .i64 e.b]] = _
    rw [show Int.ofNat j = e.k from hj.symm]; rfl
  refine calls_ret (β := ⟨w, [], GL⟩) (ρ := envE e) ext1_ok (sp65_ok w hw) rfl Tryd.func65 rfl hrun (xs := [evV e]) hx (HRel.startG w _ (fun _ => rfl) (envE_G hin)) (CRel_cons.2 ⟨?_, CRel_nil.2 trivial⟩) (fun ρ' hle => ?_)
  · refine (eT_den (e := e) (fun e => ((envE_G hin).2 e).2) (cod_den (f := fJ j) ?_ rfl rfl rfl rfl rfl rfl rfl)).trans (congrArg some hb)
    show some (Int.ofNat j) = _
    rw [show Int.ofNat j = e.k from hj.symm]
  · have h1 := hs ρ' hle.s (fun x y => by rw [hle.f]; rfl) (fun i => by rw [hle.i])
    show some (Value.string (s.den ρ')) = _
    rw [show s.den ρ' = _ from h1]
theorem text65 (w : World) (hw : TabW w) {e : Evt} (hin : EvIn e) : Calls Tryd.prog 65 #[evV e] w (fun x w' => x = .returned (.string ⟨(evText e).toArray⟩) ∧ Framed w w') := by
  cases hb : evB e with
  | false =>
    have he : evText e = [] := by unfold evText; rw [if_neg (by rw [hb]; simp)]
    rw [he]
    refine calls_ret (β := ⟨w, [], GL⟩) (ρ := envE e) ext1_ok (sp65_ok w hw) rfl Tryd.func65 rfl t65_n (xs := [evV e]) rfl (HRel.startG w _ (fun _ => rfl) (envE_G hin)) (CRel_cons.2 ⟨?_, CRel_nil.2 trivial⟩) (fun ρ' hle => rfl)
    exact (eT_den (e := e) (fun e => ((envE_G hin).2 e).2) (cod_den (f := .var) rfl rfl rfl rfl rfl rfl rfl rfl)).trans (congrArg some hb)
  | true =>
    have hk := evB_k hb
    have hte := text_ev hb
    have hwi := itoa_len hin.2.1.1 hin.2.1.2
    have hbb := hb
    simp only [evB, decide_eq_true_eq] at hbb
    obtain ⟨j, hj⟩ := Int.eq_ofNat_of_zero_le hk.1
    rcases (show j = 0 ∨ j = 1 ∨ j = 2 ∨ j = 3 ∨ j = 4 ∨ j = 5 by omega) with rfl | rfl | rfl | rfl | rfl | rfl
    · refine leaf65 w hw hin hj hb t65_0 fun ρ hS hF hI => ?_
      have hwD : TB ρ (.fn 1 (.var 1) (.lit 0)) (Lib.itoa e.w) := (fn_den hS (k := 1) (p := .var 1) (q := .lit 0) (x := e.w) ((hI 1).trans rfl) rfl (by show (Lib.itoa e.w).length ≤ _; have := itoa_len (n := e.w) (by omega) (by omega); omega))
      have hhd := tb_cat (tb_lit ρ [106, 111, 105, 110, 32]) hwD
      have hall := hhd
      have et : evText e = _ := hte
      rw [hj] at et
      rw [if_neg (by decide), if_neg (by decide), if_neg (by decide)] at et
      rw [et]
      refine Eq.trans hall (congrArg (fun l : List UInt8 => (⟨l.toArray⟩ : ByteArray)) ?_)
      simp [evK]
    · refine leaf65 w hw hin hj hb t65_1 fun ρ hS hF hI => ?_
      have hwD : TB ρ (.fn 1 (.var 1) (.lit 0)) (Lib.itoa e.w) := (fn_den hS (k := 1) (p := .var 1) (q := .lit 0) (x := e.w) ((hI 1).trans rfl) rfl (by show (Lib.itoa e.w).length ≤ _; have := itoa_len (n := e.w) (by omega) (by omega); omega))
      have hhd := tb_cat (tb_lit ρ [105, 110, 118, 111, 107, 101, 32]) hwD
      have hxD : TB ρ (.fn 3 (prP (.var 4) (.var 5)) (prP (.var 6) (.var 7))) (opTextR e.c e.y e.a e.b) := by
        have h := op_den hS hF (.var 4) (.var 5) (.var 6) (.var 7)
        simp only [PT.den, hI] at h
        exact h
      have hall := tb_cat hhd (tb_cat (tb_lit ρ [32]) hxD)
      have et : evText e = _ := hte
      rw [hj] at et
      rw [if_pos (by decide)] at et
      rw [et]
      refine Eq.trans hall (congrArg (fun l : List UInt8 => (⟨l.toArray⟩ : ByteArray)) ?_)
      simp [evK]
    · refine leaf65 w hw hin hj hb t65_2 fun ρ hS hF hI => ?_
      have hwD : TB ρ (.fn 1 (.var 1) (.lit 0)) (Lib.itoa e.w) := (fn_den hS (k := 1) (p := .var 1) (q := .lit 0) (x := e.w) ((hI 1).trans rfl) rfl (by show (Lib.itoa e.w).length ≤ _; have := itoa_len (n := e.w) (by omega) (by omega); omega))
      have hhd := tb_cat (tb_lit ρ [108, 101, 97, 118, 101, 32]) hwD
      have hall := hhd
      have et : evText e = _ := hte
      rw [hj] at et
      rw [if_neg (by decide), if_neg (by decide), if_neg (by decide)] at et
      rw [et]
      refine Eq.trans hall (congrArg (fun l : List UInt8 => (⟨l.toArray⟩ : ByteArray)) ?_)
      simp [evK]
    · refine leaf65 w hw hin hj hb t65_3 fun ρ hS hF hI => ?_
      have hwD : TB ρ (.fn 1 (.var 1) (.lit 0)) (Lib.itoa e.w) := (fn_den hS (k := 1) (p := .var 1) (q := .lit 0) (x := e.w) ((hI 1).trans rfl) rfl (by show (Lib.itoa e.w).length ≤ _; have := itoa_len (n := e.w) (by omega) (by omega); omega))
      have hhd := tb_cat (tb_lit ρ [115, 116, 97, 108, 108, 32]) hwD
      have hall := hhd
      have et : evText e = _ := hte
      rw [hj] at et
      rw [if_neg (by decide), if_neg (by decide), if_neg (by decide)] at et
      rw [et]
      refine Eq.trans hall (congrArg (fun l : List UInt8 => (⟨l.toArray⟩ : ByteArray)) ?_)
      simp [evK]
    · refine leaf65 w hw hin hj hb t65_4 fun ρ hS hF hI => ?_
      have hwD : TB ρ (.fn 1 (.var 1) (.lit 0)) (Lib.itoa e.w) := (fn_den hS (k := 1) (p := .var 1) (q := .lit 0) (x := e.w) ((hI 1).trans rfl) rfl (by show (Lib.itoa e.w).length ≤ _; have := itoa_len (n := e.w) (by omega) (by omega); omega))
      have hhd := tb_cat (tb_lit ρ [97, 100, 111, 112, 116, 32]) hwD
      have hxD : TB ρ (.fn 1 (.var 2) (.lit 0)) (Lib.itoa e.o) := (fn_den hS (k := 1) (p := .var 2) (q := .lit 0) (x := e.o) ((hI 2).trans rfl) rfl (by show (Lib.itoa e.o).length ≤ _; have := itoa_len (n := e.o) (by omega) (by omega); omega))
      have hall := tb_cat hhd (tb_cat (tb_lit ρ [32]) hxD)
      have et : evText e = _ := hte
      rw [hj] at et
      rw [if_neg (by decide), if_pos (by decide)] at et
      rw [et]
      refine Eq.trans hall (congrArg (fun l : List UInt8 => (⟨l.toArray⟩ : ByteArray)) ?_)
      simp [evK]
    · refine leaf65 w hw hin hj hb t65_5 fun ρ hS hF hI => ?_
      have hwD : TB ρ (.fn 1 (.var 1) (.lit 0)) (Lib.itoa e.w) := (fn_den hS (k := 1) (p := .var 1) (q := .lit 0) (x := e.w) ((hI 1).trans rfl) rfl (by show (Lib.itoa e.w).length ≤ _; have := itoa_len (n := e.w) (by omega) (by omega); omega))
      have hhd := tb_cat (tb_lit ρ [112, 105, 99, 107, 32]) hwD
      have hxD : TB ρ (.fn 1 (.var 3) (.lit 0)) (Lib.itoa e.n) := (fn_den hS (k := 1) (p := .var 3) (q := .lit 0) (x := e.n) ((hI 3).trans rfl) rfl (by show (Lib.itoa e.n).length ≤ _; have := itoa_len (n := e.n) (by omega) (by omega); omega))
      have hall := tb_cat hhd (tb_cat (tb_lit ρ [32]) hxD)
      have et : evText e = _ := hte
      rw [hj] at et
      rw [if_neg (by decide), if_neg (by decide), if_pos (by decide)] at et
      rw [et]
      refine Eq.trans hall (congrArg (fun l : List UInt8 => (⟨l.toArray⟩ : ByteArray)) ?_)
      simp [evK]
end Txt
end Go.Proofs.YtagdcclpibjfoaaDoor
end
