/-
  Trace lines (Tw1): words of texts, plainly (turned from ot/Ot1).
-/
import Derived.Test.YtjjijagclgambaaGreatDoorTx6
namespace Go.Proofs.YtjjijagclgambaaGreatDoor
open Go.Vm
namespace Txt

def joinW : List (List UInt8) → List UInt8
  | [] => []
  | [w] => w
  | w :: v :: ws => w ++ (32 :: joinW (v :: ws))
def bytes (l : List UInt8) : ByteArray := ⟨l.toArray⟩
-- WORDS
def wstep (ws : List (List UInt8)) (b : UInt8) : List (List UInt8) := if b = 32 then ws ++ [[]] else ws.set (ws.length - 1) (ws.getD (ws.length - 1) [] ++ [b])
def wordsOf (l : List UInt8) : List (List UInt8) := l.foldl wstep [[]]
theorem wordsTo_succ {l : List UInt8} {i : Nat} {b : UInt8} (h : l[i]? = some b) : wordsOf (l.take (i + 1)) = wstep (wordsOf (l.take i)) b := by
  unfold wordsOf
  rw [List.take_add_one, h, List.foldl_append]; rfl
theorem wstep_snoc (ls : List (List UInt8)) (w : List UInt8) (b : UInt8) : wstep (ls ++ [w]) b = if b = 32 then ls ++ [w] ++ [[]] else ls ++ [w ++ [b]] := by
  unfold wstep
  split
  · rfl
  · have h1 : (ls ++ [w]).length - 1 = ls.length := by simp
    rw [h1]
    have h2 : (ls ++ [w]).getD ls.length [] = w := by simp
    rw [h2]
    simp
theorem joinW_snoc : ∀ {ls : List (List UInt8)} (x : List UInt8), ls ≠ [] → joinW (ls ++ [x]) = joinW ls ++ (32 :: x)
  | [], _, h => absurd rfl h
  | [w], x, _ => rfl
  | w :: v :: ws, x, _ => by
    have ih := joinW_snoc (ls := v :: ws) x (by simp)
    show w ++ (32 :: joinW ((v :: ws) ++ [x])) = (w ++ (32 :: joinW (v :: ws))) ++ (32 :: x)
    rw [ih]; simp
structure WordsIn (ws : List (List UInt8)) (l : List UInt8) : Prop where
  ne : ws ≠ []
  no : ∀ x ∈ ws, (32 : UInt8) ∉ x
  join : joinW ws = l
  len : ws.length ≤ l.length + 1
theorem WordsIn.step {ws : List (List UInt8)} {l : List UInt8} (h : WordsIn ws l) (b : UInt8) : WordsIn (wstep ws b) (l ++ [b]) := by
  obtain ⟨ls, w, rfl⟩ : ∃ ls w, ws = ls ++ [w] := ⟨ws.dropLast, ws.getLast h.ne, (List.dropLast_concat_getLast h.ne).symm⟩
  rw [wstep_snoc]
  have hl := h.len
  simp only [List.length_append, List.length_cons, List.length_nil] at hl
  split
  · rename_i hb
    subst hb
    refine ⟨by simp, fun x hx => ?_, ?_, by simp; omega⟩
    · rcases List.mem_append.1 hx with hx | hx
      · exact h.no x hx
      · rw [List.mem_singleton.1 hx]; simp
    · rw [joinW_snoc _ (by simp), h.join]
  · rename_i hb
    refine ⟨by simp, fun x hx => ?_, ?_, by simp; omega⟩
    · rcases List.mem_append.1 hx with hx | hx
      · exact h.no x (List.mem_append_left _ hx)
      · rw [List.mem_singleton.1 hx]
        intro h1
        rcases List.mem_append.1 h1 with h1 | h1
        · exact h.no w (by simp) h1
        · exact hb (List.mem_singleton.1 h1).symm
    · rw [← h.join]
      cases ls with
      | nil => rfl
      | cons v vs =>
        rw [joinW_snoc _ (by simp), joinW_snoc _ (by simp)]; simp
theorem words_in (l : List UInt8) : WordsIn (wordsOf l) l := by
  have key : ∀ (l2 l1 : List UInt8) (ws : List (List UInt8)), WordsIn ws l1 → WordsIn (l2.foldl wstep ws) (l1 ++ l2) := by
    intro l2
    induction l2 with
    | nil => intro l1 ws h; simpa using h
    | cons b r ih =>
      intro l1 ws h
      have := ih _ _ (h.step b)
      simpa using this
  exact key l [] [[]] ⟨by simp, fun x hx => by rw [List.mem_singleton.1 hx]; simp, rfl, by simp⟩
/-- A row of texts as one number. -/
def encW (ws : List (List UInt8)) : Int := encL (ws.map fun w => encS (bytes w))
theorem bytes_list (b : ByteArray) : bytes b.data.toList = b := by
  apply ByteArray.ext
  show b.data.toList.toArray = b.data
  simp
theorem bytes_toList (l : List UInt8) : (bytes l).data.toList = l := by
  show l.toArray.toList = l
  simp
theorem bytes_size (l : List UInt8) : (bytes l).size = l.length := by show l.toArray.size = _; simp
theorem un4_enc (ws : List (List UInt8)) (y : Int) : univ 4 (encW ws) y = (ws.length : Int) := by
  show ((decL (encL (ws.map fun w => encS (bytes w)))).length : Int) = _
  rw [decL_encL]; simp
theorem un0_enc {ws : List (List UInt8)} {i : Nat} (h : i < ws.length) : univ 0 (encW ws) (i : Int) = encS (bytes (ws.getD i [])) := by
  show (decL (encL (ws.map fun w => encS (bytes w)))).getD (i : Int).toNat 0 = _
  rw [decL_encL, Int.toNat_natCast, List.getD_eq_getElem?_getD, List.getD_eq_getElem?_getD, List.getElem?_map, List.getElem?_eq_getElem h]
  rfl
theorem un3_enc (ws : List (List UInt8)) (w : List UInt8) : univ 3 (encW ws) (encS (bytes w)) = encW (ws ++ [w]) := by
  show encL (decL (encL (ws.map fun w => encS (bytes w))) ++ [encS (bytes w)]) = _
  rw [decL_encL]
  unfold encW
  rw [List.map_append]; rfl
theorem un2_enc (ws : List (List UInt8)) (i : Nat) (w : List UInt8) : univ 2 (encW ws) (univ 1 (i : Int) (encS (bytes w))) = encW (ws.set i w) := by
  show encL ((decL (encL (ws.map fun w => encS (bytes w)))).set ((decL (encL [(i : Int), encS (bytes w)])).getD 0 0).toNat ((decL (encL [(i : Int), encS (bytes w)])).getD 1 0)) = _
  rw [decL_encL, decL_encL]
  unfold encW
  rw [List.map_set]
  rfl
theorem strs_enc (ws : List (List UInt8)) : strsOf (encW ws) = ws.map fun w => Value.string (bytes w) := by
  unfold strsOf encW
  rw [decL_encL, List.map_map]
  apply List.map_congr_left
  intro w _
  simp

-- NUMBERS

end Txt
end Go.Proofs.YtjjijagclgambaaGreatDoor
