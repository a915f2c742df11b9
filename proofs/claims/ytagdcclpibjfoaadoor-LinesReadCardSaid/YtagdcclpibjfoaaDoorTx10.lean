/-
  Texts (10): words, joined by blanks, and split again.
-/
import Derived.Test.YtagdcclpibjfoaaDoorTx9
import Derived.Lib.SplitLaws
import Derived.Lib.IndexBytes
namespace Go.Proofs.YtagdcclpibjfoaaDoor
open Go.Vm
namespace Txt

/-- Words, with blanks between. -/
def joinW : List (List UInt8) → List UInt8
  | [] => []
  | [w] => w
  | w :: v :: ws => w ++ (32 :: joinW (v :: ws))
def bytes (l : List UInt8) : ByteArray := ⟨l.toArray⟩
theorem idx_none : ∀ {w : List UInt8}, (32 : UInt8) ∉ w → Lib.indexByte w 32 = -1
  | [], _ => rfl
  | b :: w, h => by
    have hb : (b == 32) = false := by
      rw [beq_eq_false_iff_ne]; intro e; exact h (by rw [e]; exact List.mem_cons_self)
    have := idx_none (w := w) (fun h1 => h (List.mem_cons_of_mem _ h1))
    unfold Lib.indexByte
    rw [hb, this]; rfl
theorem idx_word : ∀ {w : List UInt8} (r : List UInt8), (32 : UInt8) ∉ w → Lib.indexByte (w ++ 32 :: r) 32 = (w.length : Int)
  | [], r, _ => rfl
  | b :: w, r, h => by
    have hb : (b == 32) = false := by
      rw [beq_eq_false_iff_ne]; intro e; exact h (by rw [e]; exact List.mem_cons_self)
    have hi := idx_word (w := w) r (fun h1 => h (List.mem_cons_of_mem _ h1))
    show (if b == 32 then (0 : Int) else if Lib.indexByte (w ++ 32 :: r) 32 == -1 then -1 else Lib.indexByte (w ++ 32 :: r) 32 + 1) = _
    rw [hb, hi]
    have hne : ((w.length : Int) == -1) = false := by rw [beq_eq_false_iff_ne]; omega
    rw [hne]
    simp
theorem count_join : ∀ {ws : List (List UInt8)}, (∀ w ∈ ws, (32 : UInt8) ∉ w) → (joinW ws).count 32 = ws.length - 1
  | [], _ => rfl
  | [w], h => by
    show w.count 32 = 0
    exact List.count_eq_zero.2 (h w List.mem_cons_self)
  | w :: v :: ws, h => by
    show (w ++ (32 :: joinW (v :: ws))).count 32 = _
    rw [List.count_append, List.count_eq_zero.2 (h w List.mem_cons_self), List.count_cons_self, count_join (fun x hx => h x (List.mem_cons_of_mem _ hx))]
    simp
theorem split_join : ∀ {ws : List (List UInt8)}, ws ≠ [] → (∀ w ∈ ws, (32 : UInt8) ∉ w) → Lib.splitB (bytes [32]) 0 (ws.length - 1) (bytes (joinW ws)) = ws.map bytes
  | [], h, _ => absurd rfl h
  | [w], _, _ => rfl
  | w :: v :: ws, _, h => by
    have hi : Lib.indexB (bytes (joinW (w :: v :: ws))) (bytes [32]) = (w.length : Int) := by
      show Lib.index (w ++ (32 :: joinW (v :: ws))).toArray.toList [32] = _
      rw [List.toList_toArray, Lib.index_one]
      exact idx_word _ (h w List.mem_cons_self)
    have ih := split_join (ws := v :: ws) (by simp) (fun x hx => h x (List.mem_cons_of_mem _ hx))
    show Lib.splitB (bytes [32]) 0 ((v :: ws).length - 1 + 1) (bytes (joinW (w :: v :: ws))) = _
    have hne : ((w.length : Int) == -1) = false := by rw [beq_eq_false_iff_ne]; omega
    unfold Lib.splitB
    rw [hi, hne]
    simp only [Bool.false_eq_true, if_false, Int.toNat_natCast, Nat.add_zero, List.map_cons]
    have e1 : (bytes (joinW (w :: v :: ws))).extract 0 w.length = bytes w := by
      rw [Lib.extract_eq]
      apply ByteArray.ext
      show (((w ++ (32 :: joinW (v :: ws))).toArray.toList.drop 0).take (w.length - 0)).toArray = w.toArray
      simp
    have e2 : (bytes (joinW (w :: v :: ws))).extract (w.length + (bytes [32]).size) (bytes (joinW (w :: v :: ws))).size = bytes (joinW (v :: ws)) := by
      rw [Lib.extract_eq]
      apply ByteArray.ext
      have hs : (bytes (joinW (w :: v :: ws))).size = w.length + (1 + (joinW (v :: ws)).length) := by
        show (w ++ (32 :: joinW (v :: ws))).toArray.size = _
        simp; omega
      rw [hs]
      show (((w ++ (32 :: joinW (v :: ws))).toArray.toList.drop (w.length + 1)).take (w.length + (1 + (joinW (v :: ws)).length) - (w.length + 1))).toArray = (joinW (v :: ws)).toArray
      congr 1
      rw [List.toList_toArray, List.drop_append, List.take_of_length_le (by simp; omega)]
      have : w.drop (w.length + 1) = [] := List.drop_eq_nil_of_le (by omega)
      rw [this, show w.length + 1 - w.length = 1 by omega]; rfl
    rw [e1, e2, ih]; rfl
/-- The cell that the library reads ahead of a search. -/
def MaxW (w : World) : Prop := ∃ m : Int, w.cell? ⟨0, 0, none⟩ = some (.int .i64 m)
/-- Words are split at the blanks. -/
theorem split97 (w : World) (hm : MaxW w) {ws : List (List UInt8)} (h0 : ws ≠ []) (hb : ∀ x ∈ ws, (32 : UInt8) ∉ x) (hl : (joinW ws).length < 4294967281) :
    Calls Tryd.prog 97 #[.string (bytes (joinW ws)), .string (bytes [32])] w (fun e w' => e = .returned (.slice (some ⟨w.heap.size, 0, none⟩) ws.length ws.length) ∧ w' = w.alloc (.cells ((ws.map fun x => Value.string (bytes x)).toArray) 9)) := by
  obtain ⟨m, hm⟩ := hm
  have hc : Lib.countB (bytes (joinW ws)) (bytes [32]) = ws.length - 1 := by
    show Lib.count (joinW ws).toArray.toList [32] = _
    rw [List.toList_toArray, Lib.count_one, count_join hb]
  have hpos : 0 < ws.length := List.length_pos_iff.2 h0
  refine (Tryd.strings_Split (bytes (joinW ws)) (bytes [32]) m w (by show (joinW ws).toArray.size < _; simpa using hl) hm (by decide)).mono fun e w' ⟨he, hw⟩ => ⟨?_, ?_⟩
  · rw [he, hc, show ws.length - 1 + 1 = ws.length by omega]
  · rw [hw, hc, split_join h0 hb, List.map_map]; rfl
end Txt
end Go.Proofs.YtagdcclpibjfoaaDoor
