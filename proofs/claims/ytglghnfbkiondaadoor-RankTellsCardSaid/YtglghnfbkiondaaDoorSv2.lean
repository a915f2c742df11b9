/-
  slices.Sorted of slices.Values and of maps.Keys at this program: contracts (the kit's worked proofs turned).
-/
import Derived.Test.YtglghnfbkiondaaDoorSv1
import Derived.Test.YtglghnfbkiondaaDoorLy
import Derived.RangeFuncBox
import Derived.RangeFuncLeaves
import Derived.Shelf.Abstract
import Derived.Shelf.AbstractIn
import Derived.WalkKit
import Derived.OwnWalkIn
import Derived.TacticsInMore
import Derived.LoopNIn
import Derived.LoopIn
namespace Go.Proofs.YtglghnfbkiondaaDoor
open Go.RowKit Go.Maps Go.Sort Go.Shelf Go.Proofs
namespace Sv

attribute [local go_sem] Oper.semAt_some

def upto {α : Type} (f : Nat → α) (k : Nat) : List α := (List.range k).map f
theorem upto_succ {α : Type} (f : Nat → α) (k : Nat) : upto f (k + 1) = upto f k ++ [f k] := by simp [upto, List.range_succ]
theorem upto_length {α : Type} (f : Nat → α) (k : Nat) : (upto f k).length = k := by simp [upto]
theorem upto_all (zs : List Int) : upto (fun j => zs[j]?.getD 0) zs.length = zs := by
  apply List.ext_getElem
  · simp [upto]
  · intro i h1 h2
    simp [upto, h2]

set_option maxRecDepth 100000 in
set_option maxHeartbeats 2000000 in
theorem values1_in (F : Fence) (n : Nat) (h35 : F.fn 35) (hro : F.round = none) (hn : 1 ≤ n) (l Bs b off len cap : Nat) (w : World) (zs : List Int) (hreach : len * 8 ≤ 140737488351232) (hb : b < w.heap.size) (hBl : Bs < w.heap.size) (J : List Int → World → Prop) (hB : ∀ pre W1, J pre W1 → Below w.heap.size w W1)
    (hY : ∀ pre x W, J pre W → pre.length < len → YieldAt F (n - 1) Tryd.prog l #[.int .i64 x] W fun e W' => e = .returned (.bool true) ∧ J (pre ++ [x]) W')
    (W : World) (hBs : w.cell? ⟨Bs, 0, none⟩ = some (.slice (some ⟨b, off, none⟩) len cap)) (hc : ∀ j, j < len → w.cell? ⟨b, off + j, none⟩ = some (.int .i64 (zs[j]?.getD 0))) (h0 : J [] W) :
    CallsIn F n Tryd.prog 35 #[.func (.yield l) #[] #[], .pointer (some ⟨Bs, 0, none⟩)] W fun e W' => (∃ v, e = .returned v) ∧ J (upto (fun j => zs[j]?.getD 0) len) W' := by
  have hBs' : W.cell? ⟨Bs, 0, none⟩ = some (.slice (some ⟨b, off, none⟩) len cap) := ((hB _ _ h0).cell (p := ⟨Bs, 0, none⟩) hBl).trans hBs
  refine callsIn_of_wp Tryd.func35 rfl h35 ?_ hro
  simp only [Tryd.ntmps35, List.size_toArray, List.length_cons, List.length_nil, Nat.reduceAdd, Nat.reduceSub, Array.replicate_succ, Array.replicate_zero, List.push_toArray, List.append_toArray, List.nil_append, List.cons_append]
  gi_wp2
  gi_loopw [7] (fun i wr => ∃ k : Nat, k ≤ len ∧ i = .int .i64 k ∧ J (upto (fun j => zs[j]?.getD 0) k) wr)
    (fun i _ => len - (intOf i).toNat)
  case atStart => exact ⟨0, Nat.zero_le _, rfl, h0⟩
  case round =>
    obtain ⟨k, hk, rfl, hJs⟩ := hrel
    have hcx : k < len → wr.cell? ⟨b, off + k, none⟩ = some (.int .i64 (zs[k]?.getD 0)) := fun h => ((hB _ _ hJs).cell (p := ⟨b, off + k, none⟩) hb).trans (hc k h)
    by_cases hlt : k < len
    · obtain ⟨fn, tmps, assign, body, hy, hR⟩ := hY _ (zs[k]?.getD 0) wr hJs (by rw [upto_length]; exact hlt)
      have hcx' := hcx hlt
      gi_wp2
      refine hR.mono ?_
      rintro e W3 ⟨rfl, hJ3⟩
      gi_wp2
      go_roundw
      case rel => exact ⟨k + 1, by omega, by simp, by rw [upto_succ]; exact hJ3⟩
      case measure => simp [intOf]; omega
    · obtain rfl : k = len := by omega
      gi_wp2
      go_end0
      exact ⟨⟨_, rfl⟩, hJs⟩

/-- slices.Values of a slice hands its numbers over, in order. -/
theorem values_gives (F : Fence) (n : Nat) (h35 : F.fn 35) (hro : F.round = none) (hn : 1 ≤ n) (Bs b off cap : Nat) (zs : List Int) (hreach : zs.length * 8 ≤ 140737488351232) (w : World) (hBl : Bs < w.heap.size) (hb : b < w.heap.size)
    (hBs : w.cell? ⟨Bs, 0, none⟩ = some (.slice (some ⟨b, off, none⟩) zs.length cap)) (hc : ∀ j, j < zs.length → w.cell? ⟨b, off + j, none⟩ = some (.int .i64 (zs[j]?.getD 0))) :
    SeqGivesB F n Tryd.prog 35 #[.pointer (some ⟨Bs, 0, none⟩)] encZ (fun ys => ys = zs) zs.length w := fun l J W hW hJ hB hY h0 => by
  refine (values1_in F n h35 hro hn l Bs b off zs.length cap w zs hreach hb hBl J hB (fun pre x W hj hl => (hY pre x W hj hl).mono fun e w' hr => ⟨hr.1, hr.2.1⟩) W hBs hc h0).mono ?_
  rintro e W' ⟨hv, hj⟩
  exact ⟨hv, zs, rfl, by rw [upto_all] at hj; exact hj⟩

theorem sortsA (m : Nat) : AnyZI.SortsIn Tryd.prog Rk.sortedA_ren Fence.wide m :=
  ⟨fun blk off cap ss W hH hblk hsz => callsIn_wide.2 (AnyM.slices_Sort_int Rk.sortA blk off cap ss W hH hblk hsz),
   fun p cap W => callsIn_wide.2 (AnyM.slices_Sort_int_none Rk.sortA p cap W)⟩
/-- slices.Sorted(slices.Values(s)). -/
theorem sortedV (Bs b off cap : Nat) (zs : List Int) (hreach : zs.length ≤ 1000000) (w : World) (hBl : Bs < w.heap.size) (hb : b < w.heap.size)
    (hBs : w.cell? ⟨Bs, 0, none⟩ = some (.slice (some ⟨b, off, none⟩) zs.length cap)) (hc : ∀ j, j < zs.length → w.cell? ⟨b, off + j, none⟩ = some (.int .i64 (zs[j]?.getD 0))) :
    Calls Tryd.prog 19 #[.func (.func 35) #[] #[.pointer (some ⟨Bs, 0, none⟩)]] w fun e w' => ∃ v, e = .returned v ∧
      w'.ownsRow w.heap.size 3 1 v zs.length ((zs.mergeSort (fun x y => decide (x ≤ y))).map encZ) ∧ (v = .slice none 0 0 ↔ zs = []) ∧ Below w.heap.size w w' := by
  refine (callsIn_wide (n := 5)).1 ?_
  have hseq := values_gives Fence.wide (5 - 1 - 1 - 1) trivial rfl (by omega) Bs b off cap zs (by omega) w hBl hb hBs hc
  refine (sortedB_in Rk.sortedA Fence.wide 5 trivial trivial trivial trivial rfl (by omega) (sortsA _) (enters_of Tryd.func24 (by kernel_rfl) rfl) 35 #[.pointer (some ⟨Bs, 0, none⟩)] trivial (enters_of Tryd.func35 (by kernel_rfl) rfl) _ _ (by unfold maxLen; omega) (by omega) w hseq).mono ?_
  rintro e w' ⟨v, ss, he, rfl, hrow, hnil, hbl⟩
  exact ⟨v, he, hrow, hnil, hbl⟩
/-- slices.Sorted(maps.Keys(m)). -/
theorem sortedK {H : Type} (Bm b nn : Nat) (D0 : DataW H) (R : Value → Option (DataW H × List MemPlace)) (w : World) (hBl : Bm < w.heap.size) (hm : w.cell? ⟨Bm, 0, none⟩ = some (.map (some b))) (hown : w.ownsMap Tryd.prog 3 R b nn D0) (hmax : Maps.size D0 ≤ 1000000) :
    Calls Tryd.prog 19 #[.func (.func 40) #[] #[.pointer (some ⟨Bm, 0, none⟩)]] w fun e w' => ∃ (v : Value) (ss : List Int), e = .returned v ∧ ss.Perm (intKeys D0) ∧
      w'.ownsRow w.heap.size 3 1 v ss.length ((ss.mergeSort (fun x y => decide (x ≤ y))).map encZ) ∧ (v = .slice none 0 0 ↔ ss = []) ∧ Below w.heap.size w w' := by
  refine (callsIn_wide (n := 5)).1 ?_
  have hseq : SeqGives Fence.wide (5 - 1 - 1 - 1) Tryd.prog 40 #[.pointer (some ⟨Bm, 0, none⟩)] encZ (fun ss => ss.Perm (intKeys D0)) (Maps.size D0) w :=
    AnyZI.keys_gives (ρ := Rk.keysA_ren) { Rk.keysA with } Fence.wide _ trivial rfl (by omega) Bm b nn D0 w hBl hm hown
  exact AnyZI.sorted_in Rk.sortedA Fence.wide 5 trivial trivial trivial trivial rfl (by omega) (sortsA _) (enters_of Tryd.func24 (by kernel_rfl) rfl) 40 #[.pointer (some ⟨Bm, 0, none⟩)] trivial (enters_of Tryd.func40 (by kernel_rfl) rfl) _ _ (by unfold maxLen; omega) (by omega) w hseq
end Sv
end Go.Proofs.YtglghnfbkiondaaDoor
