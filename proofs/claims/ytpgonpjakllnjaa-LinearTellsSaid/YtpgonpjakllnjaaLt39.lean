/-
  The kit's shelf laid at this program: slices.Sorted (with Collect, AppendSeq), maps.Keys, slices.Sort: printed by genly.py.
-/
import Derived.Test.YtpgonpjakllnjaaChecked
import Derived.Shelf.SlIterI.Nil
import Derived.Shelf.SlIterI.Sorted
import Derived.Shelf.SortM.Plain
import Derived.Shelf.SortM.SortNone
import Derived.Shelf.Small.Bits
import Derived.Test.YtpgonpjakllnjaaLt37
import Derived.RangeFuncBox
import Derived.RangeFuncLeaves
import Derived.Shelf.Abstract
import Derived.Shelf.AbstractIn
import Derived.Maps.Range
section
namespace Go.Proofs.Ytpgonpjakllnjaa
open Go.Proofs Go.Shelf
namespace Lt

def keysA_ren : Go.Shelf.Ren := ⟨fun | 7 => 70 | 10 => 75 | n => n, fun | 23 => 63 | 26 => 3 | 28 => 102 | 27 => 101 | 33 => 79 | n => n, fun n => n⟩
theorem keysA : SlLaysZI.n7 Try.prog keysA_ren := {
  mixed := by kernel_rfl
  f7 := ⟨Try.f70.name, by kernel_rfl, Try.func70.trans (congrArg some (by kernel_rfl))⟩
  f10 := ⟨Try.f75.name, by kernel_rfl, Try.func75.trans (congrArg some (by kernel_rfl))⟩
  t0 := Try.underlying0
  a0 := Try.isAgg0
  z0 := Try.sizeOf0
  v0 := Try.zeroValue0
  t4 := Try.underlying4
  a4 := Try.isAgg4
  z4 := Try.sizeOf4
  v4 := Try.zeroValue4
  t23 := Try.underlying63
  a23 := Try.isAgg63
  z23 := Try.sizeOf63
  v23 := Try.zeroValue63
  t26 := Try.underlying3
  a26 := Try.isAgg3
  z26 := Try.sizeOf3
  v26 := Try.zeroValue3
  t27 := Try.underlying101
  a27 := Try.isAgg101
  z27 := Try.sizeOf101
  v27 := Try.zeroValue101
  t28 := Try.underlying102
  a28 := Try.isAgg102
  z28 := Try.sizeOf102
  v28 := Try.zeroValue102
  t33 := Try.underlying79
  a33 := Try.isAgg79
  z33 := Try.sizeOf79
  v33 := Try.zeroValue79 }

def sortedA_ren : Go.Shelf.Ren := ⟨fun | 6 => 69 | 8 => 73 | 9 => 74 | 11 => 76 | 13 => 78 | 12 => 77 | 23 => 88 | 24 => 89 | 14 => 79 | 15 => 80 | 16 => 81 | 17 => 82 | 18 => 83 | 19 => 84 | 20 => 85 | 21 => 86 | 22 => 87 | 25 => 90 | 26 => 91 | 27 => 92 | 28 => 93 | 29 => 94 | 30 => 95 | 31 => 96 | n => n, fun | 26 => 3 | 28 => 102 | 24 => 32 | 37 => 110 | 48 => 120 | 50 => 29 | 40 => 113 | 39 => 112 | 45 => 89 | 51 => 122 | 55 => 126 | 57 => 128 | 58 => 129 | 33 => 79 | n => n, fun n => n⟩
theorem sortedA : SlLaysZI.n6 Try.prog sortedA_ren := {
  mixed := by kernel_rfl
  f6 := ⟨Try.f69.name, by kernel_rfl, Try.func69.trans (congrArg some (by kernel_rfl))⟩
  f8 := ⟨Try.f73.name, by kernel_rfl, Try.func73.trans (congrArg some (by kernel_rfl))⟩
  f11 := ⟨Try.f76.name, by kernel_rfl, Try.func76.trans (congrArg some (by kernel_rfl))⟩
  t0 := Try.underlying0
  a0 := Try.isAgg0
  z0 := Try.sizeOf0
  v0 := Try.zeroValue0
  t24 := Try.underlying32
  a24 := Try.isAgg32
  z24 := Try.sizeOf32
  v24 := Try.zeroValue32
  t26 := Try.underlying3
  a26 := Try.isAgg3
  z26 := Try.sizeOf3
  v26 := Try.zeroValue3
  t28 := Try.underlying102
  a28 := Try.isAgg102
  z28 := Try.sizeOf102
  v28 := Try.zeroValue102
  i26 := by kernel_rfl }

def sortA_ren : Go.Shelf.Ren := ⟨fun | 5 => 74 | 8 => 78 | 7 => 77 | 19 => 88 | 20 => 89 | 10 => 79 | 11 => 80 | 12 => 81 | 13 => 82 | 14 => 83 | 15 => 84 | 16 => 85 | 17 => 86 | 18 => 87 | 30 => 90 | 31 => 91 | 32 => 92 | 33 => 93 | 34 => 94 | 35 => 95 | 40 => 96 | n => n, fun | 23 => 32 | 25 => 3 | 32 => 110 | 22 => 32 | 44 => 120 | 46 => 29 | 36 => 113 | 35 => 112 | 41 => 89 | 53 => 122 | 57 => 126 | 63 => 128 | 64 => 129 | n => n, fun n => n⟩
theorem sortA : SlLaysM.n5 Try.prog sortA_ren := {
  mixed := by kernel_rfl
  f5 := ⟨Try.f74.name, by kernel_rfl, Try.func74.trans (congrArg some (by kernel_rfl))⟩
  f7 := ⟨Try.f77.name, by kernel_rfl, Try.func77.trans (congrArg some (by kernel_rfl))⟩
  f8 := Try.func78.trans (congrArg some (by kernel_rfl))
  f10 := ⟨Try.f79.name, by kernel_rfl, Try.func79.trans (congrArg some (by kernel_rfl))⟩
  f11 := ⟨Try.f80.name, by kernel_rfl, Try.func80.trans (congrArg some (by kernel_rfl))⟩
  f12 := ⟨Try.f81.name, by kernel_rfl, Try.func81.trans (congrArg some (by kernel_rfl))⟩
  f13 := ⟨Try.f82.name, by kernel_rfl, Try.func82.trans (congrArg some (by kernel_rfl))⟩
  f14 := ⟨Try.f83.name, by kernel_rfl, Try.func83.trans (congrArg some (by kernel_rfl))⟩
  f15 := ⟨Try.f84.name, by kernel_rfl, Try.func84.trans (congrArg some (by kernel_rfl))⟩
  f16 := ⟨Try.f85.name, by kernel_rfl, Try.func85.trans (congrArg some (by kernel_rfl))⟩
  f17 := ⟨Try.f86.name, by kernel_rfl, Try.func86.trans (congrArg some (by kernel_rfl))⟩
  f18 := ⟨Try.f87.name, by kernel_rfl, Try.func87.trans (congrArg some (by kernel_rfl))⟩
  f19 := Try.func88.trans (congrArg some (by kernel_rfl))
  f20 := Try.func89.trans (congrArg some (by kernel_rfl))
  f30 := ⟨Try.f90.name, by kernel_rfl, Try.func90.trans (congrArg some (by kernel_rfl))⟩
  f31 := Try.func91.trans (congrArg some (by kernel_rfl))
  f32 := Try.func92.trans (congrArg some (by kernel_rfl))
  f33 := ⟨Try.f93.name, by kernel_rfl, Try.func93.trans (congrArg some (by kernel_rfl))⟩
  f34 := ⟨Try.f94.name, by kernel_rfl, Try.func94.trans (congrArg some (by kernel_rfl))⟩
  f35 := ⟨Try.f95.name, by kernel_rfl, Try.func95.trans (congrArg some (by kernel_rfl))⟩
  f40 := ⟨Try.f96.name, by kernel_rfl, Try.func96.trans (congrArg some (by kernel_rfl))⟩
  t0 := Try.underlying0
  a0 := Try.isAgg0
  z0 := Try.sizeOf0
  v0 := Try.zeroValue0
  t3 := Try.underlying3
  a3 := Try.isAgg3
  z3 := Try.sizeOf3
  v3 := Try.zeroValue3
  t4 := Try.underlying4
  a4 := Try.isAgg4
  z4 := Try.sizeOf4
  v4 := Try.zeroValue4
  t5 := Try.underlying5
  a5 := Try.isAgg5
  z5 := Try.sizeOf5
  v5 := Try.zeroValue5
  t9 := Try.underlying9
  a9 := Try.isAgg9
  z9 := Try.sizeOf9
  v9 := Try.zeroValue9
  t22 := Try.underlying32
  a22 := Try.isAgg32
  z22 := Try.sizeOf32
  v22 := Try.zeroValue32
  t23 := Try.underlying32
  a23 := Try.isAgg32
  z23 := Try.sizeOf32
  v23 := Try.zeroValue32
  t25 := Try.underlying3
  a25 := Try.isAgg3
  z25 := Try.sizeOf3
  v25 := Try.zeroValue3
  t32 := Try.underlying110
  a32 := Try.isAgg110
  z32 := Try.sizeOf110
  v32 := Try.zeroValue110
  t35 := Try.underlying112
  a35 := Try.isAgg112
  z35 := Try.sizeOf112
  v35 := Try.zeroValue112
  t36 := Try.underlying113
  a36 := Try.isAgg113
  z36 := Try.sizeOf113
  v36 := Try.zeroValue113
  t41 := Try.underlying89
  a41 := Try.isAgg89
  z41 := Try.sizeOf89
  v41 := Try.zeroValue89
  t44 := Try.underlying120
  a44 := Try.isAgg120
  z44 := Try.sizeOf120
  v44 := Try.zeroValue120
  t46 := Try.underlying29
  a46 := Try.isAgg29
  z46 := Try.sizeOf29
  v46 := Try.zeroValue29
  t53 := Try.underlying122
  a53 := Try.isAgg122
  z53 := Try.sizeOf122
  v53 := Try.zeroValue122
  t57 := Try.underlying126
  a57 := Try.isAgg126
  z57 := Try.sizeOf126
  v57 := Try.zeroValue126
  t63 := Try.underlying128
  a63 := Try.isAgg128
  z63 := Try.sizeOf128
  v63 := Try.zeroValue128
  t64 := Try.underlying129
  a64 := Try.isAgg129
  z64 := Try.sizeOf129
  v64 := Try.zeroValue129 }

end Lt
end Go.Proofs.Ytpgonpjakllnjaa
end

/-
  LinearTells (39): slices.Sorted(maps.Keys(m)) at this program.
-/
section
namespace Go.Proofs.Ytpgonpjakllnjaa
open Go.RowKit Go.Maps Go.Sort Go.Shelf Go.Proofs
open Go.Vm Go.Vm.Md Lm
namespace Lt

theorem sortsA (m : Nat) : AnyZI.SortsIn Try.prog sortedA_ren Fence.wide m :=
  ⟨fun blk off cap ss W hH hblk hsz => callsIn_wide.2 (AnyM.slices_Sort_int sortA blk off cap ss W hH hblk hsz),
   fun p cap W => callsIn_wide.2 (AnyM.slices_Sort_int_none sortA p cap W)⟩
theorem sortedK {H : Type} (Bm b nn : Nat) (D0 : DataW H) (R : Value → Option (DataW H × List MemPlace)) (w : World) (hBl : Bm < w.heap.size) (hm : w.cell? ⟨Bm, 0, none⟩ = some (.map (some b))) (hown : w.ownsMap Try.prog 3 R b nn D0) (hmax : Maps.size D0 ≤ 1000000) :
    Calls Try.prog 69 #[.func (.func 75) #[] #[.pointer (some ⟨Bm, 0, none⟩)]] w fun e w' => ∃ (v : Value) (ss : List Int), e = .returned v ∧ ss.Perm (intKeys D0) ∧
      w'.ownsRow w.heap.size 3 1 v ss.length ((ss.mergeSort (fun x y => decide (x ≤ y))).map encZ) ∧ (v = .slice none 0 0 ↔ ss = []) ∧ Below w.heap.size w w' := by
  refine (callsIn_wide (n := 5)).1 ?_
  have hseq : SeqGives Fence.wide (5 - 1 - 1 - 1) Try.prog 75 #[.pointer (some ⟨Bm, 0, none⟩)] encZ (fun ss => ss.Perm (intKeys D0)) (Maps.size D0) w :=
    AnyZI.keys_gives (ρ := keysA_ren) { keysA with } Fence.wide _ trivial rfl (by omega) Bm b nn D0 w hBl hm hown
  exact AnyZI.sorted_in sortedA Fence.wide 5 trivial trivial trivial trivial rfl (by omega) (sortsA _) (enters_of Try.func74 (by kernel_rfl) rfl) 75 #[.pointer (some ⟨Bm, 0, none⟩)] trivial (enters_of Try.func75 (by kernel_rfl) rfl) _ _ (by unfold maxLen; omega) (by omega) w hseq
theorem framed_of_below {w w' : World} (h : Go.RowKit.Below w.heap.size w w') : Framed w w' := by
  obtain ⟨h1, h2, h3, h4, h5⟩ := h
  exact ⟨h4, h5, h2, h1, h3⟩
theorem rowOut_of {w w' : World} {v' : Value} {L : List Int} (h : w'.ownsRow w.heap.size 3 1 v' L.length (L.map Go.encZ)) (hnn : v' ≠ .slice none 0 0) (hf : Framed w w') : RowOut w w' v' 3 [.i64] L L.length := by
  obtain ⟨_, h⟩ := h
  rcases h with ⟨h1, _⟩ | ⟨g, cap, cur, rfl, hg, hc, _, _, hs, ht⟩
  · exact absurd h1 hnn
  · refine ⟨hf, by simp, g, cap, cur, (0, 0), rfl, hg, hc, ?_, hs, .inl (Nat.le_refl _)⟩
    rw [rowOf1]
    have : L.map (Value.int .i64) = L.map Go.encZ := rfl
    rw [this, ← ht]; exact List.take_prefix _ _
theorem entM_keys : ∀ (M : List Int), (entM M).map (·.1) = (keysM M).map (Value.int .i64)
  | [] => rfl
  | [_] => rfl
  | a :: b :: r => by simp only [entM, keysM, List.map_cons, entM_keys r]
theorem keysI_up (M : List Int) : (keysI M).Pairwise fun a b => a ≤ b := by
  unfold keysI keysR
  refine List.pairwise_map.2 ?_
  refine (List.Pairwise.sublist List.filter_sublist List.pairwise_lt_range).imp fun h => ?_
  omega
abbrev RN : Value → Option (DataW Unit × List MemPlace) := fun _ => some (DataW.nil, [])
def selInt : Value → Int
  | .int _ k => k
  | _ => 0
theorem sorted69 {M : List Int} (hm : MOk M) : SrtC M := by
  intro w bb bm es cl hbl hcell hob hes hbn
  have hk : es.toList.map (·.key) = (keysM M).map (Value.int .i64) := by
    rw [← entM_keys, ← hes, List.map_map]; rfl
  have hlen : es.size = (keysM M).length := by
    have := congrArg List.length hk
    simpa using this
  have h256 : es.size ≤ 256 := by
    rw [hlen, keys_len _ hm.ev, ← cnt_all hm]; exact cntR_le M 256
  have rd1 : ∀ x ∈ es.toList, ∃ k, x.key = .int .i64 k ∧ Go.WideElems.rd Try.prog 3 RN x = some (.int .i64 k, .nil) := fun x hx => by
    have h1 : x.key ∈ (keysM M).map (Value.int .i64) := by rw [← hk]; exact List.mem_map.2 ⟨x, hx, rfl⟩
    obtain ⟨k, hkm, he⟩ := List.mem_map.1 h1
    obtain ⟨q1, q2⟩ := hm.ky k hkm
    have hwf : (Lit.int .i64 k).wf = true := by
      have := Go.RowKit.wrap64_wf k
      unfold Go.RowKit.wrap64 at this
      rwa [show (k + 9223372036854775808) % 18446744073709551616 - 9223372036854775808 = k by omega] at this
    refine ⟨k, he.symm, ?_⟩
    unfold Go.WideElems.rd
    rw [← he, Go.Maps.keyOf_int_mk Try.underlying3 hwf]
    rfl
  have own : w.ownsMap Try.prog 3 RN bm es.size (.map ((es.toList.map (Go.WideElems.rg Try.prog 3 RN)).foldr DataW.insert [])) := by
    refine ⟨es, cl, hob, ⟨by unfold maxLen; omega, ⟨hbn.1, hbn.2, ?_⟩, fun x hx => ?_⟩, Nat.le_refl _, rfl⟩
    · rw [hk]
      exact List.pairwise_map.2 (hm.nd.imp fun h e => h (by injection e))
    · obtain ⟨k, _, h⟩ := rd1 x hx
      exact ⟨_, h⟩
  have hik : (intKeys (H := Unit) (.map ((es.toList.map (Go.WideElems.rg Try.prog 3 RN)).foldr DataW.insert []))).Perm (keysM M) := by
    unfold intKeys
    refine ((Go.WideShapes.sorted_perm _).map _).trans ?_
    rw [List.map_map]
    refine List.Perm.of_eq (Eq.trans (List.map_congr_left (g := fun x : MapEntry => selInt x.key) fun x hx => ?_) ?_)
    · obtain ⟨k, h1, h2⟩ := rd1 x hx
      simp only [Function.comp, Go.WideElems.rg, h2, Option.getD_some, h1]
      rfl
    · have : es.toList.map (fun x : MapEntry => selInt x.key) = (es.toList.map (·.key)).map selInt := by rw [List.map_map]; rfl
      rw [this, hk, List.map_map]
      exact (List.map_congr_left fun k _ => rfl).trans (List.map_id _)
  refine (sortedK bb bm _ _ RN w hbl hcell own (by
    show ((es.toList.map (Go.WideElems.rg Try.prog 3 RN)).foldr DataW.insert []).length ≤ 1000000
    rw [length_sorted]; simp; omega)).mono fun e w' ⟨v, ss, he, hperm, hrow, hnil, hbw⟩ => ⟨v, he, ?_⟩
  have hp : ss.Perm (keysI M) := hperm.trans (hik.trans (keysR_perm hm).symm)
  have hms : ss.mergeSort (fun x y => decide (x ≤ y)) = keysI M := by
    refine List.Perm.eq_of_pairwise (le := fun a b => a ≤ b) (fun a b _ _ h1 h2 => by omega) ?_ (keysI_up M) ((List.mergeSort_perm ss _).trans hp)
    have := List.pairwise_mergeSort (le := fun x y : Int => decide (x ≤ y)) (fun a b c h1 h2 => by simp at *; omega) (fun a b => by simp; omega) ss
    exact this.imp fun h => by simpa using h
  have hl : ss.length = (keysI M).length := hp.length_eq
  rw [hms, hl] at hrow
  by_cases h0 : keysI M = []
  · have hs0 : ss = [] := by
      rw [h0] at hp
      exact List.Perm.eq_nil hp
    exact .inl ⟨h0, hnil.2 hs0, framed_of_below hbw⟩
  · exact .inr ⟨h0, rowOut_of hrow (fun hv => by
      have hs0 := hnil.1 hv
      rw [hs0] at hp
      exact h0 (List.Perm.eq_nil hp.symm)) (framed_of_below hbw)⟩
end Lt
end Go.Proofs.Ytpgonpjakllnjaa
end
