/-
  The kit's shelf laid at this program: slices.Sorted (with Collect, AppendSeq), maps.Keys, slices.Sort: printed by genly.py.
-/
import Derived.Test.YtgiomdniafpjnaaGreatDoorChecked
import Derived.Shelf.SlIterI.Nil
import Derived.Shelf.SlIterI.Sorted
import Derived.Shelf.SortM.Plain
import Derived.Shelf.SortM.SortNone
import Derived.Shelf.Small.Bits
import Derived.Test.YtgiomdniafpjnaaGreatDoorBa
import Derived.Test.YtgiomdniafpjnaaGreatDoorVm47
import Derived.RangeFuncBox
import Derived.RangeFuncLeaves
import Derived.Shelf.Abstract
import Derived.Shelf.AbstractIn
import Derived.Maps.Range
section
namespace Go.Proofs.YtgiomdniafpjnaaGreatDoor
open Go.Proofs Go.Shelf
namespace We

def keysA_ren : Go.Shelf.Ren := ⟨fun | 7 => 132 | 10 => 171 | n => n, fun | 23 => 98 | 26 => 3 | 3 => 110 | 28 => 225 | 27 => 224 | 33 => 171 | n => n, fun n => n⟩
theorem keysA : SlLaysZI.n7 Tryz.prog keysA_ren := {
  mixed := by kernel_rfl
  f7 := ⟨Tryz.f132.name, by kernel_rfl, Tryz.func132.trans (congrArg some (by kernel_rfl))⟩
  f10 := ⟨Tryz.f171.name, by kernel_rfl, Tryz.func171.trans (congrArg some (by kernel_rfl))⟩
  t0 := Tryz.underlying0
  a0 := Tryz.isAgg0
  z0 := Tryz.sizeOf0
  v0 := Tryz.zeroValue0
  t4 := Tryz.underlying4
  a4 := Tryz.isAgg4
  z4 := Tryz.sizeOf4
  v4 := Tryz.zeroValue4
  t23 := Tryz.underlying98
  a23 := Tryz.isAgg98
  z23 := Tryz.sizeOf98
  v23 := Tryz.zeroValue98
  t26 := Tryz.underlying3
  a26 := Tryz.isAgg3
  z26 := Tryz.sizeOf3
  v26 := Tryz.zeroValue3
  t27 := Tryz.underlying224
  a27 := Tryz.isAgg224
  z27 := Tryz.sizeOf224
  v27 := Tryz.zeroValue224
  t28 := Tryz.underlying225
  a28 := Tryz.isAgg225
  z28 := Tryz.sizeOf225
  v28 := Tryz.zeroValue225
  t33 := Tryz.underlying171
  a33 := Tryz.isAgg171
  z33 := Tryz.sizeOf171
  v33 := Tryz.zeroValue171 }

def sortedA_ren : Go.Shelf.Ren := ⟨fun | 6 => 131 | 8 => 169 | 9 => 170 | 11 => 208 | 13 => 210 | 12 => 209 | 23 => 249 | 24 => 154 | 14 => 240 | 15 => 241 | 16 => 242 | 17 => 243 | 18 => 244 | 19 => 245 | 20 => 246 | 21 => 247 | 22 => 248 | 25 => 266 | 26 => 267 | 27 => 268 | 28 => 269 | 29 => 270 | 30 => 271 | 31 => 290 | n => n, fun | 26 => 3 | 28 => 225 | 24 => 48 | 37 => 112 | 48 => 256 | 50 => 56 | 40 => 353 | 39 => 352 | 45 => 195 | 51 => 371 | 55 => 145 | 57 => 388 | 58 => 309 | 33 => 171 | n => n, fun n => n⟩
theorem sortedA : SlLaysZI.n6 Tryz.prog sortedA_ren := {
  mixed := by kernel_rfl
  f6 := ⟨Tryz.f131.name, by kernel_rfl, Tryz.func131.trans (congrArg some (by kernel_rfl))⟩
  f8 := ⟨Tryz.f169.name, by kernel_rfl, Tryz.func169.trans (congrArg some (by kernel_rfl))⟩
  f11 := ⟨Tryz.f208.name, by kernel_rfl, Tryz.func208.trans (congrArg some (by kernel_rfl))⟩
  t0 := Tryz.underlying0
  a0 := Tryz.isAgg0
  z0 := Tryz.sizeOf0
  v0 := Tryz.zeroValue0
  t24 := Tryz.underlying48
  a24 := Tryz.isAgg48
  z24 := Tryz.sizeOf48
  v24 := Tryz.zeroValue48
  t26 := Tryz.underlying3
  a26 := Tryz.isAgg3
  z26 := Tryz.sizeOf3
  v26 := Tryz.zeroValue3
  t28 := Tryz.underlying225
  a28 := Tryz.isAgg225
  z28 := Tryz.sizeOf225
  v28 := Tryz.zeroValue225
  i26 := by kernel_rfl }

def sortA_ren : Go.Shelf.Ren := ⟨fun | 5 => 170 | 8 => 210 | 7 => 209 | 19 => 249 | 20 => 154 | 10 => 240 | 11 => 241 | 12 => 242 | 13 => 243 | 14 => 244 | 15 => 245 | 16 => 246 | 17 => 247 | 18 => 248 | 30 => 266 | 31 => 267 | 32 => 268 | 33 => 269 | 34 => 270 | 35 => 271 | 40 => 290 | n => n, fun | 23 => 48 | 25 => 3 | 32 => 112 | 22 => 48 | 44 => 256 | 46 => 56 | 36 => 353 | 35 => 352 | 41 => 195 | 53 => 371 | 57 => 145 | 63 => 388 | 64 => 309 | n => n, fun n => n⟩
theorem sortA : SlLaysM.n5 Tryz.prog sortA_ren := {
  mixed := by kernel_rfl
  f5 := ⟨Tryz.f170.name, by kernel_rfl, Tryz.func170.trans (congrArg some (by kernel_rfl))⟩
  f7 := ⟨Tryz.f209.name, by kernel_rfl, Tryz.func209.trans (congrArg some (by kernel_rfl))⟩
  f8 := Tryz.func210.trans (congrArg some (by kernel_rfl))
  f10 := ⟨Tryz.f240.name, by kernel_rfl, Tryz.func240.trans (congrArg some (by kernel_rfl))⟩
  f11 := ⟨Tryz.f241.name, by kernel_rfl, Tryz.func241.trans (congrArg some (by kernel_rfl))⟩
  f12 := ⟨Tryz.f242.name, by kernel_rfl, Tryz.func242.trans (congrArg some (by kernel_rfl))⟩
  f13 := ⟨Tryz.f243.name, by kernel_rfl, Tryz.func243.trans (congrArg some (by kernel_rfl))⟩
  f14 := ⟨Tryz.f244.name, by kernel_rfl, Tryz.func244.trans (congrArg some (by kernel_rfl))⟩
  f15 := ⟨Tryz.f245.name, by kernel_rfl, Tryz.func245.trans (congrArg some (by kernel_rfl))⟩
  f16 := ⟨Tryz.f246.name, by kernel_rfl, Tryz.func246.trans (congrArg some (by kernel_rfl))⟩
  f17 := ⟨Tryz.f247.name, by kernel_rfl, Tryz.func247.trans (congrArg some (by kernel_rfl))⟩
  f18 := ⟨Tryz.f248.name, by kernel_rfl, Tryz.func248.trans (congrArg some (by kernel_rfl))⟩
  f19 := Tryz.func249.trans (congrArg some (by kernel_rfl))
  f20 := Tryz.func154.trans (congrArg some (by kernel_rfl))
  f30 := ⟨Tryz.f266.name, by kernel_rfl, Tryz.func266.trans (congrArg some (by kernel_rfl))⟩
  f31 := Tryz.func267.trans (congrArg some (by kernel_rfl))
  f32 := Tryz.func268.trans (congrArg some (by kernel_rfl))
  f33 := ⟨Tryz.f269.name, by kernel_rfl, Tryz.func269.trans (congrArg some (by kernel_rfl))⟩
  f34 := ⟨Tryz.f270.name, by kernel_rfl, Tryz.func270.trans (congrArg some (by kernel_rfl))⟩
  f35 := ⟨Tryz.f271.name, by kernel_rfl, Tryz.func271.trans (congrArg some (by kernel_rfl))⟩
  f40 := ⟨Tryz.f290.name, by kernel_rfl, Tryz.func290.trans (congrArg some (by kernel_rfl))⟩
  t0 := Tryz.underlying0
  a0 := Tryz.isAgg0
  z0 := Tryz.sizeOf0
  v0 := Tryz.zeroValue0
  t3 := Tryz.underlying3
  a3 := Tryz.isAgg3
  z3 := Tryz.sizeOf3
  v3 := Tryz.zeroValue3
  t4 := Tryz.underlying4
  a4 := Tryz.isAgg4
  z4 := Tryz.sizeOf4
  v4 := Tryz.zeroValue4
  t5 := Tryz.underlying5
  a5 := Tryz.isAgg5
  z5 := Tryz.sizeOf5
  v5 := Tryz.zeroValue5
  t9 := Tryz.underlying9
  a9 := Tryz.isAgg9
  z9 := Tryz.sizeOf9
  v9 := Tryz.zeroValue9
  t22 := Tryz.underlying48
  a22 := Tryz.isAgg48
  z22 := Tryz.sizeOf48
  v22 := Tryz.zeroValue48
  t23 := Tryz.underlying48
  a23 := Tryz.isAgg48
  z23 := Tryz.sizeOf48
  v23 := Tryz.zeroValue48
  t25 := Tryz.underlying3
  a25 := Tryz.isAgg3
  z25 := Tryz.sizeOf3
  v25 := Tryz.zeroValue3
  t32 := Tryz.underlying112
  a32 := Tryz.isAgg112
  z32 := Tryz.sizeOf112
  v32 := Tryz.zeroValue112
  t35 := Tryz.underlying352
  a35 := Tryz.isAgg352
  z35 := Tryz.sizeOf352
  v35 := Tryz.zeroValue352
  t36 := Tryz.underlying353
  a36 := Tryz.isAgg353
  z36 := Tryz.sizeOf353
  v36 := Tryz.zeroValue353
  t41 := Tryz.underlying195
  a41 := Tryz.isAgg195
  z41 := Tryz.sizeOf195
  v41 := Tryz.zeroValue195
  t44 := Tryz.underlying256
  a44 := Tryz.isAgg256
  z44 := Tryz.sizeOf256
  v44 := Tryz.zeroValue256
  t46 := Tryz.underlying56
  a46 := Tryz.isAgg56
  z46 := Tryz.sizeOf56
  v46 := Tryz.zeroValue56
  t53 := Tryz.underlying371
  a53 := Tryz.isAgg371
  z53 := Tryz.sizeOf371
  v53 := Tryz.zeroValue371
  t57 := Tryz.underlying145
  a57 := Tryz.isAgg145
  z57 := Tryz.sizeOf145
  v57 := Tryz.zeroValue145
  t63 := Tryz.underlying388
  a63 := Tryz.isAgg388
  z63 := Tryz.sizeOf388
  v63 := Tryz.zeroValue388
  t64 := Tryz.underlying309
  a64 := Tryz.isAgg309
  z64 := Tryz.sizeOf309
  v64 := Tryz.zeroValue309 }

end We
end Go.Proofs.YtgiomdniafpjnaaGreatDoor
end

/-
  Reports (Dw1): slices.Sorted(maps.Keys(m)) of a map whose keys are known.
-/
section
namespace Go.Proofs.YtgiomdniafpjnaaGreatDoor
open Go.RowKit Go.Maps Go.Sort Go.Shelf Go.Proofs
open Go.Vm
namespace We

theorem sortsA (m : Nat) : AnyZI.SortsIn Tryz.prog sortedA_ren Fence.wide m :=
  ⟨fun blk off cap ss W hH hblk hsz => callsIn_wide.2 (AnyM.slices_Sort_int sortA blk off cap ss W hH hblk hsz),
   fun p cap W => callsIn_wide.2 (AnyM.slices_Sort_int_none sortA p cap W)⟩
theorem sortedK {H : Type} (Bm b nn : Nat) (D0 : DataW H) (R : Value → Option (DataW H × List MemPlace)) (w : World) (hBl : Bm < w.heap.size) (hm : w.cell? ⟨Bm, 0, none⟩ = some (.map (some b))) (hown : w.ownsMap Tryz.prog 3 R b nn D0) (hmax : Maps.size D0 ≤ 1000000) :
    Calls Tryz.prog 131 #[.func (.func 171) #[] #[.pointer (some ⟨Bm, 0, none⟩)]] w fun e w' => ∃ (v : Value) (ss : List Int), e = .returned v ∧ ss.Perm (intKeys D0) ∧
      w'.ownsRow w.heap.size 3 1 v ss.length ((ss.mergeSort (fun x y => decide (x ≤ y))).map encZ) ∧ (v = .slice none 0 0 ↔ ss = []) ∧ Below w.heap.size w w' := by
  refine (callsIn_wide (n := 5)).1 ?_
  have hseq : SeqGives Fence.wide (5 - 1 - 1 - 1) Tryz.prog 171 #[.pointer (some ⟨Bm, 0, none⟩)] encZ (fun ss => ss.Perm (intKeys D0)) (Maps.size D0) w :=
    AnyZI.keys_gives (ρ := keysA_ren) { keysA with } Fence.wide _ trivial rfl (by omega) Bm b nn D0 w hBl hm hown
  exact AnyZI.sorted_in sortedA Fence.wide 5 trivial trivial trivial trivial rfl (by omega) (sortsA _) (enters_of Tryz.func170 (by kernel_rfl) rfl) 171 #[.pointer (some ⟨Bm, 0, none⟩)] trivial (enters_of Tryz.func171 (by kernel_rfl) rfl) _ _ (by unfold maxLen; omega) (by omega) w hseq
theorem framed_of_below {w w' : World} (h : Go.RowKit.Below w.heap.size w w') : Framed w w' := by
  obtain ⟨h1, h2, h3, h4, h5⟩ := h
  exact ⟨h4, h5, h2, h1, h3⟩

def ins (k : Int) : List Int → List Int
  | [] => [k]
  | x :: r => cond (iLt x k) (x :: ins k r) (k :: x :: r)
def isort : List Int → List Int
  | [] => []
  | k :: r => ins k (isort r)
theorem ins_perm (k : Int) : ∀ l : List Int, (ins k l).Perm (k :: l)
  | [] => .refl _
  | x :: r => by
    simp only [ins]
    cases iLt x k with
    | true => exact ((ins_perm k r).cons x).trans (.swap k x r)
    | false => exact .refl _
theorem isort_perm : ∀ l : List Int, (isort l).Perm l
  | [] => .refl _
  | k :: r => (ins_perm k _).trans ((isort_perm r).cons k)
theorem ins_up (k : Int) : ∀ {l : List Int}, l.Pairwise (fun a b => a ≤ b) → (ins k l).Pairwise fun a b => a ≤ b
  | [], _ => List.pairwise_singleton _ _
  | x :: r, h => by
    obtain ⟨h1, h2⟩ := List.pairwise_cons.1 h
    simp only [ins]
    cases hb : iLt x k with
    | true =>
      rw [iLt_eq] at hb
      simp at hb
      refine List.pairwise_cons.2 ⟨fun y hy => ?_, ins_up k h2⟩
      rcases List.mem_cons.1 ((ins_perm k r).mem_iff.1 hy) with rfl | hy
      · omega
      · exact h1 y hy
    | false =>
      rw [iLt_eq] at hb
      simp at hb
      refine List.pairwise_cons.2 ⟨fun y hy => ?_, h⟩
      rcases List.mem_cons.1 hy with rfl | hy
      · exact hb
      · exact Int.le_trans hb (h1 y hy)
theorem isort_up : ∀ l : List Int, (isort l).Pairwise fun a b => a ≤ b
  | [] => .nil
  | k :: r => ins_up k (isort_up r)
theorem msort_eq (l ss : List Int) (hp : ss.Perm l) : ss.mergeSort (fun x y => decide (x ≤ y)) = isort l := by
  refine List.Perm.eq_of_pairwise (le := fun a b => a ≤ b) (fun a b _ _ h1 h2 => by omega) ?_ (isort_up l) (((List.mergeSort_perm ss _).trans hp).trans (isort_perm l).symm)
  have := List.pairwise_mergeSort (le := fun x y : Int => decide (x ≤ y)) (fun a b c h1 h2 => by simp at *; omega) (fun a b => by simp; omega) ss
  exact this.imp fun h => by simpa using h

/-- The keys of entries, where all are known. -/
def keysOf : List (AVal × AVal × Nat) → Option (List Nat)
  | [] => some []
  | (.int .i64 (.lit (.ofNat k)), _, _) :: r => (keysOf r).map (k :: ·)
  | _ => none
theorem keysOf_den {ρ : Env} : ∀ {es : List (AVal × AVal × Nat)} {ks : List Nat} {l : List MapEntry}, keysOf es = some ks → esDen ρ es = some l → l.map (·.key) = ks.map fun (k : Nat) => .int .i64 (k : Int)
  | [], ks, l, h, hl => by cases h; cases hl; rfl
  | (a, b, n) :: r, ks, l, h, hl => by
    unfold keysOf at h
    split at h
    · rename_i heq; cases heq
    · rename_i k b' n' r' heq
      cases heq
      obtain ⟨ks', hk, rfl⟩ := Option.map_eq_some_iff.1 h
      simp only [esDen] at hl
      split at hl
      · rename_i x y l' hx hy hl'
        cases hl
        simp only [AVal.den, IT.den, Option.map_some, Option.some.injEq] at hx
        subst hx
        rw [List.map_cons, List.map_cons, keysOf_den hk hl']; rfl
      · cases hl
    · cases h
def nodupB : List Nat → Bool
  | [] => true
  | x :: r => r.all (fun y => !Nat.beq x y) && nodupB r
theorem nodupB_ok : ∀ {l : List Nat}, nodupB l = true → l.Nodup
  | [], _ => .nil
  | x :: r, h => by
    simp only [nodupB, Bool.and_eq_true, List.all_eq_true] at h
    refine List.nodup_cons.2 ⟨fun hx => ?_, nodupB_ok h.2⟩
    have := h.1 x hx
    simp at this
def spSrt : SpG := fun args H nl cs => match args with
  | [.func (.func 171) [] [.ptr b (.lit (.ofNat 0))]] => match H.get b with
    | some ⟨.cells [.map l] _ _, _⟩ => match H.get l with
      | some ⟨.map es cl, _⟩ => match keysOf es with
        | some (k :: ks) => cond (nodupB (k :: ks) && (bornB es cl && (Nat.blt es.length 1000 && (k :: ks).all fun j => Nat.blt j 1000000)))
          (some [.ret (.slice (nl + 1) (.lit 0) (.lit (.ofNat (k :: ks).length)) (.nv nl)) (H.set (nl + 1) ⟨.cells ((isort ((k :: ks).map Int.ofNat)).map fun z => .int .i64 (.lit z)) 3 (some (nl, 1)), true⟩) (nl + 2) cs]) none
        | _ => none
      | _ => none
    | _ => none
  | _ => none
abbrev RN : Value → Option (DataW Unit × List MemPlace) := fun _ => some (DataW.nil, [])
def selInt : Value → Int
  | .int _ k => k
  | _ => 0
theorem denL_lits (ρ : Env) : ∀ l : List Int, AVal.denL ρ (l.map fun z => .int .i64 (.lit z)) = some (l.map encZ)
  | [] => rfl
  | z :: r => by
    simp only [List.map_cons, AVal.denL, AVal.den, IT.den, Option.map_some, denL_lits ρ r]
theorem spSrt_ok {β : Base} : SpGOk Tryz.prog β 131 spSrt := by
  intro args H nl cs ls ρ w xs hr hx hh hc
  unfold spSrt at hr
  split at hr
  rotate_left
  · cases hr
  rename_i bb
  split at hr
  rotate_left
  · cases hr
  rename_i l el tl rw hg
  split at hr
  rotate_left
  · cases hr
  rename_i es cl rw2 hg2
  split at hr
  rotate_left
  · cases hr
  rename_i k ks hk
  generalize hK : (k :: ks) = K at hr hk
  cases hcd : (nodupB K && (bornB es cl && (Nat.blt es.length 1000 && K.all fun j => Nat.blt j 1000000))) with
  | false => rw [hcd] at hr; cases hr
  | true =>
  rw [hcd] at hr
  simp only [cond_true, Option.some.injEq] at hr
  subst hr
  simp only [Bool.and_eq_true] at hcd
  obtain ⟨c1, c2, c3, c4⟩ := hcd
  have hnd := nodupB_ok c1
  obtain ⟨Bm, o1, hB, ho1, hr1⟩ := hh.blk _ _ hg
  obtain ⟨ys, c, fr, rfl, hys, hpre, htl, _⟩ := hr1
  obtain ⟨b, o2, hb, ho2, lm, rfl, hlm⟩ := hh.blk _ _ hg2
  have hys' : ys = [.map (some b)] := by
    simp only [AVal.denL, AVal.den, hb, Option.map_some, Option.some.injEq] at hys
    exact hys.symm
  subst hys'
  have hcell : w.cell? ⟨Bm, 0, none⟩ = some (.map (some b)) := by
    rw [cell_of w ho1]
    obtain ⟨t, ht⟩ := hpre
    rw [← Array.getElem?_toList, ← ht]; rfl
  have hBl : Bm < w.heap.size := (Array.getElem?_eq_some_iff.1 ho1).1
  have hkeys := keysOf_den hk hlm
  obtain ⟨hborn, _⟩ := bornB_ok c2 hlm
  have hlen : lm.length = K.length := by
    have := congrArg List.length hkeys
    simpa using this
  have hesl : lm.length = es.length := esDen_length hlm
  have h1000 := nat_blt_lt c3
  have hargs : xs = [.func (.func 171) #[] #[.pointer (some ⟨Bm, 0, none⟩)]] := by
    simp only [AVal.denL, AVal.den, hB, IT.den, natOf, Option.some.injEq] at hx
    exact hx.symm
  subst hargs
  have hwf : ∀ j ∈ K, (Lit.int .i64 (j : Int)).wf = true := fun j hj => by
    have hj := nat_blt_lt (List.all_eq_true.1 c4 j hj)
    have := Go.RowKit.wrap64_wf (j : Int)
    unfold Go.RowKit.wrap64 at this
    rwa [show ((j : Int) + 9223372036854775808) % 18446744073709551616 - 9223372036854775808 = j by omega] at this
  have rd1 : ∀ x ∈ lm, ∃ j : Nat, x.key = .int .i64 (j : Int) ∧ Go.WideElems.rd Tryz.prog 3 RN x = some (.int .i64 (j : Int), .nil) := fun x hx => by
    have h1 : x.key ∈ K.map fun (k : Nat) => Value.int .i64 (k : Int) := by rw [← hkeys]; exact List.mem_map.2 ⟨x, hx, rfl⟩
    obtain ⟨j, hj, he⟩ := List.mem_map.1 h1
    refine ⟨j, he.symm, ?_⟩
    unfold Go.WideElems.rd
    rw [← he, Go.Maps.keyOf_int_mk Tryz.underlying3 (hwf j hj)]
    rfl
  have own : w.ownsMap Tryz.prog 3 RN b lm.length (.map ((lm.map (Go.WideElems.rg Tryz.prog 3 RN)).foldr DataW.insert [])) := by
    refine ⟨lm.toArray, cl, ho2, ⟨by unfold maxLen; simp; omega, ⟨hborn.1, hborn.2, ?_⟩, fun x hx => ?_⟩, by simp, rfl⟩
    · show (lm.map (·.key)).Pairwise _
      rw [hkeys]
      refine List.pairwise_map.2 (hnd.imp fun h e => h ?_)
      injection e with _ e
      exact Int.ofNat.inj e
    · obtain ⟨j, _, h⟩ := rd1 x (by simpa using hx)
      exact ⟨_, h⟩
  have hik : (intKeys (H := Unit) (.map ((lm.map (Go.WideElems.rg Tryz.prog 3 RN)).foldr DataW.insert []))).Perm (K.map Int.ofNat) := by
    unfold intKeys
    refine ((Go.WideShapes.sorted_perm _).map _).trans ?_
    rw [List.map_map]
    refine List.Perm.of_eq (Eq.trans (List.map_congr_left (g := fun x : MapEntry => selInt x.key) fun x hx => ?_) ?_)
    · obtain ⟨j, h1, h2⟩ := rd1 x hx
      simp only [Function.comp, Go.WideElems.rg, h2, Option.getD_some, h1]
      rfl
    · have : lm.map (fun x : MapEntry => selInt x.key) = (lm.map (·.key)).map selInt := by rw [List.map_map]; rfl
      rw [this, hkeys, List.map_map]
      rfl
  refine (sortedK Bm b _ _ RN w hBl hcell own (by
    show ((lm.map (Go.WideElems.rg Tryz.prog 3 RN)).foldr DataW.insert []).length ≤ 1000000
    rw [length_sorted]; simp; omega)).mono fun e w' ⟨v, ss, he, hperm, hrow, hnil, hbw⟩ => ⟨v, he, ?_⟩
  have hp : ss.Perm (K.map Int.ofNat) := hperm.trans hik
  rw [msort_eq _ _ hp] at hrow
  have hl : ss.length = K.length := by rw [hp.length_eq, List.length_map]
  obtain ⟨_, h⟩ := hrow
  rcases h with ⟨h1, _⟩ | ⟨g, cap, cur, rfl, hgw, hgs, _, hcapm, hs, ht⟩
  · have := hnil.1 h1
    rw [this, ← hK] at hl; cases hl
  · have hf := framed_of_below hbw
    have hn := hh.num cap
    have hsz : (isort (K.map Int.ofNat)).map encZ <+: cur.toList := by rw [← ht]; exact List.take_prefix _ _
    have hle := (Env.le_put (b := cap) (hh.fresh nl (Nat.le_refl _))).trans (Env.le_put (b := g) (hn.fresh (nl + 1) (Nat.le_refl _)))
    have hN : ((ρ.put nl cap).put (nl + 1) g).N nl = some cap := by rw [Env.put_other _ _ (by omega), Env.put_same]
    have hN2 : ((ρ.put nl cap).put (nl + 1) g).N (nl + 1) = some g := Env.put_same ..
    refine ⟨_, _, _, _, (ρ.put nl cap).put (nl + 1) g, List.mem_cons_self, hle, ?_, hn.adopt hf hgw hgs ⟨_, cur, (0, 0), rfl, denL_lits _ _, hsz, ?_, fun _ => .inl (Nat.le_refl _)⟩, fun q hq => BT.den_mono hle (hc q hq)⟩
    · simp only [AVal.den, hN, hN2, IT.den, natOf, Option.map_some, hl]
    · have h1 := hsz.length_le
      simp only [List.length_map, Array.length_toList] at h1 ⊢
      exact ⟨h1, cap, hN, hs⟩
end We
end Go.Proofs.YtgiomdniafpjnaaGreatDoor
end
