/- The law (9): Lay of an arena, of words that lie in a row of slices. -/
import Derived.Test.YtighjgmgpphohaaVm45
import Derived.Test.YtighjgmgpphohaaVm48
import Derived.Test.YtighjgmgpphohaaVm40
import Derived.WalkKit
import Derived.ProofKit
section
namespace Go.Proofs.Ytighjgmgpphohaa
open Go.Vm Go.Vm.Le Go.Vm.Mb
namespace Lb
open Ar (arOf arOf_get ansA ansA_ok ptrL pT lay46 wordsOk)
def spLayB (lab : Nat) : SpG := fun args H nl cs => match args with
 | [.ptr l (.lit (.ofNat 0)), .slx r off n cp] => match arOf H l, H.get lab with
  | some _, some ⟨.big 5 c, _⟩ => cond (isB (lookB cs (isElT c (.nv r) off n cp)) true) (some (ansA (.tuple [.int .u64 (pT 1 nl), .int .i64 (pT 2 nl)]) l H nl cs)) none
  | _, _ => none
 | [.ptr l (.lit (.ofNat 0)), .sliceNil] => match arOf H l with
  | some _ => some (ansA (.tuple [.int .u64 (pT 1 nl), .int .i64 (pT 2 nl)]) l H nl cs)
  | none => none
 | _ => none
theorem wordsAt {w : World} {b o n : Nat} (h : WordsM w b o n) : ∃ z, Ar.WordsAt w b o n z := by
 obtain ⟨c, fr, el, L, h1, h2, h3, h4⟩ := h
 have e : rowOf [.u64] (decL (encL L)) = L.map (Value.int .u64) := by
  rw [decL_encL]
  apply List.ext_getElem?
  intro i
  rw [rowOf_get, List.getElem?_map]
  cases h5 : L[i]? with
  | none => rfl
  | some z => simp only [Option.map_some, List.length_cons, List.length_nil]; rw [show i % (0 + 1) = 0 from Nat.mod_one i]; rfl
 exact ⟨encL L, c, fr, el, h1, h2, by rw [e]; exact h4, rowOf_typed (by rw [decL_encL, h3]; simp)⟩
section
variable {β : Base}
theorem spLayB_ok {lab : Nat} (hG : ∀ I B S V F, β.G I B S V F -> GRr I B S V F) : SpGOk Try.prog β 46 (spLayB lab) := by
 intro args H nl cs ls ρ w xs hr hx hh hc
 unfold spLayB at hr
 obtain ⟨Fp, hB⟩ := hh.big
 have fin : ∀ {l : Nat} {c : IT} {vv : Value}, H.get l = some ⟨.big 2 c, true⟩ -> Ar.Words w (Fp l) vv -> ∀ {pv : Value}, (AVal.ptr l (.lit (.ofNat 0))).den ρ = some pv -> ls = ansA (.tuple [.int .u64 (pT 1 nl), .int .i64 (pT 2 nl)]) l H nl cs ->
  Calls Try.prog 46 [pv, vv].toArray w (fun e w' => ∃ x, e = .returned x /\ ∃ u H' nl' cs' ρ', Leaf.ret u H' nl' cs' ∈ ls /\ ρ.Le ρ' /\ u.den ρ' = some x /\ HRel β ρ' H' nl' w' /\ CRel ρ' cs') := fun {l c vv} hl hW {pv} hp hls => by
  obtain ⟨b, x, hN, hcx, hfam, _⟩ := hh.bigAtF hB hl
  obtain ⟨A, most, hi, K, es, _, hA⟩ := fam2_inv hfam
  obtain rfl := ptrL hp hN
  subst hls
  refine (lay46 hA hW).mono fun e w' ⟨v, he, ⟨z0, z1, hv0⟩, F', hst, hA'⟩ => ?_
  subst hv0
  obtain ⟨ρ', hle, hd, hr', hc'⟩ := ansA_ok hh hc (l := l) (b := b) (F := Fp l) (fun n w' c' x' F' hs hf hx => by
   have hnl : ∀ {l1 k1}, H.get l1 = some k1 -> l1 ≠ nl := fun {l1 k1} g1 e => by
    obtain ⟨b1, _, hb1, _⟩ := hh.blk l1 k1 g1
    rw [e, hh.fresh nl (Nat.le_refl _)] at hb1; cases hb1
   have hle : ρ.Le (ρ.put nl n) := Env.le_put (hh.fresh nl (Nat.le_refl _))
   obtain ⟨b2, x2, g1, _, _, g4⟩ := (hh.num n).bigAtF (hB.le hle fun l1 k1 hl1 => Env.put_other ρ n (hnl hl1)) hl
   have e2 : b2 = b := Option.some.inj (g1.symm.trans (hle.n _ _ hN))
   rw [e2] at g4
   exact g4 rfl w' c' x' F' hs hf hx) hst hA' [z0, z1]
  have d0 : (pT 1 nl).den ρ' = some z0 := hd 0
  have d1 : (pT 2 nl).den ρ' = some z1 := hd 1
  exact ⟨_, he, _, _, _, _, ρ', List.mem_cons_self, hle, by simp only [AVal.den, AVal.denL, d0, d1, Option.map_some], hr', hc'⟩
 split at hr
 · rename_i l r off n cp
   split at hr
   rotate_left
   · cases hr
   rename_i c0 c5 rw5 hl hl5
   cases hb : isB (lookB cs (isElT c5 (.nv r) off n cp)) true with
   | false => rw [hb] at hr; cases hr
   | true =>
    rw [hb] at hr; simp only [cond_true, Option.some.injEq] at hr
    obtain ⟨x1, r1, e1, h1, rfl⟩ := Rf.denL_cons hx
    obtain ⟨x2, r2, e2, h2, rfl⟩ := Rf.denL_cons h1
    cases h2
    have hl := arOf_get hl
    obtain ⟨b, o, m, cap, rfl, hN, ho, hm, hcp⟩ := den_slx e2
    refine fin hl ?_ e1 hr.symm
    obtain ⟨b5, x5, hN5, hcx5, hfam5, _⟩ := hB.ok _ _ _ _ hl5
    obtain ⟨es, c6, rfl, hR⟩ := fam5_inv hfam5
    have hf := isB_ok hb hc
    have e3 : (IT.fn 95 c5 (slT (.nv r) off n cp)).den ρ = some (fEl (encL (((c6 : Nat) : Int) :: es.map slC)) (encL [(b : Int), (o : Int), (m : Int), (cap : Int)])) := by
     rw [fnD hcx5 (slT_den (nvD hN) ho hm hcp), (hG _ _ _ _ _ hh.g).2]; rfl
    unfold isElT at hf
    rw [cmpD e3 (litD 1)] at hf
    simp only [intCmp, Option.some.injEq, beq_iff_eq] at hf
    unfold fEl at hf
    split at hf
    rotate_left
    · cases hf
    rename_i hin
    rw [decL_encL, List.tail_cons, List.contains_iff_mem] at hin
    obtain ⟨q, hq1, hq2⟩ := List.mem_map.1 hin
    have hq := slC_inj hq2
    subst hq
    by_cases hm0 : m = 0
    · subst hm0
      exact .inl ⟨some ⟨b, o, slS 0 cap⟩, slK 0 cap, rfl, (fun p e => by cases e; exact slX_back b o cap), fun e => by cases e⟩
    · rw [slX_succ (show 1 <= m by omega)]
      obtain ⟨_, hw⟩ := hR.row _ hq1 (show 1 <= m by omega)
      obtain ⟨z, hz⟩ := wordsAt hw
      have hne : l ≠ lab := fun e => by subst e; rw [hl] at hl5; cases hl5
      exact .inr ⟨b, o, m, cap, z, rfl, by omega, fun hF => (hB.apart _ _ _ _ _ _ hl hl5 hne b hF).2 rfl ((hR.F b).2 (.inr ⟨_, hq1, (show 1 <= m by omega), rfl⟩)), hz⟩
 · rename_i l
   split at hr
   rotate_left
   · cases hr
   rename_i c0 hl
   cases hr
   obtain ⟨x1, r1, e1, h1, rfl⟩ := Rf.denL_cons hx
   obtain ⟨x2, r2, e2, h2, rfl⟩ := Rf.denL_cons h1
   cases h2
   obtain rfl := den_sliceNil e2
   exact fin (arOf_get hl) (.inl ⟨none, 0, rfl, (fun p e => by cases e), fun _ => rfl⟩) e1 rfl
 · cases hr
end
end Lb
end Go.Proofs.Ytighjgmgpphohaa
end
section
namespace Go.Proofs.Ytighjgmgpphohaa
open Go.Vm Go.Vm.Le Go.Vm.Mb
namespace Lb
open Ar (iV uV pT)
def spZ (f : SpG) : SpG := fun args H nl cs => match f args H nl cs with
 | some r => some r
 | none => match args with
  | [.slx _ _ (.lit (.ofNat 0)) _] => some [.ret (.slice nl (.nv (nl + 1)) (.lit 0) (.nv (nl + 2))) H (nl + 3) cs]
  | [.slice _ _ (.lit (.ofNat 0)) _] => some [.ret (.slice nl (.nv (nl + 1)) (.lit 0) (.nv (nl + 2))) H (nl + 3) cs]
  | _ => none
def hk30 : OpF := orH (hkInLen 47 70 71) (orH (hkInA 47 70 71) (orH (hkRa 47) (hkInL true 22 71 81)))
def sp30 : CallF := spLH [(43, spZ (spClone [.u64] 32))] hk30
def lyB (f todo hs e : AVal) : HB := ⟨.cells [f, .ptr 0 (.lit 0), todo, hs, e] 92 none, true⟩
def e0 : AVal := .int .i64 (.lit 0)
def tdB : AVal := .slice 4 (.lit 0) (nbT (.var 219)) (capT (.var 219))
def rwB : HB := ⟨.big 5 (.var 219), true⟩
def tm30 : List (Nat × AVal) := [(5, .ptr 2 (.lit 0)), (11, .var 70), (12, iV 73), (13, iV 220)]
def cs30 : Cs := [(.cmp .geq (.var 220) (.lit 0), true)]
def tN : Tpl := ⟨tm30, 32, [(2, lyB .nilFunc .sliceNil .sliceNil e0)], 5, cs30, 3⟩
def tB : Tpl := ⟨tm30, 32, [(2, lyB .nilFunc tdB .sliceNil e0), (4, rwB)], 5, (.cmp .gtr (nbT (.var 219)) (.lit 0), true) :: (.cmp .leq (nbT (.var 219)) (.lit 1000000), true) :: cs30, 3⟩
def fnL : AVal := .func (.func 63) [.ptr 2 (.lit 0)] []
def e30 : List Tpl := [⟨[(0, .ptr 2 (.lit 0))], 1, [(2, lyB .nilFunc .sliceNil .sliceNil e0)], 5, [], 0⟩, ⟨[(0, .ptr 2 (.lit 0))], 1, [(2, lyB fnL tdB .sliceNil e0), (4, rwB)], 5, [], 0⟩]
def g30 : Gen := ⟨222, 9, 0, 8⟩
end Lb
end Go.Proofs.Ytighjgmgpphohaa
end
section
namespace Go.Proofs.Ytighjgmgpphohaa
open Go.Vm Go.Vm.Le Go.Vm.Mb
namespace Lb
open Ar (iV uV pT okR)
open Gr (RowsW add_den getD0 keep_app2 und47 und22 inf22)
open La (loop_goesH)
noncomputable def nb0 : Code := ((loopsOf (Try.f30.body.getD .ret) []).getD 0 (.ret, [])).1
noncomputable def nk0 : List Item := ((loopsOf (Try.f30.body.getD .ret) []).getD 0 (.ret, [])).2
noncomputable def sums_e : List LM := [.next 1 (.code (.loop nb0) :: nk0) [] ⟨[(73, (.var 73)), (220, (.lit 0))], [], [], [], [(2, 1), (0, 0)]⟩]
abbrev qlb4xx0 : BT × Bool := ((.cmp .geq (.var 220) (.lit 0)), true)
abbrev qlb4xx1 : BT × Bool := ((.cmp .eql (.nv 5) (.var 71)), true)
abbrev qlb4xx2 : BT × Bool := ((.cmp .lss (.var 220) (.var 73)), true)
abbrev qlb4xx3 : BT × Bool := ((.cmp .eql (.fn 81 (.var 220) (.lit 0)) (.lit 0)), true)
abbrev qlb4xx4 : BT × Bool := ((.cmp .gtr (.fn 93 (.var 219) (.lit 0)) (.lit 0)), true)
abbrev qlb4xx5 : BT × Bool := ((.cmp .leq (.fn 93 (.var 219) (.lit 0)) (.lit 1000000)), true)
abbrev qlb4xx6 : BT × Bool := ((.cmp .geq (.fn 81 (.var 220) (.lit 0)) (.lit 1)), true)
abbrev qlb4xx7 : BT × Bool := ((.cmp .leq (.fn 81 (.var 220) (.lit 0)) (.lit 1000000)), true)
noncomputable def sums_n : List LM := [.next 0 (.inLoop nb0 :: nk0) [((.cmp .eql (.fn 93 (.nv 7) (.lit 0)) (.bin .add .i64 (.lit 0) (.lit 1))), true), qlb4xx3, qlb4xx1, qlb4xx2, qlb4xx0] ⟨[(73, (.var 73)), (220, (.bin .add .i64 (.var 220) (.lit 1))), (219, (.nv 7))], [], [], [], [(2, 2), (0, 0), (4, 8)]⟩,
 .next 0 (.inLoop nb0 :: nk0) [((.cmp .eql (.fn 93 (.nv 13) (.lit 0)) (.bin .add .i64 (.lit 0) (.lit 1))), true), qlb4xx3, qlb4xx1, qlb4xx2, qlb4xx0] ⟨[(73, (.var 73)), (220, (.bin .add .i64 (.var 220) (.lit 1))), (219, (.nv 13))], [], [], [], [(2, 2), (0, 0), (4, 14)]⟩,
 .next 0 (.inLoop nb0 :: nk0) [((.cmp .eql (.fn 93 (.nv 12) (.lit 0)) (.bin .add .i64 (.lit 0) (.lit 1))), true), qlb4xx6, qlb4xx7, qlb4xx1, qlb4xx2, qlb4xx0] ⟨[(73, (.var 73)), (220, (.bin .add .i64 (.var 220) (.lit 1))), (219, (.nv 12))], [], [], [], [(2, 2), (0, 0), (4, 13)]⟩,
 .done 0 [((.cmp .lss (.var 220) (.var 73)), false), qlb4xx0] ⟨[], [], [], [], [(2, 2), (0, 0)]⟩]
noncomputable def sums_b : List LM := [.next 0 (.inLoop nb0 :: nk0) [((.cmp .eql (.fn 93 (.nv 7) (.lit 0)) (.bin .add .i64 (.fn 93 (.var 219) (.lit 0)) (.lit 1))), true), qlb4xx3, qlb4xx1, qlb4xx2, qlb4xx4, qlb4xx5, qlb4xx0] ⟨[(73, (.var 73)), (220, (.bin .add .i64 (.var 220) (.lit 1))), (219, (.nv 7))], [], [], [], [(2, 2), (0, 0), (4, 8)]⟩,
 .next 0 (.inLoop nb0 :: nk0) [((.cmp .eql (.fn 93 (.nv 13) (.lit 0)) (.bin .add .i64 (.fn 93 (.var 219) (.lit 0)) (.lit 1))), true), qlb4xx3, qlb4xx1, qlb4xx2, qlb4xx4, qlb4xx5, qlb4xx0] ⟨[(73, (.var 73)), (220, (.bin .add .i64 (.var 220) (.lit 1))), (219, (.nv 13))], [], [], [], [(2, 2), (0, 0), (4, 14)]⟩,
 .next 0 (.inLoop nb0 :: nk0) [((.cmp .eql (.fn 93 (.nv 12) (.lit 0)) (.bin .add .i64 (.fn 93 (.var 219) (.lit 0)) (.lit 1))), true), qlb4xx6, qlb4xx7, qlb4xx1, qlb4xx2, qlb4xx4, qlb4xx5, qlb4xx0] ⟨[(73, (.var 73)), (220, (.bin .add .i64 (.var 220) (.lit 1))), (219, (.nv 12))], [], [], [], [(2, 2), (0, 0), (4, 13)]⟩,
 .done 1 [((.cmp .lss (.var 220) (.var 73)), false), qlb4xx4, qlb4xx5, qlb4xx0] ⟨[(219, (.var 219))], [], [], [], [(2, 2), (0, 0), (4, 4)]⟩]
theorem run_e : (run Try.prog [] sp30 4000 true 30 (entry Try.f30 (Try.f30.body.getD .ret) [.ptr 0 (.lit 0), .var 70] .leaf 1 [])).map (·.filterMap (sumMO g30 [] e30 [tB, tN])) = some sums_e := by kernel_rfl
theorem run_n : (run Try.prog [] sp30 4000 true 30 (tN.st (.code nb0 :: .inLoop nb0 :: nk0))).map (·.filterMap (sumMO g30 [] e30 [tB, tN])) = some sums_n := by kernel_rfl
theorem run_b : (run Try.prog [] sp30 4000 true 30 (tB.st (.code nb0 :: .inLoop nb0 :: nk0))).map (·.filterMap (sumMO g30 [] e30 [tB, tN])) = some sums_b := by kernel_rfl
end Lb
end Go.Proofs.Ytighjgmgpphohaa
end
section
namespace Go.Proofs.Ytighjgmgpphohaa
open Go.Vm Go.Vm.Le Go.Vm.Mb
open Go.ChangeShapes Go.WideShapes Go.ChangeAt Go.RowKit
namespace Lb
theorem eql_d (a : Addr) (c : Nat) (d : Nat) (u : World) : (Op.equalIn (d + 1) 22 (.slice (some a) 0 c) (.slice none 0 0)).run Try.prog u = .ok false u := by simp [Op.equalIn, run_und Ar.und22']
theorem eql_x (a : Addr) (c : Nat) (u : World) : (binOp .eql 22 (.slice (some a) 0 c) (.slice none 0 0)).run Try.prog u = .ok (.bool false) u := by
 have h3 : binOp .eql 22 (.slice (some a) 0 c) (.slice none 0 0) = (do pure (.bool (<- Op.equal 22 (.slice (some a) 0 c) (.slice none 0 0)))) := rfl
 have h1' : (Op.equal 22 (.slice (some a) 0 c) (.slice none 0 0)).run Try.prog u = .ok false u := eql_d a c 9999 u
 rw [h3]; simp [h1']
set_option maxRecDepth 100000 in
theorem clone_x (a : Addr) (c : Nat) (w : World) : Calls Try.prog 43 #[.slice (some a) 0 c] w (fun e w' => ∃ b', e = .returned (.slice (some ⟨b', 0, none⟩) 0 0) /\ Framed w w') := by
 have heq := eql_x a c
 go_enter Try.func43, Try.ntmps43
 go_wp2
 all_goals go_ret
 exact ⟨w.heap.size, rfl, (by show w.heap.size <= (w.heap.push _).size; rw [Array.size_push]; exact Nat.le_succ _), fun b hb => (MapKept.heap_alloc w _).2 b hb, rfl, rfl, rfl⟩
end Lb
end Go.Proofs.Ytighjgmgpphohaa
end
section
namespace Go.Proofs.Ytighjgmgpphohaa
open Go.Vm Go.Vm.Le Go.Vm.Mb
namespace Lb
open Ar (iV uV pT okR)
open Gr (RowsW add_den getD0 keep_app2 und47 und22 inf22)
open La (loop_goesH)
variable {w : World}
theorem spZ_ok {β : Base} : SpGOk Try.prog β 43 (spZ (spClone [.u64] 32)) := by
 intro args H nl cs ls ρ w xs hr hx hh hc
 unfold spZ at hr
 split at hr
 · rename_i r h
   obtain rfl := Option.some.inj hr
   exact Pc.sp43_ok _ _ _ _ _ _ _ _ h hx hh hc
 · have fin : ∀ (a : Addr) (c : Nat), ls = [.ret (.slice nl (.nv (nl + 1)) (.lit 0) (.nv (nl + 2))) H (nl + 3) cs] -> Calls Try.prog 43 [Value.slice (some a) 0 c].toArray w (fun e w' => ∃ x, e = .returned x /\ ∃ u H' nl' cs' ρ', Leaf.ret u H' nl' cs' ∈ ls /\ ρ.Le ρ' /\ u.den ρ' = some x /\ HRel β ρ' H' nl' w' /\ CRel ρ' cs') := fun a c hls => by
    subst hls
    refine (clone_x a c w).mono fun e w' ⟨b', he, hf⟩ => ?_
    have r1 := hh.num b'
    have r2 := r1.num 0
    have r3 := r2.num 0
    have l1 := Env.le_put (b := b') (hh.fresh nl (Nat.le_refl _))
    have l2 := Env.le_put (b := 0) (r1.fresh (nl + 1) (Nat.le_refl _))
    have l3 := Env.le_put (b := 0) (r2.fresh (nl + 2) (Nat.le_refl _))
    have n0 := l3.n _ _ (l2.n _ _ (Env.put_same ρ nl b'))
    have n1 := l3.n _ _ (Env.put_same (ρ.put nl b') (nl + 1) 0)
    have n2 := Env.put_same ((ρ.put nl b').put (nl + 1) 0) (nl + 2) 0
    have hle := (l1.trans l2).trans l3
    exact ⟨_, he, _, _, _, _, _, List.mem_singleton.2 rfl, hle, den_slice_of n0 (nvD n1) (litD 0) (nvD n2), r3.framed hf, hc.mono hle⟩
   split at hr
   · rename_i l off cp
     cases hr
     obtain ⟨x1, r1, e1, h1, rfl⟩ := Rf.denL_cons hx
     cases h1
     obtain ⟨b, o, n, c, rfl, _, _, hn, _⟩ := den_slx e1
     obtain rfl : n = 0 := (Int.ofNat.inj (Option.some.inj hn)).symm
     exact fin _ _ rfl
   · rename_i l off cp
     cases hr
     obtain ⟨x1, r1, e1, h1, rfl⟩ := Rf.denL_cons hx
     cases h1
     obtain ⟨b, o, n, c, rfl, _, _, hn, _⟩ := den_slice e1
     obtain rfl : n = 0 := (Int.ofNat.inj (Option.some.inj hn)).symm
     exact fin _ _ rfl
   · cases hr
def GY (R : RowsW true w) : GP := fun I B S V F => (V 70 = .slice R.ad R.Ws.length R.cap /\ I 71 = (R.bo : Int) /\ I 72 = (R.oo : Int) /\ I 73 = (R.Ws.length : Int) /\ F 81 = (fun i _ => ((R.el (R.Ws.getD i.toNat (.slice none 0 0)) : Nat) : Int)) /\ F 82 = (fun i _ => R.zs.getD i.toNat 0)) /\ GRr I B S V F
theorem GY_keep (R : RowsW true w) : Ar.GKeep (GY R) := fun ρ ρ' hV hI hF h => by
 obtain ⟨⟨a1, a2, a3, a4, a5, a6⟩, b1, b2⟩ := h
 exact ⟨⟨(hV _).trans a1, (hI _ (by decide)).trans a2, (hI _ (by decide)).trans a3, (hI _ (by decide)).trans a4, by rw [hF]; exact a5, by rw [hF]; exact a6⟩, by rw [hF]; exact b1, by rw [hF]; exact b2⟩
theorem zer22 : zeroA Try.prog 22 = some .sliceNil := by kernel_rfl
theorem hkRa47_ok {β : Base} (hG : ∀ I B S V F, β.G I B S V F -> GRr I B S V F) : HookOk Try.prog β (hkRa 47) := by
 obtain ⟨zv, hz1, hz2⟩ := zeroA_ok zer22
 have hzv : zv = .slice none 0 0 := (Option.some.inj (hz2 (⟨fun _ => 0, fun _ => false, fun _ => default, fun _ => undef, fun _ => none, Rf.FR⟩ : Env))).symm
 obtain ⟨ei, hei, hsz⟩ := Option.map_eq_some_iff.1 inf22
 have hby : (Try.prog.info? 22).map (fun i => decide (i.bytes ≠ 0 /\ i.bytes <= 32)) = some true := by kernel_rfl
 rw [hei] at hby
 exact hkRa_ok und47 hei hsz (of_decide_eq_true (Option.some.inj hby)) hz1 (by rw [hzv]; rfl) hG
theorem sp30_ok (R : RowsW true w) : CallOk Try.prog ⟨w, noO, GY R⟩ sp30 := by
 have h0 : ∀ I B S V F, (Base.mk w noO (GY R)).G I B S V F -> GY R I B S V F := fun _ _ _ _ _ h => h
 have i1 := R.inR (G := GY R) (v := 70) (a := 71) (k := 81) fun I B S V F h => (h0 I B S V F h).1
 refine spLH_ok (fun p hp => ?_) (orH_ok (hkInLen_ok und47 fun I B S V F h => ⟨(h0 I B S V F h).1.1, (h0 I B S V F h).1.2.2.2.1⟩) (orH_ok (hkInA_ok und47 inf22 i1) (orH_ok (hkRa47_ok fun I B S V F h => (h0 I B S V F h).2) (hkInL_ok und22 i1))))
 rw [List.mem_singleton.1 hp]
 exact spZ_ok
def fnV (bl : Nat) : Value := .func (.func 63) #[.pointer (some ⟨bl, 0, none⟩)] #[]
def RY (w : World) (ba n : Nat) : Value -> World -> Prop := fun x w' => ∃ bl, x = .pointer (some ⟨bl, 0, none⟩) /\ Framed w w' /\ w.heap.size <= bl /\ ∃ c fr, w'.heap[bl]? = some (.cells c 92 fr) /\ FrOk fr c.size ∧
 ((n = 0 /\ c.toList = [.nilFunc, .pointer (some ⟨ba, 0, none⟩), .slice none 0 0, .slice none 0 0, .int .i64 0]) ∨
  ∃ es cap b5 F5, 1 <= n /\ es.length = n /\ RrIn es cap w' b5 F5 /\ (∀ y, F5 y -> w.heap.size <= y) /\ ¬ F5 bl /\ c.toList = [fnV bl, .pointer (some ⟨ba, 0, none⟩), .slice (some ⟨b5, 0, none⟩) n cap, .slice none 0 0, .int .i64 0])
theorem lyN_den {ρ : Env} {ba : Nat} (h0 : ρ.N 0 = some ba) : AVal.denL ρ [.nilFunc, .ptr 0 (.lit 0), .sliceNil, .sliceNil, e0] = some [.nilFunc, .pointer (some ⟨ba, 0, none⟩), .slice none 0 0, .slice none 0 0, .int .i64 0] := by
 have h1 : (AVal.ptr 0 (.lit 0)).den ρ = some (.pointer (some ⟨ba, 0, none⟩)) := by simp only [AVal.den, h0]; rfl
 simp only [AVal.denL, h1]; rfl
theorem lyF_den {ρ : Env} {ba bl : Nat} {v : Value} {td : AVal} (h0 : ρ.N 0 = some ba) (h2 : ρ.N 2 = some bl) (ht : td.den ρ = some v) : AVal.denL ρ [fnL, .ptr 0 (.lit 0), td, .sliceNil, e0] = some [fnV bl, .pointer (some ⟨ba, 0, none⟩), v, .slice none 0 0, .int .i64 0] := by
 have h1 : (AVal.ptr 0 (.lit 0)).den ρ = some (.pointer (some ⟨ba, 0, none⟩)) := by simp only [AVal.den, h0]; rfl
 have h3 : (AVal.ptr 2 (.lit 0)).den ρ = some (.pointer (some ⟨bl, 0, none⟩)) := by simp only [AVal.den, h2]; rfl
 have h4 : fnL.den ρ = some (fnV bl) := by
  simp only [fnL, AVal.den, AVal.denL] at h3 ⊢
  rw [h3]; rfl
 simp only [AVal.denL, h1, h4, ht]; rfl
theorem full5 {c : Array Value} {xs : List Value} (hp : xs <+: c.toList) (hs : c.size = 5) (hl : xs.length = 5) : c.toList = xs := by
 obtain ⟨t, ht⟩ := hp
 have h1 : (xs ++ t).length = 5 := by rw [ht, Array.length_toList, hs]
 rw [List.length_append] at h1
 have : t = [] := List.eq_nil_of_length_eq_zero (by omega)
 rw [<- ht, this, List.append_nil]
theorem end_30N {R : RowsW true w} {ρ : Env} {ba : Nat} {x : Value} {w' : World} (h0 : ρ.N 0 = some ba) (r : SRel ⟨w, noO, GY R⟩ ρ ((⟨[(0, .ptr 2 (.lit 0))], 1, [(2, lyB .nilFunc .sliceNil .sliceNil e0)], 5, [], 0⟩ : Tpl).st []) ⟨#[x], []⟩ w') : RY w ba 0 x w' := by
 obtain ⟨y, hy, he⟩ := r.t 0 (.ptr 2 (.lit 0)) rfl
 obtain rfl : x = y := Option.some.inj he
 have hh : HRel ⟨w, noO, GY R⟩ ρ (ofP [(2, lyB .nilFunc .sliceNil .sliceNil e0)]) 5 w' := r.h
 obtain ⟨bl, rfl, hN⟩ := den_ptr0 hy
 obtain ⟨b2, o, hN2, ho, xs, c, fr, rfl, hd, hp, ht, hf⟩ := hh.blk 2 _ rfl
 rw [hN] at hN2; cases hN2
 have hg : w.heap.size <= bl := (hh.own 2 _ bl rfl rfl hN).elim id fun e => by cases e
 obtain rfl := Option.some.inj (hd.symm.trans (lyN_den h0))
 exact ⟨bl, rfl, Framed.of hh, hg, c, fr, ho, hf rfl, .inl ⟨rfl, full5 hp ht rfl⟩⟩
theorem end_30B {R : RowsW true w} {ρ : Env} {ba n : Nat} {x : Value} {w' : World} (h0 : ρ.N 0 = some ba) (h1 : 1 <= n) (hn : (decL (ρ.I 219)).tail.length = n) (r : SRel ⟨w, noO, GY R⟩ ρ ((⟨[(0, .ptr 2 (.lit 0))], 1, [(2, lyB fnL tdB .sliceNil e0), (4, rwB)], 5, [], 0⟩ : Tpl).st []) ⟨#[x], []⟩ w') : RY w ba n x w' := by
 obtain ⟨y, hy, he⟩ := r.t 0 (.ptr 2 (.lit 0)) rfl
 obtain rfl : x = y := Option.some.inj he
 have hh : HRel ⟨w, noO, GY R⟩ ρ (ofP [(2, lyB fnL tdB .sliceNil e0), (4, rwB)]) 5 w' := r.h
 obtain ⟨bl, rfl, hN⟩ := den_ptr0 hy
 obtain ⟨b2, o, hN2, ho, xs, c, fr, rfl, hd, hp, ht, hf⟩ := hh.blk 2 _ rfl
 rw [hN] at hN2; cases hN2
 have hg : w.heap.size <= bl := (hh.own 2 _ bl rfl rfl hN).elim id fun e => by cases e
 obtain ⟨Fp, hB⟩ := hh.big
 obtain ⟨b5, X, N4, d4, f4, o4⟩ := hB.ok 4 5 (.var 219) true rfl
 obtain ⟨es, cap, rfl, hR⟩ := fam5_inv f4
 have hI : ρ.I 219 = encL (((cap : Nat) : Int) :: es.map slC) := Option.some.inj d4
 have hlen : es.length = n := by rw [hI, decL_encL, List.tail_cons, List.length_map] at hn; exact hn
 have dn : (nbT (.var 219)).den ρ = some ((n : Nat) : Int) := by
  rw [nbT, fnD d4 (litD 0), hh.g.2.1, fNb, decL_encL, List.tail_cons, List.length_map, hlen]
 have dc : (capT (.var 219)).den ρ = some (cap : Int) := by
  rw [capT, unD d4 (litD 0)]
  show some ((decL _).getD ((0 : Int).toNat) 0) = _
  rw [decL_encL]; rfl
 have ht2 : tdB.den ρ = some (.slice (some ⟨b5, 0, none⟩) n cap) := den_slice_of N4 rfl dn dc
 obtain rfl := Option.some.inj (hd.symm.trans (lyF_den h0 hN ht2))
 refine ⟨bl, rfl, Framed.of hh, hg, c, fr, ho, hf rfl, .inr ⟨es, cap, b5, Fp 4, h1, hlen, hR, fun y hy => (o4 rfl y hy).elim id fun e => (by cases e), fun hF => ?_, full5 hp ht rfl⟩⟩
 exact (hB.apart 4 2 5 _ true _ rfl rfl (by decide) bl hF).1 hN
def Td : Bool -> Tpl
 | true => tB
 | false => tN
def Jd (n ba : Nat) : Bool -> Env -> Prop
 | true, ρ => ρ.N 0 = some ba /\ ∃ i : Nat, 1 <= i /\ i <= n /\ ρ.I 220 = (i : Int) /\ (decL (ρ.I 219)).tail.length = i
 | false, ρ => ρ.N 0 = some ba /\ ρ.I 220 = 0
theorem loop_30 (R : RowsW true w) (hn : R.Ws.length <= 1000000) (ba : Nat) : ∀ k ρ, Jd R.Ws.length ba k ρ -> ∀ todo a w', todo = .inLoop nb0 :: nk0 ∨ todo = .code (.loop nb0) :: nk0 -> SRel ⟨w, noO, GY R⟩ ρ ((Td k).st todo) a w' -> Goes Try.prog 30 (RY w ba R.Ws.length) todo a w' := by
 refine loop_goesH (β := ⟨w, noO, GY R⟩) (g := g30) (L := []) (n := 4000) noCount noExt (sp30_ok R) follows Td (Jd R.Ws.length ba) (fun ρ => R.Ws.length - (ρ.I 220).toNat) (fun k ρ hJ hH hcs hG ih => ?_)
 obtain ⟨hN0, i, hi, j1, j2, j3⟩ : ρ.N 0 = some ba /\ ∃ i : Nat, i <= R.Ws.length /\ ρ.I 220 = (i : Int) /\ (k = true -> 1 <= i /\ (decL (ρ.I 219)).tail.length = i) /\ (k = false -> i = 0) := by
  cases k with
  | true => obtain ⟨h0, i, a0, a, b, c⟩ := hJ; exact ⟨h0, i, a, b, fun _ => ⟨a0, c⟩, fun e => by cases e⟩
  | false => obtain ⟨h0, b⟩ := hJ; exact ⟨h0, 0, Nat.zero_le _, b, fun e => (by cases e), fun _ => rfl⟩
 have d0 : ∀ {ρ'}, ρ.Le ρ' -> (IT.var 220).den ρ' = some (i : Int) := fun hle => by show some _ = _; rw [hle.i, j1]
 have d73 : ∀ {ρ'}, ρ.Le ρ' -> (IT.var 73).den ρ' = some (R.Ws.length : Int) := fun hle => by show some _ = _; rw [hle.i]; exact congrArg some hG.1.2.2.2.1
 have ltn : ∀ {ρ' : Env} {b : Bool}, ρ.Le ρ' -> (BT.cmp .lss (.var 220) (.var 73)).den ρ' = some b -> b = decide (i < R.Ws.length) := fun {ρ' b} hle h => by
  rw [cmpD (d0 hle) (d73 hle)] at h
  simp only [intCmp, Option.some.injEq] at h
  rw [<- h]
  by_cases hq : i < R.Ws.length
  · simp [hq]
  · simp [hq]
 have e1 : ∀ {ρ'}, ρ.Le ρ' -> i < R.Ws.length -> (IT.bin .add .i64 (.var 220) (.lit 1)).den ρ' = some ((i + 1 : Nat) : Int) := fun hle hlt => add_den (d0 hle) (y := 1) rfl (by omega)
 have nB : ∀ {cs : Cs} {σ : Go.Vm.Sub} {q : Nat} {n0 : IT}, ((BT.cmp .lss (.var 220) (.var 73)), true) ∈ cs -> ((BT.cmp .eql (nbT (.nv q)) (.bin .add .i64 n0 (.lit 1))), true) ∈ cs -> (∀ ρ', ρ.Le ρ' -> GP.at (GY R) ρ' -> n0.den ρ' = some (i : Int)) -> Gr.keepsI σ = true -> lk σ.I 220 = some (.bin .add .i64 (.var 220) (.lit 1)) -> lk σ.I 219 = some (.nv q) -> lookN σ.N 0 = some 0 ->
  MGoodO Try.prog ⟨w, noO, GY R⟩ 30 (RY w ba R.Ws.length) e30 [tB, tN] ρ (.next 0 (.inLoop nb0 :: nk0) cs σ) := fun {cs σ q n0} hm hm2 hn0 hk h220 h219 hN => by
  refine ⟨trivial, fun ρ' hle hc T hT hG' => ?_⟩
  obtain rfl : tB = T := Option.some.inj hT
  have hlt : i < R.Ws.length := by simpa using (ltn hle (hc _ hm)).symm
  have h2 : (σ.app ρ').I 220 = ((i + 1 : Nat) : Int) := by
   simp only [Go.Vm.Sub.app, h220]; exact getD0 (e1 hle hlt)
  have hGG := keep_app2 (GY_keep R) hk hG'
  have hm2' := hn0 ρ' hle hG'
  obtain ⟨z, hz1, hz2⟩ := Rf.eq_inv (hc _ hm2)
  obtain ⟨kk, hk1, hk2⟩ := Rf.nb_inv hG'.2.1 hz1
  have hk3 : (decL (kk : Int)).tail.length = i + 1 := by
   rw [add_den hm2' (y := 1) rfl (by omega)] at hz2
   have := (Option.some.inj hz2).trans hk2
   omega
  have h3 : (σ.app ρ').I 219 = (kk : Int) := by
   simp only [Go.Vm.Sub.app, h219]
   show ((ρ'.N q).map fun k => ((k : Nat) : Int)).getD 0 = _
   rw [hk1]; rfl
  have hN' : (σ.app ρ').N 0 = some ba := by
   simp only [Go.Vm.Sub.app, hN]
   exact hle.n _ _ hN0
  refine ⟨hGG, ?_, fun a w' r => ih true _ ?_ ⟨hN', i + 1, by omega, by omega, h2, by rw [h3]; exact hk3⟩ _ a w' (.inl rfl) r⟩
  · have dn : (nbT (.var 219)).den (σ.app ρ') = some ((i + 1 : Nat) : Int) := by
     rw [nbT, fnD (show (IT.var 219).den (σ.app ρ') = some (kk : Int) from congrArg some h3) (litD 0), hGG.2.1, fNb, hk3]
    simp only [tB, cs30, CRel_cons, CRel_nil, and_true]
    exact ⟨gtrT dn (litD 0) (by omega), leqT dn (litD 1000000) (by omega), geqT (x := ((i + 1 : Nat) : Int)) (congrArg some h2) (litD 0) (by omega)⟩
  · rw [h2, j1]; omega
 cases k with
 | false =>
  obtain rfl := j3 rfl
  refine ⟨true, e30, [tB, tN], cs30, sums_n, hcs, run_n, fun s hs => ?_⟩
  have hz : ∀ ρ', ρ.Le ρ' -> GP.at (GY R) ρ' -> (IT.lit 0).den ρ' = some ((0 : Nat) : Int) := fun ρ' _ _ => rfl
  simp only [sums_n, List.mem_cons, List.not_mem_nil, or_false] at hs
  rcases hs with rfl | rfl | rfl | rfl
  · exact nB (q := 7) (n0 := .lit 0) (by repeat (first | exact List.mem_cons_self | apply List.mem_cons_of_mem)) List.mem_cons_self hz rfl rfl rfl rfl
  · exact nB (q := 13) (n0 := .lit 0) (by repeat (first | exact List.mem_cons_self | apply List.mem_cons_of_mem)) List.mem_cons_self hz rfl rfl rfl rfl
  · exact nB (q := 12) (n0 := .lit 0) (by repeat (first | exact List.mem_cons_self | apply List.mem_cons_of_mem)) List.mem_cons_self hz rfl rfl rfl rfl
  · refine ⟨trivial, fun ρ' hle hc T hT hG' => ?_⟩
    have hT : (⟨[(0, .ptr 2 (.lit 0))], 1, [(2, lyB .nilFunc .sliceNil .sliceNil e0)], 5, [], 0⟩ : Tpl) = T := Option.some.inj hT
    subst hT
    have hge : ¬ 0 < R.Ws.length := by simpa using (ltn hle (hc _ List.mem_cons_self)).symm
    have h00 : R.Ws.length = 0 := by omega
    refine ⟨keep_app2 (GY_keep R) rfl hG', CRel_nil.2 trivial, fun x w' r => ?_⟩
    rw [h00]
    refine end_30N (ba := ba) ?_ r
    show ρ'.N 0 = some ba
    exact hle.n _ _ hN0
 | true =>
  obtain ⟨j4, j5⟩ := j2 rfl
  refine ⟨true, e30, [tB, tN], tB.cs, sums_b, hcs, run_b, fun s hs => ?_⟩
  have hz : ∀ ρ', ρ.Le ρ' -> GP.at (GY R) ρ' -> (nbT (.var 219)).den ρ' = some ((i : Nat) : Int) := fun ρ' hle hG' => by
   rw [nbT, fnD (x := ρ.I 219) (by show some _ = _; rw [hle.i]) (litD 0), hG'.2.1, fNb, j5]
  simp only [sums_b, List.mem_cons, List.not_mem_nil, or_false] at hs
  rcases hs with rfl | rfl | rfl | rfl
  · exact nB (q := 7) (n0 := nbT (.var 219)) (by repeat (first | exact List.mem_cons_self | apply List.mem_cons_of_mem)) List.mem_cons_self hz rfl rfl rfl rfl
  · exact nB (q := 13) (n0 := nbT (.var 219)) (by repeat (first | exact List.mem_cons_self | apply List.mem_cons_of_mem)) List.mem_cons_self hz rfl rfl rfl rfl
  · exact nB (q := 12) (n0 := nbT (.var 219)) (by repeat (first | exact List.mem_cons_self | apply List.mem_cons_of_mem)) List.mem_cons_self hz rfl rfl rfl rfl
  · refine ⟨trivial, fun ρ' hle hc T hT hG' => ?_⟩
    have hT : (⟨[(0, .ptr 2 (.lit 0))], 1, [(2, lyB fnL tdB .sliceNil e0), (4, rwB)], 5, [], 0⟩ : Tpl) = T := Option.some.inj hT
    subst hT
    have hge : ¬ i < R.Ws.length := by simpa using (ltn hle (hc (_, false) (by repeat (first | exact List.mem_cons_self | apply List.mem_cons_of_mem)))).symm
    have h00 : i = R.Ws.length := by omega
    refine ⟨keep_app2 (GY_keep R) rfl hG', CRel_nil.2 trivial, fun x w' r => ?_⟩
    refine end_30B (ba := ba) ?_ (by omega) ?_ r
    · show ρ'.N 0 = some ba
      exact hle.n _ _ hN0
    show (decL (ρ'.I 219)).tail.length = _
    rw [hle.i, j5, h00]
theorem newLays30 (R : RowsW true w) (hn : R.Ws.length <= 1000000) (ba : Nat) : Calls Try.prog 30 #[.pointer (some ⟨ba, 0, none⟩), .slice R.ad R.Ws.length R.cap] w (fun e w' => ∃ x, e = .returned x /\ RY w ba R.Ws.length x w') := by
 let ρ : Env := ⟨fun i => if i = 71 then R.bo else if i = 72 then R.oo else R.Ws.length, fun _ => false, fun _ => default, fun _ => .slice R.ad R.Ws.length R.cap, fun _ => none, fun i => if i = 81 then (fun i _ => ((R.el (R.Ws.getD i.toNat (.slice none 0 0)) : Nat) : Int)) else if i = 82 then (fun i _ => R.zs.getD i.toNat 0) else if i = 93 then fNb else fEl⟩
 have hh : HRel ⟨w, noO, GY R⟩ (ρ.put 0 ba) .leaf 1 w := (HRel.startG w ρ (fun _ => rfl) ⟨⟨rfl, rfl, rfl, rfl, rfl, rfl⟩, rfl, rfl⟩).num ba
 refine calls_sumsO (β := ⟨w, noO, GY R⟩) noCount noExt (sp30_ok R) follows Try.func30 rfl run_e (xs := [.pointer (some ⟨ba, 0, none⟩), .slice R.ad R.Ws.length R.cap]) rfl hh (CRel_nil.2 trivial) (fun s hs => ?_)
 simp only [sums_e, List.mem_cons, List.not_mem_nil, or_false] at hs
 subst hs
 refine ⟨trivial, fun ρ' hle hc' T hT hG' => ?_⟩
 obtain rfl : tN = T := Option.some.inj hT
 refine ⟨keep_app2 (GY_keep R) rfl hG', ?_, fun a w' r => loop_30 R hn ba false _ ?_ _ a w' (.inr rfl) r⟩
 rotate_left
 · refine ⟨?_, rfl⟩
   show ρ'.N 0 = some ba
   exact hle.n _ _ (Env.put_same ..)
 simp only [tN, cs30, CRel_cons, CRel_nil, and_true]
 exact geqT (x := 0) rfl (litD 0) (by omega)
end Lb
end Go.Proofs.Ytighjgmgpphohaa
end
