/- The law (13): NewLays, as the machine takes it. -/
import Derived.Test.YtighjgmgpphohaaLb4
section
namespace Go.Proofs.Ytighjgmgpphohaa
open Go.Vm Go.Vm.Le Go.Vm.Mb
namespace Lb
open Gr (RowsW)
variable {w0 : World}
def spNewL : SpG := fun args H nl cs => match args with
 | [.ptr l (.lit (.ofNat 0)), .var 70] => some
  [.ret (.ptr nl (.lit 0)) (H.set nl ⟨.cells [.nilFunc, .ptr l (.lit 0), .sliceNil, .sliceNil, e0] 92 none, true⟩) (nl + 1) ((.cmp .eql (.var 73) (.lit 0), true) :: cs),
   .ret (.ptr (nl + 2) (.lit 0)) ((H.set (nl + 1) ⟨.big 5 (.nv nl), true⟩).set (nl + 2) ⟨.cells [.func (.func 63) [.ptr (nl + 2) (.lit 0)] [], .ptr l (.lit 0), .slice (nl + 1) (.lit 0) (nbT (.nv nl)) (capT (.nv nl)), .sliceNil, e0] 92 none, true⟩) (nl + 3)
    ((.cmp .eql (nbT (.nv nl)) (.var 73), true) :: (.cmp .geq (.var 73) (.lit 1), true) :: cs)]
 | _ => none
theorem spNewL_ok {β : Base} (hG : ∀ I B S V F, β.G I B S V F -> F 93 = fNb /\ ∃ n : Nat, I 73 = (n : Int) /\ n <= 1000000 /\ ∀ w' ba, (∀ y, y < β.w0.heap.size -> ¬ β.own y -> w'.heap[y]? = β.w0.heap[y]?) -> Calls Try.prog 30 #[.pointer (some ⟨ba, 0, none⟩), V 70] w' (fun e w2 => ∃ x, e = .returned x /\ RY w' ba n x w2)) : SpGOk Try.prog β 30 spNewL := by
 intro args H nl cs ls ρ w xs hr hx hh hc
 unfold spNewL at hr
 split at hr
 rotate_left
 · cases hr
 rename_i l
 cases hr
 obtain ⟨x1, r1, e1, h1, rfl⟩ := Rf.denL_cons hx
 obtain ⟨x2, r2, e2, h2, rfl⟩ := Rf.denL_cons h1
 cases h2
 obtain ⟨ba, rfl, hNa⟩ := den_ptr0 e1
 obtain rfl : ρ.V 70 = x2 := Option.some.inj e2
 obtain ⟨g93, n, g73, hn6, hcall⟩ := hG _ _ _ _ _ hh.g
 refine (hcall w ba hh.frame).mono fun e w' ⟨x, he, bl, hx, hf, hge, c, fr, hbl, hfr, hcase⟩ => ?_
 subst hx
 have d73 : (IT.var 73).den ρ = some (n : Int) := congrArg some g73
 rcases hcase with ⟨rfl, hcl⟩ | ⟨es, cap, b5, F5, h1n, hlen, hR, hF5, hno, hcl⟩
 · have hle : ρ.Le (ρ.put nl bl) := Env.le_put (hh.fresh nl (Nat.le_refl _))
   have hp1 : (AVal.ptr l (.lit 0)).den (ρ.put nl bl) = some (.pointer (some ⟨ba, 0, none⟩)) := by simp only [AVal.den, hle.n _ _ hNa]; rfl
   have hden : AVal.denL (ρ.put nl bl) [.nilFunc, .ptr l (.lit 0), .sliceNil, .sliceNil, e0] = some c.toList := by
    rw [hcl]; simp only [AVal.denL, hp1]; rfl
   have hsz : c.size = 5 := by rw [<- Array.length_toList, hcl]; rfl
   have h1 := hh.adopt hf hge hbl (k := .cells [.nilFunc, .ptr l (.lit 0), .sliceNil, .sliceNil, e0] 92 none) (rw := true) ⟨c.toList, c, fr, rfl, hden, List.prefix_refl _, hsz, fun _ => hfr⟩
   exact ⟨_, he, _, _, _, _, _, List.mem_cons_self, hle, by simp only [AVal.den, Env.put_same]; rfl, h1, c1 (eqlT (IT.den_mono hle d73) (litD 0) rfl) (hc.mono hle)⟩
 · obtain ⟨q, hq⟩ : ∃ q, q = encN (((cap : Nat) : Int) :: es.map slC) := ⟨_, rfl⟩
   obtain ⟨Fq, hQ⟩ := (hh.num q).big
   have l1 : ρ.Le (ρ.put nl q) := Env.le_put (hh.fresh nl (Nat.le_refl _))
   have l2 : (ρ.put nl q).Le ((ρ.put nl q).put (nl + 1) b5) := Env.le_put ((hh.num q).fresh _ (Nat.le_refl _))
   have hx1 : (IT.nv nl).den (ρ.put nl q) = some (encL (((cap : Nat) : Int) :: es.map slC)) := by rw [nvD (Env.put_same ..), hq]; rfl
   have h2 := (hh.num q).bigNew hf (c := .nv nl) (fam5 hR) hF5 hx1
   have hB2 := (hh.num q).bigNewB hQ hf (c := .nv nl) (fam5 hR) hF5 hx1
   have l3 : ((ρ.put nl q).put (nl + 1) b5).Le (((ρ.put nl q).put (nl + 1) b5).put (nl + 2) bl) := Env.le_put (h2.fresh _ (Nat.le_refl _))
   have hle := (l1.trans l2).trans l3
   have hp1 : (AVal.ptr l (.lit 0)).den (((ρ.put nl q).put (nl + 1) b5).put (nl + 2) bl) = some (.pointer (some ⟨ba, 0, none⟩)) := by simp only [AVal.den, hle.n _ _ hNa]; rfl
   have hp2 : (AVal.ptr (nl + 2) (.lit 0)).den (((ρ.put nl q).put (nl + 1) b5).put (nl + 2) bl) = some (.pointer (some ⟨bl, 0, none⟩)) := by simp only [AVal.den, Env.put_same]; rfl
   have dn : (nbT (.nv nl)).den (((ρ.put nl q).put (nl + 1) b5).put (nl + 2) bl) = some (n : Int) := by
    rw [nbT, fnD (IT.den_mono (l2.trans l3) hx1) (litD 0), hle.f, g93, fNb, decL_encL, List.tail_cons, List.length_map, hlen]
   have dc : (capT (.nv nl)).den (((ρ.put nl q).put (nl + 1) b5).put (nl + 2) bl) = some (cap : Int) := by
    rw [capT, unD (IT.den_mono (l2.trans l3) hx1) (litD 0)]
    show some ((decL _).getD ((0 : Int).toNat) 0) = _
    rw [decL_encL]; rfl
   have hp3 := den_slice_of (ρ := ((ρ.put nl q).put (nl + 1) b5).put (nl + 2) bl) (l := nl + 1) (b := b5) (l3.n _ _ (Env.put_same ..)) (litD ((0 : Nat) : Int)) dn dc
   have hp4 : (AVal.func (.func 63) [.ptr (nl + 2) (.lit 0)] []).den (((ρ.put nl q).put (nl + 1) b5).put (nl + 2) bl) = some (fnV bl) := by
    simp only [AVal.den, AVal.denL] at hp2 ⊢
    rw [hp2]; rfl
   have hden : AVal.denL (((ρ.put nl q).put (nl + 1) b5).put (nl + 2) bl) [.func (.func 63) [.ptr (nl + 2) (.lit 0)] [], .ptr l (.lit 0), .slice (nl + 1) (.lit 0) (nbT (.nv nl)) (capT (.nv nl)), .sliceNil, e0] = some c.toList := by
    rw [hcl]
    have hp3' : (AVal.slice (nl + 1) (.lit 0) (nbT (.nv nl)) (capT (.nv nl))).den (((ρ.put nl q).put (nl + 1) b5).put (nl + 2) bl) = some (.slice (some ⟨b5, 0, none⟩) n cap) := hp3
    simp only [AVal.denL, hp1, hp4, hp3']; rfl
   have hsz : c.size = 5 := by rw [<- Array.length_toList, hcl]; rfl
   have hnl : ∀ {l1 k1}, H.get l1 = some k1 -> l1 < nl := fun {l1 k1} g1 => by
    obtain ⟨b1, _, hb1, _⟩ := hh.blk l1 k1 g1
    rcases Nat.lt_or_ge l1 nl with h1 | h1
    · exact h1
    · rw [hh.fresh l1 h1] at hb1; cases hb1
   have h3 := h2.adoptN hB2 hbl (.inl (Nat.le_trans hh.size hge)) (fun l1 k1 g e => ?_) (fun l1 k1 c1 rw1 g hF => ?_) (k := .cells [.func (.func 63) [.ptr (nl + 2) (.lit 0)] [], .ptr l (.lit 0), .slice (nl + 1) (.lit 0) (nbT (.nv nl)) (capT (.nv nl)), .sliceNil, e0] 92 none) (rw := true) ⟨c.toList, c, fr, rfl, hden, List.prefix_refl _, hsz, fun _ => hfr⟩
   · exact ⟨_, he, _, _, _, _, _, List.mem_cons_of_mem _ List.mem_cons_self, hle, hp2, h3, c1 (eqlT dn (IT.den_mono hle d73) rfl) (c1 (geqT (IT.den_mono hle d73) (litD 1) (by omega)) (hc.mono hle))⟩
   · rcases Tr.get_set g with ⟨rfl, _⟩ | ⟨hne, g⟩
     · rw [Env.put_same] at e; cases e
       exact hno ((hR.F _).2 (.inl rfl))
     · have := hnl g
       rw [Env.put_other _ _ hne, Env.put_other _ _ (by omega)] at e
       have := hh.lt g e
       omega
   · rcases Tr.get_set g with ⟨rfl, _⟩ | ⟨hne, g⟩
     · simp only [if_true] at hF
       exact hno hF
     · rw [if_neg hne] at hF
       obtain ⟨_, _, _, _, e3, _⟩ := hQ.ok _ _ _ _ g
       have := fam_lt e3 hF
       omega
end Lb
end Go.Proofs.Ytighjgmgpphohaa
end
section
namespace Go.Proofs.Ytighjgmgpphohaa
open Go.Vm Go.Vm.Le Go.Vm.Mb
namespace La
open Ar (iV uV pT)
def lenA (x : AVal) (n : IT) : Bool := match x with
 | .sliceNil => IT.beq n (.lit 0)
 | .slice _ _ m _ => IT.beq n m
 | .var 64 => IT.beq n (.var 76)
 | .var 66 => IT.beq n (.var 78)
 | _ => false
def spGrt (xn yn : IT) (b : Bool) : SpG := fun args H nl cs => match args with
 | [.var 60, .slice r (.lit (.ofNat 0)) (.lit (.ofNat 1)) (.lit (.ofNat 1)), .sliceNil] => match H.get r with
  | some ⟨.cells [.int .i64 _, x, y, .var 70] 49 none, _⟩ => cond (lenA x xn && lenA y yn) (some [.ret (.bool (.lit b)) H nl cs]) none
  | _ => none
 | _ => none
def spLd : SpG := fun args H nl cs => match args with
 | [.int .i64 (.lit (.ofNat 60000)), .var 60] => some [.ret (.tuple [.ptr (nl + 2) (.lit 0), .agg (Rf.refP nl .sliceNil)]) (H.set (nl + 2) ⟨.big 2 (.nv (nl + 1)), true⟩) (nl + 3) cs,
  .ret (.tuple [.ptr (nl + 2) (.lit 0), .agg (Rf.refP nl (.slice (nl + 3) (.lit 0) (.nv (nl + 4)) (.nv (nl + 5))))]) (H.set (nl + 2) ⟨.big 2 (.nv (nl + 1)), true⟩) (nl + 6) cs]
 | _ => none
def hk5 : OpF := orH (hkInLen 47 70 71) (orH (hkInLen 29 64 74) (orH (hkInLen 22 66 76) (orH (hkStN 49 4 [64, 66, 70]) (hkSl 22))))
def sp5 (xn yn : IT) (b : Bool) : CallF := spLH [(6, spTrue), (21, spGrt xn yn b), (22, spLd), (30, Lb.spNewL), (40, spClone [.u64, .i64] 35), (43, Lb.spZ (spClone [.u64] 32)), (65, Ar.spReadA), (70, Ar.spFreeA), (46, Lb.spLayB 12), (28, Ar.spCloA), (29, Ar.spSameA)] hk5
inductive Kz | nil | zero | row
def rowI (ks : List IntKind) (el : TypeId) : HB := ⟨.arr (.code ks (.var 31)) ks el (.var 32) (.var 33) none, false⟩
def wI : Kz -> AVal
 | .nil => .sliceNil
 | .zero => .slice 1 (.var 33) (.lit 0) (.nv 2)
 | .row => .slice 1 (.var 33) (.var 32) (.nv 2)
def nI : Kz -> IT
 | .row => .var 32
 | _ => .lit 0
def hI (ks : List IntKind) (el : TypeId) : Kz -> List (Nat × HB)
 | .row => [(1, rowI ks el)]
 | _ => []
def cI : Kz -> Cs
 | .row => [(.cmp .geq (.var 32) (.lit 1), true), (.cmp .leq (.var 32) (.lit 1000000), true), (.cmp .gtr (.var 32) (.lit 0), true)]
 | _ => []
def kT : IT := .bin .rem .u64 (.cv .u64 (.var 67)) (.lit 3)
def fk0 : Cs := [(.cmp .eql kT (.lit 0), true)]
def fk1 : Cs := [(.cmp .eql kT (.lit 0), false), (.cmp .eql kT (.lit 1), true)]
def fk2 : Cs := [(.cmp .eql kT (.lit 0), false), (.cmp .eql kT (.lit 1), false), (.cmp .eql kT (.lit 2), true)]
def ar0 (k : Kz) : List AVal := [.var 60, .agg [iV 67, wI k, .var 66, .var 70]]
def ar1 (k : Kz) : List AVal := [.var 60, .agg [iV 67, .var 64, wI k, .var 70]]
def ar2 : List AVal := [.var 60, .agg [iV 67, .var 64, .var 66, .var 70]]
def arB : HB := ⟨.big 2 (.var 210), true⟩
def tm5 (i : AVal) : List (Nat × AVal) := [(5, .ptr 7 (.lit 0)), (7, .ptr 14 (.lit 0)), (41, iV 211), (42, i)]
def i0 : AVal := .int .i64 (.lit 0)
def el (sz : Nat) : IT := .elem (.lit 0) sz 0 (.var 213)
def td1 : AVal := .slice 12 (.lit 0) (.var 211) (.nv 1)
def td2 (sz : Nat) : AVal := .slice 12 (el sz) (.var 214) (.var 215)
def tdz : AVal := .slice 12 (.var 213) (.lit 0) (.var 215)
def wd2 : AVal := .slice 16 (.lit 0) (.var 216) (.nv 2)
def wdB : HB := ⟨.arr (.code [.u64] (.var 217)) [.u64] 32 (.var 216) (.lit 0) (some (.nv 2)), true⟩
def mR : HB := ⟨.cells [.ptr 13 (.lit 0), .ptrNil, .ptrNil] 61 none, true⟩
def rdB (f todo words : AVal) : HB := ⟨.cells [f, .ptr 7 (.lit 0), todo, words] 80 none, true⟩
def fnR : AVal := .func (.func 54) [.ptr 13 (.lit 0)] []
def tdR : HB := ⟨.arr (.code [.u64, .i64] (.var 219)) [.u64, .i64] 35 (.var 211) (.lit 0) (some (.nv 1)), true⟩
def tR1 : Tpl := ⟨tm5 i0, 81, [(7, arB), (14, mR), (13, rdB fnR td1 .sliceNil), (12, tdR)], 17, [], 3⟩
def tR2 : Tpl := ⟨tm5 (iV 218), 81, [(7, arB), (14, mR), (13, rdB fnR (td2 2) wd2), (12, tdR), (16, wdB)], 17, [], 3⟩
def tRn : Tpl := ⟨tm5 (iV 218), 81, [(7, arB), (14, mR), (13, rdB .nilFunc .sliceNil .sliceNil)], 17, [], 3⟩
def tRz : Tpl := ⟨tm5 (iV 218), 81, [(7, arB), (14, mR), (13, rdB .nilFunc tdz .sliceNil)], 17, [], 3⟩
def tRD : Tpl := ⟨tm5 (iV 218), 81, [(7, arB), (14, mR), (13, rdB .nilFunc (td2 2) wd2)], 17, [], 3⟩
def tsR : List Tpl := [tR1, tR2, tRn, tRz, tRD]
def mF : HB := ⟨.cells [.ptrNil, .ptr 13 (.lit 0), .ptrNil] 61 none, true⟩
def frB (f todo : AVal) : HB := ⟨.cells [f, .ptr 7 (.lit 0), todo] 99 none, true⟩
def fnF : AVal := .func (.func 64) [.ptr 13 (.lit 0)] []
def tdF : HB := ⟨.arr (.code [.u64] (.var 219)) [.u64] 32 (.var 211) (.lit 0) (some (.nv 1)), true⟩
def tF1 : Tpl := ⟨tm5 i0, 81, [(7, arB), (14, mF), (13, frB fnF td1), (12, tdF)], 17, [], 3⟩
def tF2 : Tpl := ⟨tm5 (iV 218), 81, [(7, arB), (14, mF), (13, frB fnF (td2 1)), (12, tdF)], 17, [], 3⟩
def tFn : Tpl := ⟨tm5 (iV 218), 81, [(7, arB), (14, mF), (13, frB .nilFunc .sliceNil)], 17, [], 3⟩
def tFz : Tpl := ⟨tm5 (iV 218), 81, [(7, arB), (14, mF), (13, frB .nilFunc tdz)], 17, [], 3⟩
def tFD : Tpl := ⟨tm5 (iV 218), 81, [(7, arB), (14, mF), (13, frB .nilFunc (td2 1))], 17, [], 3⟩
def tsF : List Tpl := [tF1, tF2, tFn, tFz, tFD]
def bxP : HB := ⟨.cells [iV 67, .var 64, .var 66, .var 70] 49 none, true⟩
def tmL (i : AVal) : List (Nat × AVal) := (3, .ptr 3 (.lit 0)) :: tm5 i
def mL : HB := ⟨.cells [.ptrNil, .ptrNil, .ptr 13 (.lit 0)] 61 none, true⟩
def lyB (f todo hs e : AVal) : HB := ⟨.cells [f, .ptr 7 (.lit 0), todo, hs, e] 92 none, true⟩
def fnL : AVal := .func (.func 63) [.ptr 13 (.lit 0)] []
def tdL1 : AVal := .slice 12 (.lit 0) (nbT (.var 219)) (capT (.var 219))
def tdL : HB := ⟨.big 5 (.var 219), true⟩
def hL (l : List (Nat × HB)) : List (Nat × HB) := (3, bxP) :: (7, arB) :: (14, mL) :: l
def tL1 : Tpl := ⟨tmL i0, 81, hL [(13, lyB fnL tdL1 .sliceNil i0), (12, tdL)], 17, [], 3⟩
def tL2 : Tpl := ⟨tmL (iV 218), 81, hL [(13, lyB fnL (td2 1) wd2 (iV 209)), (12, tdL), (16, wdB)], 17, [], 3⟩
def tLn : Tpl := ⟨tmL (iV 218), 81, hL [(13, lyB .nilFunc .sliceNil .sliceNil i0)], 17, [], 3⟩
def tLE : Tpl := ⟨tmL (iV 218), 81, hL [(13, lyB .nilFunc (td2 1) .sliceNil (iV 209))], 17, [], 3⟩
def tLD : Tpl := ⟨tmL (iV 218), 81, hL [(13, lyB .nilFunc (td2 1) wd2 (iV 209)), (16, wdB)], 17, [], 3⟩
def tsL : List Tpl := [tL1, tL2, tLn, tLE, tLD]
def e5 : List Tpl := [⟨[(0, .bool (.lit true))], 1, [], 30, [], 0⟩]
def g5 : Gen := ⟨220, 9, 0, 8⟩
def fL (b : Bool) : Cs := [(.cmp .lss (.var 218) (.var 211), b)]
def f1 (n : IT) (b : Bool) : Cs := [(.cmp .lss (.lit 0) (.var 211), true), (.cmp .lss (.lit 0) n, true), (.cmp .geq (.lit 0) (.lit 0), true), (.cmp .leq (.lit 1) n, true), (.cmp .geq (.lit 1) (.lit 0), true), (.cmp .gtr (.un 14 n (.lit 1)) (.lit 0), b)]
def ix : IT := .elem (.var 213) 1 0 (.lit 0)
def fI1 : Cs := [(.cmp .lss (.elem (.lit 0) 1 0 (.lit 0)) (nbT (.var 219)), true)]
def fI2 : Cs := [(.cmp .lss (.elem (.elem (.lit 0) 1 0 (.var 213)) 1 0 (.lit 0)) (nbT (.var 219)), true)]
def f2F (n : IT) (b : Bool) : Cs := [(.cmp .lss (.lit 0) (.var 214), true), (.cmp .geq (.lit 0) (.lit 0), true), (.cmp .lss ix n, true), (.cmp .geq ix (.lit 0), true), (.cmp .leq (.lit 1) (.var 214), true), (.cmp .geq (.lit 1) (.lit 0), true), (.cmp .gtr (.un 14 (.var 214) (.lit 1)) (.lit 0), b)] ++ fL true
def fW : Cs := [(.cmp .leq (.var 216) (.lit 1000000), true), (.cmp .geq (.var 216) (.lit 1), true)]
def f2 (n : IT) (b : Bool) : Cs := fW ++ f2F n b
end La
end Go.Proofs.Ytighjgmgpphohaa
end
