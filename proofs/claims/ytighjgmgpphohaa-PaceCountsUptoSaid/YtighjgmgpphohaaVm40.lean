/- Arenas (18): what is known of an arena's functions, as the machine takes it: an arena is one object. -/
import Derived.Test.YtighjgmgpphohaaAr17
import Derived.Test.YtighjgmgpphohaaAr2
section
namespace Go.Proofs.Ytighjgmgpphohaa
open Go.Vm Go.Vm.Le Go.Vm.Mb
namespace Ar
def pT (i : Int) (nl : Nat) : IT := .un 0 (.nv nl) (.lit i)
theorem pT_den {ρ : Env} {nl : Nat} {l : List Int} (h : ρ.N nl = some (encN l)) (i : Nat) : (pT (i : Int) nl).den ρ = some (l.getD i 0) := by
 have h1 : (IT.nv nl).den ρ = some (encL l) := by rw [nvD h]; rfl
 rw [pT, unD h1 (litD (i : Int))]
 show some ((decL (encL l)).getD ((i : Int).toNat) 0) = _
 rw [decL_encL, Int.toNat_natCast]
def arOf (H : Heap) (l : Nat) : Option IT := match H.get l with
 | some ⟨.big 2 c, true⟩ => some c
 | _ => none
theorem arOf_get {H : Heap} {l : Nat} {c : IT} (h : arOf H l = some c) : H.get l = some ⟨.big 2 c, true⟩ := by
 unfold arOf at h
 split at h
 · rename_i hg; cases h; exact hg
 · cases h
def wordsOk (H : Heap) (cs : Cs) : AVal -> Bool
 | .sliceNil => true
 | .slx _ _ (.lit (.ofNat 0)) _ => true
 | .slice r off n _ => match H.get r with
  | some ⟨.arr (.code [.u64] _) [.u64] _ m o _, _⟩ => IT.beq n m && (IT.beq off o && isB (lookB cs (.cmp .geq n (.lit 1))) true)
  | _ => false
 | _ => false
def ansA (u : AVal) (l : Nat) (H : Heap) (nl : Nat) (cs : Cs) : List Leaf := [.ret u (H.set l ⟨.big 2 (pT 0 nl), true⟩) (nl + 1) cs]
def spLayA : SpG := fun args H nl cs => match args with
 | [.ptr l (.lit (.ofNat 0)), v] => match arOf H l with
  | some _ => cond (wordsOk H cs v) (some (ansA (.tuple [.int .u64 (pT 1 nl), .int .i64 (pT 2 nl)]) l H nl cs)) none
  | none => none
 | _ => none
def spReadA : SpG := fun args H nl cs => match args with
 | [.ptr l (.lit (.ofNat 0)), .agg [.int .u64 _, .int .i64 _]] => match arOf H l with
  | some _ => some (ansA (.tuple [.int .u64 (pT 1 nl), .int .i64 (pT 2 nl)]) l H nl cs)
  | none => none
 | _ => none
def spFreeA : SpG := fun args H nl cs => match args with
 | [.ptr l (.lit (.ofNat 0)), .int .u64 _] => match arOf H l with
  | some _ => some (ansA (.int .i64 (pT 1 nl)) l H nl cs)
  | none => none
 | _ => none
def spNewA : SpG := fun args H nl cs => match args with
 | [.int .i64 (.lit (.ofNat 60000))] => some [.ret (.tuple [.ptr (nl + 1) (.lit 0), .int .i64 (.lit 0)]) (H.set (nl + 1) ⟨.big 2 (.nv nl), true⟩) (nl + 2) cs]
 | _ => none
open Classical in
noncomputable def fAlike (x y : Int) : Int := if (decL x).getD 0 0 = (decL y).getD 0 0 /\ (esOf ((decL y).getD 2 0)).Perm (esOf ((decL x).getD 2 0)) then 1 else 0
def alikeT (c d : IT) : BT := .cmp .eql (.fn 75 c d) (.lit 1)
def spCloA : SpG := fun args H nl cs => match args with
 | [.ptr l (.lit (.ofNat 0))] => match arOf H l with
  | some c => some [.ret (.ptr (nl + 1) (.lit 0)) (H.set (nl + 1) ⟨.big 2 (.nv nl), true⟩) (nl + 2) ((alikeT c (.nv nl), true) :: cs)]
  | none => none
 | _ => none
def spSameA : SpG := fun args H nl cs => match args with
 | [.ptr l (.lit (.ofNat 0)), .ptr l' (.lit (.ofNat 0))] => match arOf H l, arOf H l' with
  | some c, some d => cond (isB (lookB cs (alikeT c d)) true) (some [.ret (.bool (.lit true)) H nl cs]) none
  | _, _ => none
 | _ => none
section
variable {β : Base} {ρ : Env} {H : Heap} {nl : Nat} {w : World}
theorem ptrL {l b : Nat} {pv : Value} (hp : (AVal.ptr l (.lit (Int.ofNat 0))).den ρ = some pv) (hN : ρ.N l = some b) : pv = .pointer (some ⟨b, 0, none⟩) := Lp.ptr_of hp hN
theorem ansA_ok (hh : HRel β ρ H nl w) {cs : Cs} (hc : CRel ρ cs) {l b : Nat} {F : Nat -> Prop} (hF : ∀ n w' c' x' F', BigStep w w' F F' -> fam 2 x' w' b F' -> c'.den (ρ.put nl n) = some x' -> HRel β (ρ.put nl n) (H.set l ⟨.big 2 c', true⟩) (nl + 1) w')
 {w' : World} {F' : Nat -> Prop} (hs : BigStep w w' F F') (hA : SomeA w' b F') (l2 : List Int) :
 ∃ ρ', ρ.Le ρ' /\ (∀ i : Nat, (pT ((i + 1 : Nat) : Int) nl).den ρ' = some (l2.getD i 0)) /\ HRel β ρ' (H.set l ⟨.big 2 (pT 0 nl), true⟩) (nl + 1) w' /\ CRel ρ' cs := by
 obtain ⟨A, most, hi, K, es, hA⟩ := hA
 obtain ⟨n, hn⟩ : ∃ n, n = encN (encL [encL A, encL (most :: ((hi : Nat) : Int) :: K), codeE es] :: l2) := ⟨_, rfl⟩
 have hle : ρ.Le (ρ.put nl n) := Env.le_put (hh.fresh nl (Nat.le_refl _))
 have hNn : (ρ.put nl n).N nl = some (encN (encL [encL A, encL (most :: ((hi : Nat) : Int) :: K), codeE es] :: l2)) := by rw [<- hn]; exact Env.put_same ..
 refine ⟨ρ.put nl n, hle, fun i => ?_, hF n w' (pT 0 nl) _ F' hs (fam2 hA) ?_, hc.mono hle⟩
 · rw [pT_den hNn (i + 1)]
   simp
 · have := pT_den hNn 0
   simpa using this
theorem spFreeA_ok : SpGOk Try.prog β 70 spFreeA := by
 intro args H nl cs ls ρ w xs hr hx hh hc
 unfold spFreeA at hr
 split at hr
 rotate_left
 · cases hr
 rename_i l z
 split at hr
 rotate_left
 · cases hr
 rename_i c hl
 cases hr
 obtain ⟨b, x, F, hN, hcx, hfam, _, upd⟩ := hh.bigAtN (arOf_get hl)
 obtain ⟨A, most, hi, K, es, _, hA⟩ := fam2_inv hfam
 simp only [AVal.denL] at hx
 cases hp : (AVal.ptr l (.lit (Int.ofNat 0))).den ρ with
 | none => rw [hp] at hx; cases hx
 | some pv =>
  rw [hp] at hx
  cases hz : z.den ρ with
  | none => simp only [AVal.den, hz, Option.map_none] at hx; cases hx
  | some zz =>
   simp only [AVal.den, hz, Option.map_some] at hx; cases hx
   obtain rfl := ptrL hp hN
   refine (free70 hA zz).mono fun e w' ⟨v, he, ⟨z0, hv0⟩, F', hst, hA'⟩ => ?_
   subst hv0
   obtain ⟨ρ', hle, hd, hr', hc'⟩ := ansA_ok hh hc (upd rfl) hst hA' [z0]
   exact ⟨_, he, _, _, _, _, ρ', List.mem_cons_self, hle, by
    have := hd 0
    show ((pT ((0 + 1 : Nat) : Int) nl).den ρ').map (Value.int .i64) = _
    rw [this]; rfl, hr', hc'⟩
theorem spReadA_ok : SpGOk Try.prog β 65 spReadA := by
 intro args H nl cs ls ρ w xs hr hx hh hc
 unfold spReadA at hr
 split at hr
 rotate_left
 · cases hr
 rename_i l z y
 split at hr
 rotate_left
 · cases hr
 rename_i c hl
 cases hr
 obtain ⟨b, x, F, hN, hcx, hfam, _, upd⟩ := hh.bigAtN (arOf_get hl)
 obtain ⟨A, most, hi, K, es, _, hA⟩ := fam2_inv hfam
 simp only [AVal.denL] at hx
 cases hp : (AVal.ptr l (.lit (Int.ofNat 0))).den ρ with
 | none => rw [hp] at hx; cases hx
 | some pv =>
  rw [hp] at hx
  cases hz : z.den ρ with
  | none => simp only [AVal.den, AVal.denL, hz, Option.map_none] at hx; cases hx
  | some zz => cases hy : y.den ρ with
   | none => simp only [AVal.den, AVal.denL, hz, hy, Option.map_none, Option.map_some] at hx; cases hx
   | some yy =>
    simp only [AVal.den, AVal.denL, hz, hy, Option.map_some] at hx; cases hx
    obtain rfl := ptrL hp hN
    refine (read65 hA zz yy).mono fun e w' ⟨v, he, ⟨z0, z1, hv0⟩, F', hst, hA'⟩ => ?_
    subst hv0
    obtain ⟨ρ', hle, hd, hr', hc'⟩ := ansA_ok hh hc (upd rfl) hst hA' [z0, z1]
    have d0 : (pT 1 nl).den ρ' = some z0 := hd 0
    have d1 : (pT 2 nl).den ρ' = some z1 := hd 1
    exact ⟨_, he, _, _, _, _, ρ', List.mem_cons_self, hle, by simp only [AVal.den, AVal.denL, d0, d1, Option.map_some], hr', hc'⟩
theorem words_in (hh : HRel β ρ H nl w) {cs : Cs} (hc : CRel ρ cs) {v : AVal} {vv : Value} (hv : v.den ρ = some vv) (hok : wordsOk H cs v = true) {F : Nat -> Prop} {l : Nat} {c : IT} (hl : H.get l = some ⟨.big 2 c, true⟩) (hF : ∀ l' k' y, H.get l' = some k' -> l ≠ l' -> ρ.N l' = some y -> ¬ F y) : Words w F vv := by
 unfold wordsOk at hok
 split at hok
 · obtain rfl := den_sliceNil hv
   exact .inl ⟨none, 0, rfl, (fun p e => by cases e), fun _ => rfl⟩
 · obtain ⟨b, o, n, cap, rfl, _, _, hn, _⟩ := den_slx hv
   obtain rfl : n = 0 := by
    have : some (Int.ofNat 0) = some (Int.ofNat n) := hn
    exact (Int.ofNat.inj (Option.some.inj this)).symm
   exact .inl ⟨some ⟨b, o, slS 0 cap⟩, slK 0 cap, rfl, (fun p e => by cases e; exact slX_back b o cap), fun e => by cases e⟩
 · rename_i r off n cp
   split at hok
   · rename_i u el m o r1 rw1 hg
     simp only [Bool.and_eq_true] at hok
     obtain ⟨q1, q2, q3⟩ := hok
     obtain ⟨b, k, q, cap, z, rfl, hn, _, hw⟩ := words_of hh hg hv (IT.beq_eq q1) (IT.beq_eq q2)
     obtain ⟨b', o', n', c', he, hN, _⟩ := den_slice hv
     obtain rfl : b = b' := by
      simp only [Value.slice.injEq, Option.some.injEq, Addr.mk.injEq] at he
      exact he.1.1
     have h1 := isB_ok q3 hc
     rw [cmpD hn (litD 1)] at h1
     simp only [intCmp, Option.some.injEq, decide_eq_true_eq] at h1
     have hne : l ≠ r := fun e => by subst e; rw [hl] at hg; cases hg
     exact .inr ⟨b, q, k, cap, z, rfl, by omega, hF r _ b hg hne hN, hw⟩
   · cases hok
 · cases hok
theorem spLayA_ok : SpGOk Try.prog β 46 spLayA := by
 intro args H nl cs ls ρ w xs hr hx hh hc
 unfold spLayA at hr
 split at hr
 rotate_left
 · cases hr
 rename_i l v
 split at hr
 rotate_left
 · cases hr
 rename_i c hl
 cases hb : wordsOk H cs v with
 | false => rw [hb] at hr; cases hr
 | true =>
  rw [hb] at hr; cases hr
  obtain ⟨b, x, F, hN, hcx, hfam, hap, upd⟩ := hh.bigAtN (arOf_get hl)
  obtain ⟨A, most, hi, K, es, _, hA⟩ := fam2_inv hfam
  simp only [AVal.denL] at hx
  cases hp : (AVal.ptr l (.lit (Int.ofNat 0))).den ρ with
  | none => rw [hp] at hx; cases hx
  | some pv => cases hv : v.den ρ with
   | none => rw [hp, hv] at hx; cases hx
   | some vv =>
    rw [hp, hv] at hx; cases hx
    obtain rfl := ptrL hp hN
    refine (lay46 hA (words_in hh hc hv hb (arOf_get hl) hap)).mono fun e w' ⟨v, he, ⟨z0, z1, hv0⟩, F', hst, hA'⟩ => ?_
    subst hv0
    obtain ⟨ρ', hle, hd, hr', hc'⟩ := ansA_ok hh hc (upd rfl) hst hA' [z0, z1]
    have d0 : (pT 1 nl).den ρ' = some z0 := hd 0
    have d1 : (pT 2 nl).den ρ' = some z1 := hd 1
    exact ⟨_, he, _, _, _, _, ρ', List.mem_cons_self, hle, by simp only [AVal.den, AVal.denL, d0, d1, Option.map_some], hr', hc'⟩
end
end Ar
end Go.Proofs.Ytighjgmgpphohaa
end
section
namespace Go.Proofs.Ytighjgmgpphohaa
open Go.Vm Go.Vm.Le Go.Vm.Mb
namespace Ar
section
variable {β : Base}
theorem spNewA_ok : SpGOk Try.prog β 7 spNewA := by
 intro args H nl cs ls ρ w xs hr hx hh hc
 unfold spNewA at hr
 split at hr
 rotate_left
 · cases hr
 cases hr
 have hx2 : AVal.denL ρ [.int .i64 (.lit (.ofNat 60000))] = some [.int .i64 60000] := rfl
 obtain rfl := Option.some.inj (hx.symm.trans hx2)
 refine (newA7 w).mono fun e w' ⟨b, he, hf, F', ⟨A, most, hi, K, es, hA⟩, hF'⟩ => ?_
 obtain ⟨n, hn⟩ : ∃ n, n = encN [encL A, encL (most :: ((hi : Nat) : Int) :: K), codeE es] := ⟨_, rfl⟩
 have q1 := hh.num n
 have l1 : ρ.Le (ρ.put nl n) := Env.le_put (hh.fresh nl (Nat.le_refl _))
 have hc1 : (IT.nv nl).den (ρ.put nl n) = some (encL [encL A, encL (most :: ((hi : Nat) : Int) :: K), codeE es]) := by rw [nvD (Env.put_same ..), hn]; rfl
 have q2 := q1.bigNew hf (c := .nv nl) (fam2 hA) hF' hc1
 have l2 := Env.le_put (b := b) (q1.fresh (nl + 1) (Nat.le_refl _))
 exact ⟨_, he, _, _, _, _, _, List.mem_cons_self, l1.trans l2, by simp only [AVal.den, AVal.denL, Env.put_same]; rfl, q2, hc.mono (l1.trans l2)⟩
theorem spCloA_ok (hG : ∀ I B S V F, β.G I B S V F -> F 75 = fAlike) : SpGOk Try.prog β 28 spCloA := by
 intro args H nl cs ls ρ w xs hr hx hh hc
 unfold spCloA at hr
 split at hr
 rotate_left
 · cases hr
 rename_i l
 split at hr
 rotate_left
 · cases hr
 rename_i c hl
 cases hr
 obtain ⟨b, x, F, hN, hcx, hfam, _⟩ := hh.bigAt (arOf_get hl)
 obtain ⟨A, most, hi, K, es, rfl, hA⟩ := fam2_inv hfam
 simp only [AVal.denL] at hx
 cases hp : (AVal.ptr l (.lit (Int.ofNat 0))).den ρ with
 | none => rw [hp] at hx; cases hx
 | some pv =>
  rw [hp] at hx; cases hx
  obtain rfl := ptrL hp hN
  refine (clone28 hA).mono fun e w' ⟨v, he, b', hv, hf, F', es', hperm, hA', hF'⟩ => ?_
  subst hv
  obtain ⟨n, hn⟩ : ∃ n, n = encN [encL A, encL (most :: ((hi : Nat) : Int) :: K), codeE es'] := ⟨_, rfl⟩
  have q1 := hh.num n
  have l1 : ρ.Le (ρ.put nl n) := Env.le_put (hh.fresh nl (Nat.le_refl _))
  have hc1 : (IT.nv nl).den (ρ.put nl n) = some (encL [encL A, encL (most :: ((hi : Nat) : Int) :: K), codeE es']) := by rw [nvD (Env.put_same ..), hn]; rfl
  have q2 := q1.bigNew hf (c := .nv nl) (fam2 hA') hF' hc1
  have l2 := Env.le_put (b := b') (q1.fresh (nl + 1) (Nat.le_refl _))
  have hle := l1.trans l2
  have hal : (alikeT c (.nv nl)).den ((ρ.put nl n).put (nl + 1) b') = some true := by
   have e1 : (IT.fn 75 c (.nv nl)).den ((ρ.put nl n).put (nl + 1) b') = some 1 := by
    rw [fnD (IT.den_mono hle hcx) (IT.den_mono l2 hc1), hle.f, hG _ _ _ _ _ hh.g]
    congr 1
    unfold fAlike
    rw [decL_encL, decL_encL, if_pos]
    refine ⟨rfl, ?_⟩
    simp only [List.getD_cons_succ, List.getD_cons_zero, esOf_code]
    exact hperm
   unfold alikeT
   rw [cmpD e1 (litD 1)]; rfl
  exact ⟨_, he, _, _, _, _, _, List.mem_cons_self, hle, by simp only [AVal.den, Env.put_same]; rfl, q2, c1 hal (hc.mono hle)⟩
theorem spSameA_ok (hG : ∀ I B S V F, β.G I B S V F -> F 75 = fAlike) : SpGOk Try.prog β 29 spSameA := by
 intro args H nl cs ls ρ w xs hr hx hh hc
 unfold spSameA at hr
 split at hr
 rotate_left
 · cases hr
 rename_i l l'
 split at hr
 rotate_left
 · cases hr
 rename_i c d hl hl'
 cases hb : isB (lookB cs (alikeT c d)) true with
 | false => rw [hb] at hr; cases hr
 | true =>
  rw [hb] at hr; cases hr
  obtain ⟨b, x, F, hN, hcx, hfam, _⟩ := hh.bigAt (arOf_get hl)
  obtain ⟨b2, y, F', hN2, hdx, hfam2, _⟩ := hh.bigAt (arOf_get hl')
  obtain ⟨A, most, hi, K, es, rfl, hA⟩ := fam2_inv hfam
  obtain ⟨A2, most2, hi2, K2, es2, rfl, hA2⟩ := fam2_inv hfam2
  have hal := isB_den hb hc hcx hdx (hG _ _ _ _ _ hh.g)
  unfold fAlike at hal
  split at hal
  rotate_left
  · cases hal
  rename_i h1
  rw [decL_encL, decL_encL] at h1
  simp only [List.getD_cons_succ, List.getD_cons_zero, esOf_code] at h1
  obtain ⟨h2, h3⟩ := h1
  obtain rfl := encL_inj h2
  simp only [AVal.denL] at hx
  cases hp : (AVal.ptr l (.lit (Int.ofNat 0))).den ρ with
  | none => rw [hp] at hx; cases hx
  | some pv => cases hp2 : (AVal.ptr l' (.lit (Int.ofNat 0))).den ρ with
   | none => rw [hp, hp2] at hx; cases hx
   | some pv2 =>
    rw [hp, hp2] at hx; cases hx
    obtain rfl := ptrL hp hN
    obtain rfl := ptrL hp2 hN2
    refine (same29 hA hA2 h3).mono fun e w' ⟨he, hf⟩ => ?_
    exact ⟨_, he, _, _, _, _, ρ, List.mem_cons_self, Env.Le.refl ρ, rfl, hh.framed hf, hc⟩
end
end Ar
end Go.Proofs.Ytighjgmgpphohaa
end
section
namespace Go.Vm
def WordsIn (w : World) (r o n : Nat) (z : Int) : Prop := ∃ c fr el, w.heap[r]? = some (.cells c el fr) /\ o <= c.size /\ rowOf [.u64] (decL z) <+: c.toList.drop o /\ Typed [.u64] n (rowOf [.u64] (decL z))
structure InR (β : Base) (sm : Bool) (v a k : Nat) where
 bo : Nat
 oo : Nat
 cap : Nat
 Ws : List Value
 zs : List Int
 el : Value -> Nat
 ad : Option Addr
 at0 : 1 <= Ws.length -> ad = some ⟨bo, oo, none⟩ /\ ¬ β.own bo /\ ∃ c fr e, β.w0.heap[bo]? = some (.cells c e fr) /\ Ws <+: c.toList.drop oo
 row : ∀ i v, Ws[i]? = some v -> (v = .slice none 0 0 /\ el v = 0) ∨ ∃ b o n c, v = slX b o n c /\ el v = n /\ (sm = true -> n <= 1000000) /\ (1 <= n -> ¬ β.own b /\ WordsIn β.w0 b o n (zs.getD i 0))
 pin : ∀ I B S V F, β.G I B S V F -> V v = .slice ad Ws.length cap /\ I a = (bo : Int) /\ I (a + 1) = (oo : Int) /\ I (a + 2) = (Ws.length : Int) ∧
  F k = (fun i _ => ((el (Ws.getD i.toNat (.slice none 0 0)) : Nat) : Int)) /\ F (k + 1) = (fun i _ => zs.getD i.toNat 0)
def lenI (k : Nat) (i : IT) : IT := .fn k i (.lit 0)
def blkT (a nl : Nat) : BT := .cmp .eql (.nv nl) (.var a)
def hkInLen (t v a : Nat) : OpF := fun o ev H nl cs => match o with
 | .call { callee := .builtin .len, args, argTypes } => match args.toList, argTypes.toList with
  | [x], [t'] => cond (Nat.beq t' t) (match ev x with
   | some (.var v') => cond (Nat.beq v' v) (some [.ret (.int .i64 (.var (a + 2))) H nl cs]) none
   | _ => none) none
  | _, _ => none
 | _ => none
def hkInA (t v a : Nat) : OpF := fun o ev H nl cs => match o with
 | .indexAddr t' x i => cond (Nat.beq t' t) (match ev x, ev i with
  | some (.var v'), some (.int .i64 it) => cond (Nat.beq v' v && (isB (lookB cs (.cmp .geq it (.lit 0))) true && isB (lookB cs (.cmp .lss it (.var (a + 2)))) true))
   (some [.ret (.ptr nl (.elem (.var (a + 1)) 1 0 it)) H (nl + 1) ((blkT a nl, true) :: cs)]) none
  | _, _ => none) none
 | _ => none
def hkInL (sm : Bool) (t a k : Nat) : OpF := fun o ev H nl cs => match o with
 | .load t' p => cond (Nat.beq t' t && bigsRw H) (match ev p with
  | some (.ptr l (.elem (.var a') 1 0 it)) => cond (Nat.beq a' (a + 1) && (isB (lookB cs (blkT a l)) true && (isB (lookB cs (.cmp .geq it (.lit 0))) true && isB (lookB cs (.cmp .lss it (.var (a + 2)))) true)))
   (some [.ret .sliceNil H nl ((.cmp .eql (lenI k it) (.lit 0), true) :: cs),
    .ret (.slx nl (.nv (nl + 1)) (.lit 0) (.nv (nl + 2))) H (nl + 3) ((.cmp .eql (lenI k it) (.lit 0), true) :: cs),
    .ret (.slice (nl + 2) (.nv nl) (lenI k it) (.nv (nl + 1))) (H.set (nl + 2) ⟨.arr (.code [.u64] (.fn (k + 1) it (.lit 0))) [.u64] 32 (lenI k it) (.nv nl) none, false⟩) (nl + 3)
     ((.cmp .geq (lenI k it) (.lit 1), true) :: (cond sm [(.cmp .leq (lenI k it) (.lit 1000000), true)] [] ++ cs))]) none
  | _ => none) none
 | _ => none
section
variable {P : Program} {β : Base} {sm : Bool} {t e v a k : Nat}
theorem hkInLen_ok (hu : P.underlying t = some (.slice e)) {ad : Option Addr} {n cap : Nat} (hp : ∀ I B S V F, β.G I B S V F -> V v = .slice ad n cap /\ I (a + 2) = (n : Int)) : HookOk P β (hkInLen t v a) := by
 intro o ev H nl cs ls ρ w f h he hh hc _
 unfold hkInLen at h
 split at h
 rotate_left
 · cases h
 rename_i args tys ho
 split at h
 rotate_left
 · cases h
 rename_i x t' hargs htys
 cases hb : Nat.beq t' t with
 | false => rw [hb] at h; cases h
 | true =>
  rw [hb] at h; simp only [cond_true] at h
  obtain rfl := Nat.eq_of_beq_eq_true hb
  split at h
  rotate_left
  · cases h
  rename_i v' hm
  cases hv : Nat.beq v' v with
  | false => rw [hv] at h; cases h
  | true =>
   rw [hv] at h; simp only [cond_true, Option.some.injEq] at h
   obtain rfl := Nat.eq_of_beq_eq_true hv
   subst h
   obtain ⟨hV, hn⟩ := hp _ _ _ _ _ hh.g
   have hfm : f x = .slice ad n cap := by
    have := he x _ hm
    simp only [AVal.den, Option.some.injEq] at this
    rw [<- this, hV]
   have ha : args.map f = #[f x] := by apply Array.toList_inj.1; simp [hargs]
   have ht : tys = #[t'] := by apply Array.toList_inj.1; simp [htys]
   subst ht
   have hrun : (Builtin.len_ #[t'] o.type #[.slice ad n cap]).run P w = .ok (.int .i64 (n : Int)) w := by
    simp [Builtin.len_, run_und hu, goInt]
   exact ⟨.int .i64 (n : Int), w, .inl (by simp [execOp, ho, resolve, invoke, builtin, ha, hfm, hrun]), _, _, _, _, ρ, List.mem_cons_self, Env.Le.refl ρ, by simp only [AVal.den, IT.den, hn, Option.map_some], hh, hc⟩
theorem hkInA_ok (hu : P.underlying t = some (.slice e)) (hs : (P.info? e).map (·.size) = some 1) (R : InR β sm v a k) : HookOk P β (hkInA t v a) := by
 intro o ev H nl cs ls ρ w f h he hh hc _
 unfold hkInA at h
 split at h
 rotate_left
 · cases h
 rename_i t' x i ho
 cases hb : Nat.beq t' t with
 | false => rw [hb] at h; cases h
 | true =>
  rw [hb] at h; simp only [cond_true] at h
  obtain rfl := Nat.eq_of_beq_eq_true hb
  split at h
  rotate_left
  · cases h
  rename_i v' it hx hi
  cases hv : (Nat.beq v' v && (isB (lookB cs (.cmp .geq it (.lit 0))) true && isB (lookB cs (.cmp .lss it (.var (a + 2)))) true)) with
  | false => rw [hv] at h; cases h
  | true =>
   rw [hv] at h; simp only [cond_true, Option.some.injEq] at h
   subst h
   simp only [Bool.and_eq_true] at hv
   obtain ⟨q1, q2, q3⟩ := hv
   obtain rfl := Nat.eq_of_beq_eq_true q1
   obtain ⟨hV, ha, ha1, ha2, _⟩ := R.pin _ _ _ _ _ hh.g
   obtain ⟨iz, hfi, hiz⟩ := den_int (he i _ hi)
   have h1 := isB_ok q2 hc
   have h2 := isB_ok q3 hc
   have dn : (IT.var (a + 2)).den ρ = some (R.Ws.length : Int) := congrArg some ha2
   rw [cmpD hiz (litD 0)] at h1
   rw [cmpD hiz dn] at h2
   simp only [intCmp, Option.some.injEq, decide_eq_true_eq] at h1 h2
   obtain ⟨j, rfl⟩ : ∃ j : Nat, iz = (j : Int) := ⟨iz.toNat, by omega⟩
   have hfx : f x = .slice (some ⟨R.bo, R.oo, none⟩) R.Ws.length R.cap := by
    have := he x _ hx
    simp only [AVal.den, Option.some.injEq] at this
    rw [<- this, hV, (R.at0 (by omega)).1]
   obtain ⟨ti, hti, hsz⟩ := Option.map_eq_some_iff.1 hs
   have hrun : (Instr.indexAt t' (f x) (f i)).run P w = .ok (.pointer (some ⟨R.bo, R.oo + j, none⟩)) w := by
    rw [hfx, hfi]
    have h3 : (0 : Int) <= (j : Int) /\ (j : Int) < (R.Ws.length : Int) := by omega
    simp [Instr.indexAt, asIntOf, run_und hu, run_size hti, h3, hsz, addr_add]
    omega
   have q := hh.num R.bo
   have hle : ρ.Le (ρ.put nl R.bo) := Env.le_put (hh.fresh nl (Nat.le_refl _))
   have hNn : (ρ.put nl R.bo).N nl = some R.bo := Env.put_same ..
   have hbk : (blkT a nl).den (ρ.put nl R.bo) = some true := by
    unfold blkT
    rw [cmpD (nvD hNn) (show (IT.var a).den (ρ.put nl R.bo) = some (R.bo : Int) from IT.den_mono hle (congrArg some ha))]
    simp [intCmp]
   refine ⟨.pointer (some ⟨R.bo, R.oo + j, none⟩), w, .inl (by simp [execOp, ho, hrun]), _, _, _, _, _, List.mem_cons_self, hle, ?_, q, c1 hbk (hc.mono hle)⟩
   have d1 : (IT.var (a + 1)).den (ρ.put nl R.bo) = some (R.oo : Int) := IT.den_mono hle (congrArg some ha1)
   have := den_ptr_elem (ρ := ρ.put nl R.bo) (sz := 1) (j := 0) hNn d1 (IT.den_mono hle hiz)
   rw [this]
   simp
theorem hkInL_ok {e' : TypeId} (hu : P.underlying t = some (.slice e')) (R : InR β sm v a k) : HookOk P β (hkInL sm t a k) := by
 intro o ev H nl cs ls ρ w f h he hh hc _
 unfold hkInL at h
 split at h
 rotate_left
 · cases h
 rename_i t' p ho
 cases hb : (Nat.beq t' t && bigsRw H) with
 | false => rw [hb] at h; cases h
 | true =>
  rw [hb] at h; simp only [cond_true] at h
  simp only [Bool.and_eq_true] at hb
  obtain ⟨hb, hbr⟩ := hb
  obtain rfl := Nat.eq_of_beq_eq_true hb
  split at h
  rotate_left
  · cases h
  rename_i l a' it hp
  cases hv : (Nat.beq a' (a + 1) && (isB (lookB cs (blkT a l)) true && (isB (lookB cs (.cmp .geq it (.lit 0))) true && isB (lookB cs (.cmp .lss it (.var (a + 2)))) true))) with
  | false => rw [hv] at h; cases h
  | true =>
   rw [hv] at h; simp only [cond_true, Option.some.injEq] at h
   subst h
   simp only [Bool.and_eq_true] at hv
   obtain ⟨q1, q2, q3, q4⟩ := hv
   obtain rfl := Nat.eq_of_beq_eq_true q1
   obtain ⟨_, ha, ha1, ha2, hk, hk1⟩ := R.pin _ _ _ _ _ hh.g
   obtain ⟨b, off, hfp, hN, hoff⟩ := den_ptr (he p _ hp)
   have hNb : b = R.bo := by
    have h1 := isB_ok q2 hc
    unfold blkT at h1
    rw [cmpD (nvD hN) (show (IT.var a).den ρ = some (R.bo : Int) from congrArg some ha)] at h1
    simp only [intCmp, Option.some.injEq, beq_iff_eq] at h1
    exact Int.ofNat.inj h1
   subst hNb
   have dn : (IT.var (a + 2)).den ρ = some (R.Ws.length : Int) := congrArg some ha2
   obtain ⟨iz, hiz⟩ : ∃ iz, it.den ρ = some iz := by
    cases hq : it.den ρ with
    | some iz => exact ⟨iz, rfl⟩
    | none =>
     have h1 := isB_ok q3 hc
     simp only [BT.den, hq] at h1
     cases h1
   have h1 := isB_ok q3 hc
   have h2 := isB_ok q4 hc
   rw [cmpD hiz (litD 0)] at h1
   rw [cmpD hiz dn] at h2
   simp only [intCmp, Option.some.injEq, decide_eq_true_eq] at h1 h2
   obtain ⟨j, rfl⟩ : ∃ j : Nat, iz = (j : Int) := ⟨iz.toNat, by omega⟩
   have hjl : j < R.Ws.length := by omega
   have hoff2 : off = R.oo + j := by
    have d1 : (IT.var (a + 1)).den ρ = some (R.oo : Int) := congrArg some ha1
    have h3 := den_ptr_elem (ρ := ρ) (sz := 1) (j := 0) hN d1 hiz
    have h4 := (he p _ hp).symm.trans h3
    rw [hfp] at h4
    simp only [Option.some.injEq, Value.pointer.injEq, Addr.mk.injEq, and_true, true_and, Int.toNat_natCast] at h4
    omega
   obtain ⟨_, hno, c, fr, e0, hg0, hpre⟩ := R.at0 (by omega)
   have hg : w.heap[R.bo]? = some (.cells c e0 fr) := by rw [hh.frame _ (Array.getElem?_eq_some_iff.1 hg0).1 hno]; exact hg0
   obtain ⟨xv, hxv⟩ : ∃ xv, R.Ws[j]? = some xv := ⟨_, List.getElem?_eq_getElem hjl⟩
   have hcj : c[R.oo + j]? = some xv := by
    rw [<- Array.getElem?_toList]
    have := prefix_get (c := (c.toList.drop R.oo).toArray) (by simpa using hpre) hxv
    simpa using this
   have hcell : w.cell? ⟨R.bo, R.oo + j, none⟩ = some xv := by rw [cell_of w hg]; exact hcj
   have hrun : (Instr.loadAt t' (f p)).run P w = .ok xv w := by
    rw [hfp, hoff2]
    have hag : aggB (.slice e') = false := rfl
    simp [Instr.loadAt, Instr.sureAddr, loadVar, run_isAgg hu, hag, hcell]
   have hgd : R.Ws.getD j (.slice none 0 0) = xv := by rw [List.getD, hxv]; rfl
   have dl : ∀ {ρ' : Env}, ρ.Le ρ' -> (lenI k it).den ρ' = some ((R.el xv : Nat) : Int) := fun {ρ'} hle => by
    rw [lenI, fnD (IT.den_mono hle hiz) (litD 0), hle.f, hk]
    simp only [Int.toNat_natCast, hgd]
   have dz : ∀ {ρ' : Env}, ρ.Le ρ' -> (IT.fn (k + 1) it (.lit 0)).den ρ' = some (R.zs.getD j 0) := fun {ρ'} hle => by
    rw [fnD (IT.den_mono hle hiz) (litD 0), hle.f, hk1]
    simp only [Int.toNat_natCast]
   have z0 : ∀ {ρ' : Env}, ρ.Le ρ' -> R.el xv = 0 -> (BT.cmp .eql (lenI k it) (.lit 0)).den ρ' = some true := fun {ρ'} hle h0 => by
    rw [cmpD (dl hle) (litD 0), h0]; rfl
   rcases R.row j xv hxv with ⟨rfl, h0⟩ | ⟨b, o', n, cp, rfl, hel, hn6, hrow⟩
   · exact ⟨_, w, .inl (by simp [execOp, ho, hrun]), _, _, _, _, ρ, List.mem_cons_self, Env.Le.refl ρ, rfl, hh, c1 (z0 (Env.Le.refl ρ) h0) hc⟩
   · by_cases hn0 : n = 0
     · subst hn0
       have r1 := hh.num b
       have r2 := r1.num o'
       have r3 := r2.num cp
       have l1 : ρ.Le (ρ.put nl b) := Env.le_put (hh.fresh nl (Nat.le_refl _))
       have l2 : (ρ.put nl b).Le ((ρ.put nl b).put (nl + 1) o') := Env.le_put (r1.fresh (nl + 1) (Nat.le_refl _))
       have l3 : ((ρ.put nl b).put (nl + 1) o').Le (((ρ.put nl b).put (nl + 1) o').put (nl + 2) cp) := Env.le_put (r2.fresh (nl + 2) (Nat.le_refl _))
       have hle := (l1.trans l2).trans l3
       have n0 : (((ρ.put nl b).put (nl + 1) o').put (nl + 2) cp).N nl = some b := l3.n _ _ (l2.n _ _ (Env.put_same ..))
       have n1 : (((ρ.put nl b).put (nl + 1) o').put (nl + 2) cp).N (nl + 1) = some o' := l3.n _ _ (Env.put_same ..)
       have n2 : (((ρ.put nl b).put (nl + 1) o').put (nl + 2) cp).N (nl + 2) = some cp := Env.put_same ..
       exact ⟨_, w, .inl (by simp [execOp, ho, hrun]), _, _, _, _, _, List.mem_cons_of_mem _ List.mem_cons_self, hle, den_slx_of n0 (nvD n1) rfl (nvD n2), r3, c1 (z0 hle hel) (hc.mono hle)⟩
     · rw [slX_succ (show 1 <= n by omega)] at *
       obtain ⟨hbo, cc, fr2, el2, hcc, hoc, hpc, hty⟩ := hrow (by omega)
       have r1 := hh.num o'
       have r2 := r1.num cp
       have l1 : ρ.Le (ρ.put nl o') := Env.le_put (hh.fresh nl (Nat.le_refl _))
       have l2 : (ρ.put nl o').Le ((ρ.put nl o').put (nl + 1) cp) := Env.le_put (r1.fresh (nl + 1) (Nat.le_refl _))
       have l3 : ((ρ.put nl o').put (nl + 1) cp).Le (((ρ.put nl o').put (nl + 1) cp).put (nl + 2) b) := Env.le_put (r2.fresh (nl + 2) (Nat.le_refl _))
       have hle := (l1.trans l2).trans l3
       have n0 : (((ρ.put nl o').put (nl + 1) cp).put (nl + 2) b).N nl = some o' := l3.n _ _ (l2.n _ _ (Env.put_same ..))
       have n1 : (((ρ.put nl o').put (nl + 1) cp).put (nl + 2) b).N (nl + 1) = some cp := l3.n _ _ (Env.put_same ..)
       have n2 : (((ρ.put nl o').put (nl + 1) cp).put (nl + 2) b).N (nl + 2) = some b := Env.put_same ..
       have hbl : b < β.w0.heap.size := (Array.getElem?_eq_some_iff.1 hcc).1
       have hcw : w.heap[b]? = some (.cells cc el2 fr2) := by rw [hh.frame _ hbl hbo]; exact hcc
       have dl2 := dl hle
       rw [hel] at dl2
       have hr := r2.seen (k := .arr (.code [.u64] (.fn (k + 1) it (.lit 0))) [.u64] 32 (lenI k it) (.nv nl) none) hbl hbo hcw
        ⟨_, cc, fr2, el2, n, o', rfl, (fun e => by cases e), by simp only [AT.den, dz hle, Option.map_some], nvD n0, ⟨hoc, hpc⟩, dl2, hty, trivial, (fun e => by cases e)⟩ rfl hbr
       refine ⟨_, w, .inl (by simp [execOp, ho, hrun]), _, _, _, _, _, List.mem_cons_of_mem _ (List.mem_cons_of_mem _ List.mem_cons_self), hle, den_slice_of n2 (nvD n0) dl2 (nvD n1), hr, c1 (geqT dl2 (litD 1) (by omega)) ?_⟩
       cases hsm : sm with
       | true =>
        have := hn6 hsm
        exact c1 (leqT dl2 (litD 1000000) (by omega)) (hc.mono hle)
       | false => exact hc.mono hle
end
end Go.Vm
end
section
namespace Go.Vm
def oneN (ns : List Nat) : AVal -> Bool
 | .var i => ns.contains i
 | v => v.one
def hkStN (t n : Nat) (ns : List Nat) : OpF := fun o ev H nl cs => match o with
 | .store t' p v => cond (Nat.beq t' t) (match ev p, ev v with
  | some (.ptr l (.lit (.ofNat 0))), some (.agg vs) => match H.get l with
   | some ⟨.cells vals e tl, true⟩ => cond (Nat.beq vs.length n && (Nat.beq vals.length n && vs.all (oneN ns))) (some [.ret (.tuple []) (H.set l ⟨.cells vs e tl, true⟩) nl cs]) none
   | _ => none
  | _, _ => none) none
 | _ => none
theorem onesN_den {ρ : Env} {ns : List Nat} (ha : ∀ i ∈ ns, isOne (ρ.V i) = true) : ∀ {l : List AVal} {xs : List Value}, l.all (oneN ns) = true -> AVal.denL ρ l = some xs -> ∀ x ∈ xs, isOne x = true
 | [], xs, _, e => by cases e; simp
 | v :: r, xs, h, e => by
  simp only [List.all_cons, Bool.and_eq_true] at h
  simp only [AVal.denL] at e
  split at e
  · rename_i x l hx hl
    cases e
    intro y hy
    rcases List.mem_cons.1 hy with rfl | hy
    · have h1 := h.1
      unfold oneN at h1
      split at h1
      · rename_i i
        have hv : ρ.V i = y := Option.some.inj hx
        rw [<- hv]; exact ha i (List.contains_iff_mem.1 h1)
      · exact AVal.one_den h1 hx
    · exact onesN_den ha h.2 hl y hy
  · cases e
theorem hkStN_ok {P : Program} {β : Base} {t n : Nat} {ns : List Nat} (hi : (P.info? t).map (·.size) = some n) (hG : ∀ I B S V F, β.G I B S V F -> ∀ i ∈ ns, isOne (V i) = true) : HookOk P β (hkStN t n ns) := by
 intro o ev H nl cs ls ρ w f h he hh hc _
 unfold hkStN at h
 split at h
 rotate_left
 · cases h
 rename_i t' p v ho
 cases hb : Nat.beq t' t with
 | false => rw [hb] at h; cases h
 | true =>
  rw [hb] at h; simp only [cond_true] at h
  obtain rfl := Nat.eq_of_beq_eq_true hb
  split at h
  rotate_left
  · cases h
  rename_i l vs hp hv
  split at h
  rotate_left
  · cases h
  rename_i vals e tl hl
  cases hb : (Nat.beq vs.length n && (Nat.beq vals.length n && vs.all (oneN ns))) with
  | false => rw [hb] at h; cases h
  | true =>
   rw [hb] at h; simp only [cond_true, Option.some.injEq] at h
   subst h
   simp only [Bool.and_eq_true] at hb
   obtain ⟨q1, q2, q3⟩ := hb
   have q1 := Nat.eq_of_beq_eq_true q1
   have q2 := Nat.eq_of_beq_eq_true q2
   obtain ⟨bl, hfp, hN⟩ := den_ptr0 (he p _ hp)
   have hvd := he v _ hv
   simp only [AVal.den] at hvd
   obtain ⟨ys, hys, hfv⟩ := Option.map_eq_some_iff.1 hvd
   obtain ⟨i, hi1, hi2⟩ := Option.map_eq_some_iff.1 hi
   obtain ⟨ba, o', hba, hg, xs, c, fr, rfl, hxs, hpre, ht, hf⟩ := hh.blk l _ hl
   rw [hN] at hba; cases hba
   have o1 := hG _ _ _ _ _ hh.g
   have hl1 := AVal.denL_length hxs
   have hl2 := AVal.denL_length hys
   have hle : xs.length <= c.size := by simpa using hpre.length_le
   obtain ⟨w', c', hrun, hheap, hcl, htp, hos, hout⟩ := storeCells_run (P := P) ys 0 0 w c (hf rfl) hg (by omega) (onesN_den o1 q3 hys)
   have hsz : c'.size = c.size := by
    have := congrArg List.length hcl
    simp at this
    omega
   have hr := hh.write (k' := ⟨.cells vs e tl, true⟩) hl rfl hN ⟨ys, c', fr, rfl, hys, by
    rw [hcl]
    simp only [Nat.add_zero, List.take_zero, List.nil_append]
    exact List.prefix_append _ _, by rw [hsz, q1, <- q2]; exact ht, fun _ => by rw [hsz]; exact hf rfl⟩ hheap htp hos hout
   have hsz2 : (Value.agg ys.toArray).cells.size = i.size := by
    simp only [Value.cells, List.size_toArray]
    omega
   have hrun' : (Instr.storeAt t' (f p) (f v)).run P w = .ok () w' := by
    rw [hfp, <- hfv]
    simp only [Value.cells] at hsz2
    simp [Instr.storeAt, Instr.sureAddr, storeVar, run_size hi1, Value.cells, hsz2, hrun]
   exact ⟨undef, w', .inr ⟨by simp [execOp, ho, hrun'], rfl⟩, _, _, _, _, ρ, List.mem_cons_self, Env.Le.refl ρ, undef_den, hr, hc⟩
end Go.Vm
end
