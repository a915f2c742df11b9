/- A machine for abstract states over the model (part 46): rows of slices of words: one more; one is looked at. -/
import Derived.Test.YtighjgmgpphohaaVm45
section
namespace Go.Vm
open Mb
def fEl (x y : Int) : Int := if (decL x).tail.contains y then 1 else 0
def slT (a b c d : IT) : IT := .un 3 (.un 3 (.un 1 a b) c) d
def isElT (c a b n d : IT) : BT := .cmp .eql (.fn 95 c (slT a b n d)) (.lit 1)
def GRr : GP := fun _ _ _ _ F => F 93 = fNb /\ F 95 = fEl
def elA (H : Heap) : AVal -> Option (Option Nat)
 | .sliceNil => some none
 | .slx _ _ (.lit (.ofNat 0)) _ => some none
 | .slice _ _ (.lit (.ofNat 0)) _ => some none
 | .slice s (.lit (.ofNat 0)) n _ => match H.get s with
  | some ⟨.arr (.code [.u64] _) [.u64] 32 n' (.lit (.ofNat 0)) _, true⟩ => cond (IT.beq n n') (some (some s)) none
  | _ => none
 | _ => none
def delO : Option Nat -> Heap -> Heap
 | none, H => H
 | some s, H => H.del s
def raL (n : IT) (H : Heap) (nl : Nat) (cs : Cs) : List Leaf :=
 [.ret (.slice (nl + 1) (.lit 0) (nbT (.nv nl)) (capT (.nv nl))) (H.set (nl + 1) ⟨.big 5 (.nv nl), true⟩) (nl + 2) ((.cmp .eql (nbT (.nv nl)) (.bin .add .i64 n (.lit 1)), true) :: cs)]
def hkRa (t : TypeId) : OpF := fun o ev H nl cs => match o with
 | .call { callee := .builtin .append, args, argTypes } => match args.toList, argTypes.toList with
  | [x, y], [t1, t2] => cond (Nat.beq t1 t && Nat.beq t2 t) (match ev y with
   | some (.slice q (.lit (.ofNat 0)) (.lit (.ofNat 1)) (.lit (.ofNat 1))) => match H.get q with
    | some ⟨.cells [v] 22 _, _⟩ => match elA H v with
     | some s => match ev x with
      | some .sliceNil => some (raL (.lit 0) (delO s H) nl cs)
      | some (.slice r (.lit (.ofNat 0)) n cp) => match H.get r with
       | some ⟨.big 5 c, true⟩ => cond (IT.beq n (nbT c) && (IT.beq cp (capT c) && isB (lookB cs (.cmp .leq n (.lit 1000000))) true)) (some (raL n (delO s (H.del r)) nl cs)) none
       | _ => none
      | _ => none
     | none => none
    | _ => none
   | _ => none) none
  | _, _ => none
 | _ => none
theorem one_slV (e : Option (Nat × Nat × Nat × Nat)) : isOne (slV e) = true := by cases e <;> rfl
section
variable {P : Program} {β : Base} {t : TypeId} {ρ : Env} {H : Heap} {nl : Nat} {w : World}
theorem elA_ok (hh : HRel β ρ H nl w) {v : AVal} {s : Option Nat} (h : elA H v = some s) {x : Value} (hx : v.den ρ = some x) :
 ∃ e : Option (Nat × Nat × Nat × Nat), x = slV e /\ (∀ q, e = some q -> 1 <= q.2.2.1 -> ∃ l k, s = some l /\ H.get l = some k /\ k.rw = true /\ k.k.nb = true /\ ρ.N l = some q.1 /\ WordsM w q.1 q.2.1 q.2.2.1) := by
 unfold elA at h
 split at h
 · cases h
   exact ⟨none, den_sliceNil hx, fun q e => by cases e⟩
 · cases h
   obtain ⟨b, o, n, cp, rfl, _, _, hn, _⟩ := den_slx hx
   obtain rfl : n = 0 := (Int.ofNat.inj (Option.some.inj hn)).symm
   exact ⟨some (b, o, 0, cp), rfl, fun q e h1 => by cases e; exact absurd h1 (Nat.not_succ_le_zero 0)⟩
 · cases h
   obtain ⟨b, o, n, cp, rfl, _, _, hn, _⟩ := den_slice hx
   obtain rfl : n = 0 := (Int.ofNat.inj (Option.some.inj hn)).symm
   exact ⟨some (b, o, 0, 2 * cp), (slX_zero b o cp).symm, fun q e h1 => by cases e; exact absurd h1 (Nat.not_succ_le_zero 0)⟩
 · rename_i l n cp _
   obtain ⟨b, o, m, c0, rfl, hN, ho, hn, _⟩ := den_slice hx
   obtain rfl : o = 0 := (Int.ofNat.inj (Option.some.inj ho)).symm
   split at h
   · rename_i u n' cp' hg
     cases hb : IT.beq n n' with
     | false => rw [hb] at h; cases h
     | true =>
      rw [hb] at h; cases h
      obtain rfl := IT.beq_eq hb
      by_cases hm0 : m = 0
      · subst hm0
        exact ⟨some (b, 0, 0, 2 * c0), (slX_zero b 0 c0).symm, fun q e h1 => by cases e; exact absurd h1 (Nat.not_succ_le_zero 0)⟩
      refine ⟨some (b, 0, m, c0), (slX_succ (show 1 <= m by omega)).symm, fun q e h1 => ?_⟩
      cases e
      refine ⟨l, _, rfl, hg, rfl, rfl, hN, ?_⟩
      obtain ⟨b', ob, hN', hob, xs, c, fr, el, m', st, rfl, _, hd, hst, ⟨h2, h3⟩, hn', hty, _⟩ := hh.blk _ _ hg
      rw [hN] at hN'; cases hN'
      obtain rfl : st = 0 := (Int.ofNat.inj (Option.some.inj hst)).symm
      obtain rfl : m' = m := (Int.ofNat.inj (Option.some.inj (hn.symm.trans hn'))).symm
      refine ⟨c, fr, el, xs.map toZ, hob, h2, by rw [List.length_map, hty.1]; simp, ?_⟩
      have e1 : (xs.map toZ).map (Value.int .u64) = xs := by
       have e2 := hty.rowOf
       conv => rhs; rw [e2]
       apply List.ext_getElem?
       intro i
       rw [rowOf_get, List.getElem?_map]
       cases h5 : (xs.map toZ)[i]? with
       | none => rfl
       | some z => simp only [Option.map_some, List.length_cons, List.length_nil]; rw [show i % (0 + 1) = 0 from Nat.mod_one i]; rfl
      rw [e1]; exact h3
   · cases h
 · cases h
theorem elA_rw {v : AVal} {l : Nat} (h : elA H v = some (some l)) : ∃ k, H.get l = some k /\ k.rw = true /\ k.k.nb = true := by
 unfold elA at h
 split at h
 · cases h
 · cases h
 · cases h
 · rename_i l0 n cp _
   split at h
   · rename_i u n' cp' hg
     cases hb : IT.beq n n' with
     | false => rw [hb] at h; cases h
     | true => rw [hb] at h; cases h; exact ⟨_, hg, rfl, rfl⟩
   · cases h
 · cases h
theorem delO_get {s : Option Nat} {l : Nat} {k : HB} (h : (delO s H).get l = some k) : s ≠ some l /\ H.get l = some k := by
 cases s with
 | none => exact ⟨fun e => (by cases e), h⟩
 | some q =>
  obtain ⟨h1, h2⟩ := Tr.get_del h
  exact ⟨fun e => h1 (Option.some.inj e).symm, h2⟩
theorem ra_fin (hG : ∀ I B S V F, β.G I B S V F -> GRr I B S V F) (hh : HRel β ρ H nl w) {cs : Cs} (hc : CRel ρ cs) {n : IT} {m cap b : Nat} {es : Rr} (hn : n.den ρ = some (m : Int)) (hm : m <= 1000000) (hl : es.length = m + 1) (_hcap : es.length <= cap) {q : Nat} (hq : q = encN (((cap : Nat) : Int) :: es.map slC)) :
 (AVal.slice (nl + 1) (.lit 0) (nbT (.nv nl)) (capT (.nv nl))).den ((ρ.put nl q).put (nl + 1) b) = some (.slice (some ⟨b, 0, none⟩) (m + 1) cap) /\ CRel ((ρ.put nl q).put (nl + 1) b) ((.cmp .eql (nbT (.nv nl)) (.bin .add .i64 n (.lit 1)), true) :: cs) /\ ρ.Le ((ρ.put nl q).put (nl + 1) b) /\ (IT.nv nl).den (ρ.put nl q) = some (encL (((cap : Nat) : Int) :: es.map slC)) := by
 have l1 : ρ.Le (ρ.put nl q) := Env.le_put (hh.fresh nl (Nat.le_refl _))
 have l2 : (ρ.put nl q).Le ((ρ.put nl q).put (nl + 1) b) := Env.le_put ((hh.num q).fresh _ (Nat.le_refl _))
 have hle := l1.trans l2
 have hx : (IT.nv nl).den (ρ.put nl q) = some (encL (((cap : Nat) : Int) :: es.map slC)) := by rw [nvD (Env.put_same ..), hq]; rfl
 have dn : (nbT (.nv nl)).den ((ρ.put nl q).put (nl + 1) b) = some ((m + 1 : Nat) : Int) := by
  rw [nbT, fnD (IT.den_mono l2 hx) (litD 0), hle.f, (hG _ _ _ _ _ hh.g).1, fNb, decL_encL, List.tail_cons, List.length_map, hl]
 have dc : (capT (.nv nl)).den ((ρ.put nl q).put (nl + 1) b) = some (cap : Int) := by
  rw [capT, unD (IT.den_mono l2 hx) (litD 0)]
  show some ((decL _).getD ((0 : Int).toNat) 0) = _
  rw [decL_encL]; rfl
 refine ⟨den_slice_of (Env.put_same ..) rfl dn dc, c1 (eqlT dn (binD (IT.den_mono hle hn) (litD 1)) ?_) (hc.mono hle), hle, hx⟩
 rw [wrapI (by omega) (by omega)]; rfl
theorem hkRa_ok {ei : TypeInfo} {zv : Value} (hu : P.underlying t = some (.slice 22)) (hi : P.info? 22 = some ei) (hsz : ei.size = 1) (hby : ei.bytes ≠ 0 /\ ei.bytes <= 32) (hz : ∀ w, (zeroValue 22).run P w = .ok zv w) (hzs : zv.cells.size = 1) (hG : ∀ I B S V F, β.G I B S V F -> GRr I B S V F) : HookOk P β (hkRa t) := by
 intro o ev H nl cs ls ρ w f h he hh hc _
 unfold hkRa at h
 split at h
 rotate_left
 · cases h
 rename_i args tys ho
 split at h
 rotate_left
 · cases h
 rename_i x y t1 t2 hargs htys
 cases hb : (Nat.beq t1 t && Nat.beq t2 t) with
 | false => rw [hb] at h; cases h
 | true =>
  rw [hb] at h; simp only [cond_true] at h
  simp only [Bool.and_eq_true] at hb
  obtain rfl := Nat.eq_of_beq_eq_true hb.1
  obtain rfl := Nat.eq_of_beq_eq_true hb.2
  split at h
  rotate_left
  · cases h
  rename_i q hy
  split at h
  rotate_left
  · cases h
  rename_i v tl rwq hgq
  split at h
  rotate_left
  · cases h
  rename_i s hs
  have ha : args.map f = #[f x, f y] := by apply Array.toList_inj.1; simp [hargs]
  have ht : tys = #[t2, t2] := by apply Array.toList_inj.1; simp [htys]
  subst ht
  -- what is appended
  obtain ⟨bq, oq, nq, cq, hfy, hNq, hoq, hnq, _⟩ := den_slice (he y _ hy)
  obtain rfl : oq = 0 := (Int.ofNat.inj (Option.some.inj hoq)).symm
  obtain rfl : nq = 1 := (Int.ofNat.inj (Option.some.inj hnq)).symm
  obtain ⟨bq', obq, hNq', hobq, xs, c, fr, rfl, hxs, hpre, _⟩ := hh.blk _ _ hgq
  rw [hNq] at hNq'; cases hNq'
  simp only [AVal.denL] at hxs
  split at hxs
  rotate_left
  · cases hxs
  rename_i xe l1 hxe hl1
  cases hl1; cases hxs
  obtain ⟨e, rfl, hel⟩ := elA_ok hh hs hxe
  have hyl : ∀ w' : World, (Builtin.lenOf (f y)).run P w' = .ok 1 w' := fun w' => by rw [hfy]; rfl
  have hyc : ∀ w' : World, w'.heap = w.heap -> (Builtin.firstCells 1 1 (f y)).run P w' = .ok [slV e].toArray w' := fun w' hw => by
   rw [hfy]
   refine run_firstCells_some w' 1 1 ⟨bq, 0, none⟩ _ cq [slV e] rfl fun j u hj => ?_
   rw [addr_add]
   have hg' : w'.heap[bq]? = some (.cells c 22 fr) := by rw [hw]; exact hobq
   rw [cell_of w' hg', <- Array.getElem?_toList]
   obtain ⟨r, hr⟩ := hpre
   match j, hj with
   | 0, hj => rw [<- hr, <- hj]; rfl
  have hzeros : ∀ xt, (#[t2, t2] : Array TypeId)[1]? = some xt -> ∃ d, P.underlying xt = some d /\ ∀ k, d ≠ .int k := fun xt e => by
   cases e; exact ⟨_, hu, fun k e => by cases e⟩
  obtain ⟨Fp, hB⟩ := hh.big
  -- the new row, in place or elsewhere
  have grow : ∀ {D : Nat -> Prop} {es : Rr} {cap : Nat} {bs : Option Addr} {n : IT} {H0 : Heap}, (∀ l k, D l -> H.get l = some k -> k.rw = true) -> (∀ l, s = some l -> D l) -> (∀ q, some q ∈ es -> 1 <= q.2.2.1 -> Foot ρ H Fp D q.1 /\ WordsM w q.1 q.2.1 q.2.2.1) -> n.den ρ = some ((es.length : Nat) : Int) -> es.length <= 1000000 -> ¬ es.length + 1 <= cap -> ls = raL n H0 nl cs -> (∀ l1 k1, H0.get l1 = some k1 -> ¬ D l1 /\ H.get l1 = some k1) ->
   f x = .slice bs es.length cap -> (∀ w' : World, w'.heap = w.heap -> (Builtin.firstCells ei.size es.length (.slice bs es.length cap)).run P w' = .ok (es.map slV).toArray w') ->
   ∃ x w', ((execOp f o).run P w = .ok (.value x) w' ∨ ((execOp f o).run P w = .ok .skip w' /\ x = undef)) /\ ∃ u H' nl' cs' ρ', Leaf.ret u H' nl' cs' ∈ ls /\ ρ.Le ρ' /\ u.den ρ' = some x /\ HRel β ρ' H' nl' w' /\ CRel ρ' cs' := fun {D es cap bs n H0} hD hsD hes hn hm hnofit hls hH0 hfx hold => by
   obtain ⟨cap', hc1, hr⟩ := append_grow_run (P := P) (w := w) (tys := #[t2, t2]) (ty := o.type) (base := bs) (xv := f y) (ys := [slV e]) (old := es.map slV) (sCap := cap) (n := 1) (sLen := es.length) rfl hu hi hz hzeros hyl (by rw [hsz]; exact hyc) hold hnofit
    (growslice_fits (by omega) (Nat.le_trans (Nat.mul_le_mul (show es.length + 1 <= 1000001 by omega) hby.2) (by decide))) hby.1
   let c' : Array Value := (es.map slV ++ [slV e]).toArray ++ Builtin.zeroCells zv.cells (cap' - (es.length + 1))
   let w' : World := { w with drawn := w.drawn + 1, heap := w.heap.push (.cells c' 22 (0, 0)) }
   have hsize : c'.size = cap' := by
    simp only [c', Array.size_append, List.size_toArray, List.length_append, List.length_map, List.length_cons, List.length_nil, size_zeroCells, hzs]
    omega
   have hold' : ∀ y, y < w.heap.size -> w'.heap[y]? = w.heap[y]? := fun y hy => by simp only [w']; rw [Array.getElem?_push, if_neg (by omega)]
   have lt_of : ∀ {y : Nat} {o1 n1 : Nat}, WordsM w y o1 n1 -> y < w.heap.size := fun ⟨_, _, _, _, h1, _⟩ => (Array.getElem?_eq_some_iff.1 h1).1
   have keepW : ∀ {y : Nat} {o1 n1 : Nat}, WordsM w y o1 n1 -> WordsM w' y o1 n1 := fun {y o1 n1} hw => by
    have := lt_of hw
    obtain ⟨c1, fr1, el1, L1, h1, h2⟩ := hw
    exact ⟨c1, fr1, el1, L1, by rw [hold' _ this]; exact h1, h2⟩
   have foot_e : ∀ q, e = some q -> 1 <= q.2.2.1 -> Foot ρ H Fp D q.1 /\ WordsM w q.1 q.2.1 q.2.2.1 := fun q hq h1 => by
    obtain ⟨l, k, hl1, hl2, _, _, hl3, hw⟩ := hel q hq h1
    exact ⟨⟨l, k, hsD l hl1, hl2, .inl hl3⟩, hw⟩
   have all : ∀ q, some q ∈ es ++ [e] -> 1 <= q.2.2.1 -> Foot ρ H Fp D q.1 /\ WordsM w q.1 q.2.1 q.2.2.1 := fun q hq h1 => by
    rcases List.mem_append.1 hq with h2 | h2
    · exact hes q h2 h1
    · exact foot_e q (List.mem_singleton.1 h2).symm h1
   have hR : RrIn (es ++ [e]) cap' w' w.heap.size (fun y => y = w.heap.size ∨ ∃ q, some q ∈ es ++ [e] /\ 1 <= q.2.2.1 /\ y = q.1) := by
    refine ⟨⟨c', (0, 0), by simp [w'], .inl (Nat.le_refl _), by rw [List.length_append]; exact hc1, hsize, ?_⟩, fun q hq h1 => ?_, fun y => Iff.rfl⟩
    · show List.take _ c'.toList = _
      simp only [c', Array.toList_append, List.map_append]
      rw [show (es ++ [e]).length = (es.map slV ++ [slV e]).length by simp]
      exact List.take_left
    · have h2 := (all q hq h1).2
      exact ⟨by have := lt_of h2; omega, keepW h2⟩
   obtain ⟨k, hk⟩ : ∃ k, k = encN (((cap' : Nat) : Int) :: (es ++ [e]).map slC) := ⟨_, rfl⟩
   obtain ⟨f1, f2, f3, f4⟩ := ra_fin (b := w.heap.size) hG hh hc hn hm (es := es ++ [e]) (by simp) (by rw [List.length_append]; exact hc1) hk
   have hmerge := hh.merge hB hD (w' := w') (by simp [w']) (fun y hy _ => hold' y hy) rfl rfl rfl k 5 (.nv nl) _ w.heap.size _ (fun y hy => by
    rcases hy with rfl | ⟨q, hq, h1, rfl⟩
    · exact .inr (Nat.le_refl _)
    · exact .inl (all q hq h1).1) (fam5 hR) f4 (H0.set (nl + 1) ⟨.big 5 (.nv nl), true⟩) (fun l1 k1 g => by
    rcases Tr.get_set g with ⟨rfl, rfl⟩ | ⟨_, g⟩
    · exact .inl ⟨rfl, rfl⟩
    · exact .inr (hH0 l1 k1 g))
   subst hls
   refine ⟨.slice (some ⟨w.heap.size, 0, none⟩) (es.length + 1) cap', w', .inl ?_, _, _, _, _, _, List.mem_singleton.2 rfl, f3, f1, hmerge, f2⟩
   have hr' : (Builtin.append_ #[t2, t2] o.type #[.slice bs es.length cap, f y]).run P w = .ok (.slice (some ⟨w.heap.size, 0, none⟩) (es.length + 1) cap') w' := by
    rw [hr]
    simp [newRow, w', c']
    first | exact ⟨rfl, rfl, rfl⟩ | rfl | exact ⟨rfl, rfl⟩
   simp [execOp, ho, resolve, invoke, builtin, ha, hfx, hr']
  split at h
  · -- ahead of nothing
    rename_i hx
    cases h
    refine grow (D := fun l => s = some l) (es := []) (cap := 0) (bs := none) (n := .lit 0) (H0 := delO s H) (fun l k hl hg => ?_) (fun l hl => hl) (fun q hq => by cases hq) rfl (by simp) (by simp) rfl (fun l1 k1 g => ?_) (den_sliceNil (he x _ hx)) (fun w' _ => by rw [hsz]; exact run_firstCells_none w' 1 0 0 0)
    · subst hl
      obtain ⟨k', h1, h2, _⟩ := elA_rw hs
      rw [hg] at h1; cases h1; exact h2
    · exact delO_get g
  · rename_i r n cp hx
    split at h
    rotate_left
    · cases h
    rename_i c5 hg5
    cases hb : (IT.beq n (nbT c5) && (IT.beq cp (capT c5) && isB (lookB cs (.cmp .leq n (.lit 1000000))) true)) with
    | false => rw [hb] at h; cases h
    | true =>
     rw [hb] at h; simp only [cond_true, Option.some.injEq] at h
     simp only [Bool.and_eq_true] at hb
     obtain ⟨hb1, hb2, hb3⟩ := hb
     have e1 := IT.beq_eq hb1
     have e2 := IT.beq_eq hb2
     subst e1 e2
     obtain ⟨b, xz, hN, hcx, hfam, _⟩ := hB.ok _ _ _ _ hg5
     obtain ⟨es, cap, rfl, hR⟩ := fam5_inv hfam
     obtain ⟨b', o0, m, cp0, hfx, hN', ho0, hm, hcp⟩ := den_slice (he x _ hx)
     rw [hN] at hN'; cases hN'
     obtain rfl : o0 = 0 := (Int.ofNat.inj (Option.some.inj ho0)).symm
     have f1 : (nbT c5).den ρ = some ((es.length : Nat) : Int) := by
      rw [nbT, fnD hcx (litD 0), (hG _ _ _ _ _ hh.g).1, fNb, decL_encL, List.tail_cons, List.length_map]
     have f2 : (capT c5).den ρ = some (cap : Int) := by
      rw [capT, unD hcx (litD 0)]
      show some ((decL _).getD ((0 : Int).toNat) 0) = _
      rw [decL_encL]; rfl
     obtain rfl : m = es.length := Int.ofNat.inj (Option.some.inj (hm.symm.trans f1))
     obtain rfl : cp0 = cap := Int.ofNat.inj (Option.some.inj (hcp.symm.trans f2))
     have hub := isB_ok hb3 hc
     rw [cmpD f1 (litD 1000000)] at hub
     simp only [intCmp, Option.some.injEq, decide_eq_true_eq] at hub
     obtain ⟨cur, fr0, k1, kf, k2, k4, k5⟩ := hR.ex
     have hFr : ∀ y, Fp r y -> Foot ρ H Fp (fun l => l = r ∨ s = some l) y := fun y hy => ⟨r, _, .inl rfl, hg5, .inr ⟨rfl, hy⟩⟩
     have hD : ∀ l k, (l = r ∨ s = some l) -> H.get l = some k -> k.rw = true := fun l k hl hg => by
      rcases hl with rfl | hl
      · rw [hg5] at hg; cases hg; rfl
      · subst hl
        obtain ⟨k', h1, h2, _⟩ := elA_rw hs
        rw [hg] at h1; cases h1; exact h2
     have hH0 : ∀ l1 k1, (delO s (H.del r)).get l1 = some k1 -> ¬ (l1 = r ∨ s = some l1) /\ H.get l1 = some k1 := fun l1 k1 g => by
      obtain ⟨a1, a2⟩ := delO_get g
      obtain ⟨a3, a4⟩ := Tr.get_del a2
      exact ⟨fun e => e.elim a3 a1, a4⟩
     by_cases hfit : es.length + 1 <= cp0
     · -- in place
       obtain ⟨w', c', hrun, hheap, hcl, htp, hos, hout⟩ := storeCells_run (P := P) [slV e] 0 es.length w cur kf k1 (by rw [k4]; simpa using hfit) (fun v hv => by rw [List.mem_singleton.1 hv]; exact one_slV e)
       have hr := append_fits_run (P := P) (w := w) (tys := #[t2, t2]) (ty := o.type) (base := some ⟨b, 0, none⟩) (xv := f y) (ys := [slV e]) (w' := w') (sCap := cp0) (n := 1) (sLen := es.length) rfl hu hi hzeros hyl (by rw [hsz]; exact hyc) hfit
        (fun a e => by cases e; rw [hsz, addr_add, Nat.zero_add, Nat.mul_one]; exact hrun) (fun e => by cases e)
       have hbl : b < w.heap.size := (Array.getElem?_eq_some_iff.1 k1).1
       have hb' : w'.heap[b]? = some (.cells c' 22 fr0) := by rw [hheap]; simp [hbl]
       have hcs : cur.toList.length = cur.size := Array.length_toList
       have hcl2 : c'.toList.length = cur.size := by
        rw [hcl]; simp only [List.length_append, List.length_take, List.length_drop, List.length_cons, List.length_nil, hcs]; omega
       have hcl3 : c'.size = cur.size := by rw [<- Array.length_toList]; exact hcl2
       have htk : c'.toList.take (es ++ [e]).length = (es ++ [e]).map slV := by
        rw [hcl, List.map_append, <- k5, List.length_append, Nat.add_zero, List.append_assoc, List.take_append, List.take_take, List.length_take]
        have e1 : min (es.length + [e].length) es.length = es.length := by simp
        have e2 : es.length + [e].length - min es.length cur.toList.length = [slV e].length := by rw [hcs]; simp only [List.length_cons, List.length_nil]; omega
        rw [e1, e2, List.take_left]
        rfl
       have keep' : ∀ y, y ≠ b -> w'.heap[y]? = w.heap[y]? := fun y hy => by rw [hheap]; exact Array.getElem?_setIfInBounds_ne (fun e => hy e.symm)
       have keepW : ∀ {y : Nat} {o1 n1 : Nat}, y ≠ b -> WordsM w y o1 n1 -> WordsM w' y o1 n1 := fun {y o1 n1} hy hw => by
        obtain ⟨c1, fr1, el1, L1, h1, h2⟩ := hw
        exact ⟨c1, fr1, el1, L1, by rw [keep' _ hy]; exact h1, h2⟩
       have new_e : ∀ q, e = some q -> 1 <= q.2.2.1 -> Foot ρ H Fp (fun l => l = r ∨ s = some l) q.1 /\ q.1 ≠ b /\ WordsM w q.1 q.2.1 q.2.2.1 := fun q hq h1 => by
        obtain ⟨l, k, hl1, hl2, hl4, hl5, hl3, hw⟩ := hel q hq h1
        have hne : r ≠ l := fun e => by subst e; rw [hg5] at hl2; cases hl2; cases hl5
        refine ⟨⟨l, k, .inr hl1, hl2, .inl hl3⟩, fun e => ?_, hw⟩
        exact (hB.apart _ _ _ _ _ _ hg5 hl2 hne b ((hR.F b).2 (.inl rfl))).1 (by rw [<- e]; exact hl3)
       have hR' : RrIn (es ++ [e]) cp0 w' b (fun y => Fp r y ∨ ∃ q, e = some q /\ 1 <= q.2.2.1 /\ y = q.1) := by
        refine ⟨⟨c', fr0, hb', by rw [hcl3]; exact kf, by rw [List.length_append]; exact hfit, by rw [hcl3, k4], htk⟩, fun q hq h1 => ?_, fun y => ⟨fun hy => ?_, fun hy => ?_⟩⟩
        · rcases List.mem_append.1 hq with h2 | h2
          · obtain ⟨a1, a2⟩ := hR.row q h2 h1
            exact ⟨a1, keepW a1 a2⟩
          · obtain ⟨_, a1, a2⟩ := new_e q (List.mem_singleton.1 h2).symm h1
            exact ⟨a1, keepW a1 a2⟩
        · rcases hy with hy | ⟨q, hq, h1, rfl⟩
          · rcases (hR.F y).1 hy with rfl | ⟨q, hq, h1, rfl⟩
            · exact .inl rfl
            · exact .inr ⟨q, List.mem_append_left _ hq, h1, rfl⟩
          · exact .inr ⟨q, List.mem_append_right _ (List.mem_singleton.2 hq.symm), h1, rfl⟩
        · rcases hy with rfl | ⟨q, hq, h1, rfl⟩
          · exact .inl ((hR.F _).2 (.inl rfl))
          · rcases List.mem_append.1 hq with h2 | h2
            · exact .inl ((hR.F _).2 (.inr ⟨q, h2, h1, rfl⟩))
            · exact .inr ⟨q, (List.mem_singleton.1 h2).symm, h1, rfl⟩
       obtain ⟨k, hk⟩ : ∃ k, k = encN (((cp0 : Nat) : Int) :: (es ++ [e]).map slC) := ⟨_, rfl⟩
       obtain ⟨g1, g2, g3, g4⟩ := ra_fin (b := b) hG hh hc f1 (by omega) (es := es ++ [e]) (by simp) (by rw [List.length_append]; exact hfit) hk
       have hmerge := hh.merge hB hD (w' := w') (by rw [hheap]; simp) (fun y _ hy => keep' y fun e => hy (by rw [e]; exact hFr b ((hR.F b).2 (.inl rfl)))) htp hos hout k 5 (.nv nl) _ b _ (fun y hy => by
        rcases hy with hy | ⟨q, hq, h1, rfl⟩
        · exact .inl (hFr y hy)
        · exact .inl (new_e q hq h1).1) (fam5 hR') g4 ((delO s (H.del r)).set (nl + 1) ⟨.big 5 (.nv nl), true⟩) (fun l1 k1 g => by
        rcases Tr.get_set g with ⟨rfl, rfl⟩ | ⟨_, g⟩
        · exact .inl ⟨rfl, rfl⟩
        · exact .inr (hH0 l1 k1 g))
       subst h
       refine ⟨.slice (some ⟨b, 0, none⟩) (es.length + 1) cp0, w', .inl ?_, _, _, _, _, _, List.mem_singleton.2 rfl, g3, g1, hmerge, g2⟩
       simp [execOp, ho, resolve, invoke, builtin, ha, hfx, hr]
     · -- a new row
       refine grow (D := fun l => l = r ∨ s = some l) (es := es) (cap := cp0) (bs := some ⟨b, 0, none⟩) (n := nbT c5) (H0 := delO s (H.del r)) hD (fun l hl => .inr hl) (fun q hq h1 => ?_) f1 (by omega) hfit h.symm hH0 hfx (fun w' hw => ?_)
       · exact ⟨hFr _ ((hR.F _).2 (.inr ⟨q, hq, h1, rfl⟩)), (hR.row q hq h1).2⟩
       · rw [hsz]
         refine run_firstCells_some w' 1 es.length ⟨b, 0, none⟩ _ cp0 (es.map slV) (by simp) fun j u hj => ?_
         rw [addr_add]
         have hg' : w'.heap[b]? = some (.cells cur 22 fr0) := by rw [hw]; exact k1
         rw [cell_of w' hg', <- Array.getElem?_toList]
         rw [<- k5, List.getElem?_take] at hj
         split at hj
         · rw [Nat.zero_add]; exact hj
         · cases hj
  · cases h
end
end Go.Vm
end
section
namespace Go.Vm
open Mb
def hkSl (t : TypeId) : OpF := fun o ev H nl cs => match o with
 | .load t' p => cond (Nat.beq t' t) (match ev p with
  | some (.ptr r it) => match H.get r with
   | some ⟨.big 5 c, _⟩ => cond (isB (lookB cs (.cmp .lss it (nbT c))) true)
    (some [.ret .sliceNil H nl cs,
     .ret (.slx nl (.nv (nl + 1)) (.nv (nl + 2)) (.nv (nl + 3))) H (nl + 4) ((isElT c (.nv nl) (.nv (nl + 1)) (.nv (nl + 2)) (.nv (nl + 3)), true) :: cs)]) none
   | _ => none
  | _ => none) none
 | _ => none
theorem slT_den {ρ : Env} {a b n d : IT} {x y z u : Int} (h1 : a.den ρ = some x) (h2 : b.den ρ = some y) (h3 : n.den ρ = some z) (h4 : d.den ρ = some u) : (slT a b n d).den ρ = some (encL [x, y, z, u]) := by
 rw [slT, unD (unD (unD h1 h2) h3) h4]
 show some (encL (decL (encL (decL (encL [x, y]) ++ [z])) ++ [u])) = _
 rw [decL_encL, decL_encL]; rfl
theorem slC_inj {e : Option (Nat × Nat × Nat × Nat)} {b o n c : Nat} (h : slC e = encL [(b : Int), (o : Int), (n : Int), (c : Int)]) : e = some (b, o, n, c) := by
 cases e with
 | none =>
  have h1 := congrArg decL h
  rw [decL_encL] at h1
  have h2 : decL (slC none) = [] := decL_zero
  rw [h2] at h1; cases h1
 | some q =>
  have h1 := congrArg decL h
  simp only [slC, decL_encL, List.cons.injEq, and_true] at h1
  obtain ⟨a1, a2, a3, a4⟩ := h1
  obtain ⟨q1, q2, q3, q4⟩ := q
  simp only at a1 a2 a3 a4
  rw [Int.ofNat.inj a1, Int.ofNat.inj a2, Int.ofNat.inj a3, Int.ofNat.inj a4]
section
variable {P : Program} {β : Base} {t e : TypeId}
theorem hkSl_ok (hu : P.underlying t = some (.slice e)) (hG : ∀ I B S V F, β.G I B S V F -> GRr I B S V F) : HookOk P β (hkSl t) := by
 intro o ev H nl cs ls ρ w f h he hh hc _
 unfold hkSl at h
 split at h
 rotate_left
 · cases h
 rename_i t' p ho
 cases hb : Nat.beq t' t with
 | false => rw [hb] at h; cases h
 | true =>
  rw [hb] at h; simp only [cond_true] at h
  obtain rfl := Nat.eq_of_beq_eq_true hb
  split at h
  rotate_left
  · cases h
  rename_i r it hp
  split at h
  rotate_left
  · cases h
  rename_i c rw0 hl
  cases hv : isB (lookB cs (.cmp .lss it (nbT c))) true with
  | false => rw [hv] at h; cases h
  | true =>
   rw [hv] at h; simp only [cond_true, Option.some.injEq] at h
   subst h
   obtain ⟨b, x, F, hN, hcx, hfam, _⟩ := hh.bigAt hl
   obtain ⟨es, cap, rfl, hR⟩ := fam5_inv hfam
   obtain ⟨cur, fr, k1, kf, k2, k4, k5⟩ := hR.ex
   obtain ⟨g93, g95⟩ := hG _ _ _ _ _ hh.g
   obtain ⟨b', j, hfp, hN', hj0⟩ := den_ptr (he p _ hp)
   rw [hN] at hN'; cases hN'
   have h2 := isB_ok hv hc
   have dn : (nbT c).den ρ = some ((es.length : Nat) : Int) := by
    rw [nbT, fnD hcx (litD 0), g93, fNb, decL_encL, List.tail_cons, List.length_map]
   rw [cmpD (show it.den ρ = some ((j : Nat) : Int) from hj0) dn] at h2
   simp only [intCmp, Option.some.injEq, decide_eq_true_eq] at h2
   have hj : j < es.length := by omega
   obtain ⟨el, hel⟩ : ∃ el, es[j]? = some el := ⟨_, List.getElem?_eq_getElem hj⟩
   have hcj : cur[j]? = some (slV el) := by
    have h5 : (cur.toList.take es.length)[j]? = some (slV el) := by rw [k5, List.getElem?_map, hel]; rfl
    rw [List.getElem?_take, if_pos hj, Array.getElem?_toList] at h5
    exact h5
   have hcell : w.cell? ⟨b, j, none⟩ = some (slV el) := by rw [cell_of w k1]; exact hcj
   have hrun : (Instr.loadAt t' (f p)).run P w = .ok (slV el) w := by
    rw [hfp]
    have hag : aggB (.slice e) = false := rfl
    simp [Instr.loadAt, Instr.sureAddr, loadVar, run_isAgg hu, hag, hcell]
   cases el with
   | none => exact ⟨slV none, w, .inl (by simp [execOp, ho, hrun]), _, _, _, _, ρ, List.mem_cons_self, Env.Le.refl ρ, rfl, hh, hc⟩
   | some q =>
    obtain ⟨b1, o1, m1, c1'⟩ := q
    have r1 := hh.num b1
    have r2 := r1.num o1
    have r3 := r2.num m1
    have r4 := r3.num c1'
    have l1 := Env.le_put (b := b1) (hh.fresh nl (Nat.le_refl _))
    have l2 := Env.le_put (b := o1) (r1.fresh (nl + 1) (Nat.le_refl _))
    have l3 := Env.le_put (b := m1) (r2.fresh (nl + 2) (Nat.le_refl _))
    have l4 := Env.le_put (b := c1') (r3.fresh (nl + 3) (Nat.le_refl _))
    have hle := ((l1.trans l2).trans l3).trans l4
    have n0 := l4.n _ _ (l3.n _ _ (l2.n _ _ (Env.put_same ρ nl b1)))
    have n1 := l4.n _ _ (l3.n _ _ (Env.put_same (ρ.put nl b1) (nl + 1) o1))
    have n2 := l4.n _ _ (Env.put_same ((ρ.put nl b1).put (nl + 1) o1) (nl + 2) m1)
    have n3 := Env.put_same (((ρ.put nl b1).put (nl + 1) o1).put (nl + 2) m1) (nl + 3) c1'
    refine ⟨slV (some (b1, o1, m1, c1')), w, .inl (by simp [execOp, ho, hrun]), _, _, _, _, _, List.mem_cons_of_mem _ List.mem_cons_self, hle, den_slx_of n0 (nvD n1) (nvD n2) (nvD n3), r4, c1 ?_ (hc.mono hle)⟩
    have e1 : (IT.fn 95 c (slT (.nv nl) (.nv (nl + 1)) (.nv (nl + 2)) (.nv (nl + 3)))).den ((((ρ.put nl b1).put (nl + 1) o1).put (nl + 2) m1).put (nl + 3) c1') = some 1 := by
     rw [fnD (IT.den_mono hle hcx) (slT_den (nvD n0) (nvD n1) (nvD n2) (nvD n3)), hle.f, g95]
     unfold fEl
     rw [decL_encL, List.tail_cons, if_pos]
     rw [List.contains_iff_mem]
     exact List.mem_map.2 ⟨_, List.mem_of_getElem? hel, rfl⟩
    unfold isElT
    rw [cmpD e1 (litD 1)]; rfl
end
end Go.Vm
end
section
namespace Go.Vm
section
variable {β : Base} {ρ : Env} {H : Heap} {nl : Nat} {w : World}
theorem HRel.bigNewB (h : HRel β ρ H nl w) {Fq : Nat -> Nat -> Prop} (hQ : BigAt ρ H β.dom w Fq) {w' : World} (f : Framed w w') {k b : Nat} {c : IT} {x : Int} {F : Nat -> Prop} (hf : fam k x w' b F) (hF : ∀ y, F y -> w.heap.size <= y) (hx : c.den ρ = some x) :
 BigAt (ρ.put nl b) (H.set nl ⟨.big k c, true⟩) β.dom w' (fun l1 => if l1 = nl then F else Fq l1) := by
 have hle : ρ.Le (ρ.put nl b) := Env.le_put (h.fresh nl (Nat.le_refl _))
 have hlt : ∀ {l1 k1 b1}, H.get l1 = some k1 -> (ρ.put nl b).N l1 = some b1 -> l1 ≠ nl -> b1 < w.heap.size := fun {l1 k1 b1} g1 g2 hne => by
  rw [Env.put_other ρ b hne] at g2
  exact h.lt g1 g2
 have hnlt : ∀ {l1 k1}, H.get l1 = some k1 -> l1 ≠ nl := fun {l1 k1} g1 e => by
  obtain ⟨b1, _, hb1, _⟩ := h.blk l1 k1 g1
  rw [e, h.fresh nl (Nat.le_refl _)] at hb1; cases hb1
 have hQ' := (hQ.agree fun y hy => f.frame y hy).le hle fun l k hl => Env.put_other ρ b (hnlt hl)
 have oldQ : ∀ {l1 k1 c1 rw1}, H.get l1 = some ⟨.big k1 c1, rw1⟩ -> ∀ {y}, Fq l1 y -> y < w.heap.size := fun {_ _ _ _} g1 {y} hy => by
  obtain ⟨_, _, _, _, e3, _⟩ := hQ.ok _ _ _ _ g1
  exact fam_lt e3 hy
 have hroot := hF b (fam_root hf)
 refine ⟨fun l1 k1 c1 rw1 g1 => ?_, fun l1 l2 k1 c1 rw1 h' g1 g2 hne y hy => ?_⟩
 · rcases Tr.get_set g1 with ⟨rfl, e⟩ | ⟨hne', g1⟩
   · cases e
     simp only [if_true]
     exact ⟨b, x, Env.put_same .., IT.den_mono hle hx, hf, fun _ y hy => .inl (Nat.le_trans h.size (hF y hy))⟩
   · simp only [if_neg hne']
     exact hQ'.ok _ _ _ _ g1
 · rcases Tr.get_set g1 with ⟨rfl, e⟩ | ⟨hne1, g1⟩
   · rcases Tr.get_set g2 with ⟨e3, _⟩ | ⟨hne2, g2⟩
     · exact absurd e3.symm hne
     · simp only [if_true] at hy
       rw [if_neg hne2]
       have hge := hF y hy
       refine ⟨fun e => by have := hlt g2 e hne2; omega, fun hnb hy2 => ?_⟩
       obtain ⟨n, c2, hk⟩ := ABlk.nb_of hnb
       obtain ⟨hk', r'⟩ := h'
       simp only at hk; subst hk
       have := oldQ g2 hy2; omega
   · simp only [if_neg hne1] at hy
     have hy2 := oldQ g1 hy
     rcases Tr.get_set g2 with ⟨rfl, e⟩ | ⟨hne2, g2⟩
     · refine ⟨fun e => ?_, fun _ hy3 => ?_⟩
       · rw [Env.put_same] at e; cases e; omega
       · simp only [if_true] at hy3
         have := hF y hy3; omega
     · rw [if_neg hne2]
       exact hQ'.apart _ _ _ _ _ _ g1 g2 hne y hy
theorem HRel.adoptN (h : HRel β ρ H nl w) {Fp : Nat -> Nat -> Prop} (hB : BigAt ρ H β.dom w Fp) {b : Nat} {o : Obj} (ho : w.heap[b]? = some o) (hd : β.dom b) (hno : ∀ l k, H.get l = some k -> ρ.N l ≠ some b) (hF : ∀ l k c rw, H.get l = some ⟨.big k c, rw⟩ -> ¬ Fp l b)
 {k : ABlk} {rw : Bool} (hk : k.rel (ρ.put nl b) rw o) (hnb : k.nb = true := by rfl) : HRel β (ρ.put nl b) (H.set nl ⟨k, rw⟩) (nl + 1) w := by
 have hle : ρ.Le (ρ.put nl b) := Env.le_put (h.fresh nl (Nat.le_refl _))
 have hn := h.num b
 have hnl : ∀ {l k'}, H.get l = some k' -> l ≠ nl := fun {l k'} hl e => by
  obtain ⟨b1, _, hb1, _⟩ := h.blk l k' hl
  rw [e, h.fresh nl (Nat.le_refl _)] at hb1; cases hb1
 refine ⟨fun l k' hl => ?_, fun l l' k1 k2 hl hl' hr he => ?_, fun l k' b' hl hr hb' => ?_, hn.fresh, hn.ownN, hn.size, hn.frame, hn.tape, hn.os, hn.out, hn.g, Fp, (hB.le hle fun l k hl => Env.put_other ρ b (hnl hl)).set hnb (Env.put_same ..) (fun l k c rw hl _ => hF l k c rw hl) (fun y _ _ => rfl)⟩
 · rcases Tr.get_set hl with ⟨rfl, rfl⟩ | ⟨hne', hl⟩
   · exact ⟨b, o, Env.put_same .., ho, hk⟩
   · exact hn.blk l k' hl
 · rcases Tr.get_set hl with ⟨e1, e2⟩ | ⟨hne1, g1⟩
   · rcases Tr.get_set hl' with ⟨e3, e4⟩ | ⟨hne2, g2⟩
     · rw [e1, e3]
     · rw [e1, Env.put_same, Env.put_other ρ _ hne2] at he
       exact absurd he.symm (hno l' k2 g2)
   · rcases Tr.get_set hl' with ⟨e3, e4⟩ | ⟨hne2, g2⟩
     · rw [e3, Env.put_same, Env.put_other ρ _ hne1] at he
       exact absurd he (hno l k1 g1)
     · exact hn.inj l l' k1 k2 g1 g2 hr he
 · rcases Tr.get_set hl with ⟨rfl, rfl⟩ | ⟨hne', hl⟩
   · rw [Env.put_same] at hb'; cases hb'
     exact hd
   · exact hn.own l k' b' hl hr hb'
end
end Go.Vm
end
