/- A machine for abstract states over the model (part 43): append to a row of the reference's blocks. -/
import Derived.Test.YtighjgmgpphohaaVm42
import Derived.Test.YtighjgmgpphohaaVm40
section
namespace Go.Vm
open Mb
def yAp (H : Heap) (cs : Cs) : AVal -> Option IT
 | .sliceNil => some (.lit 0)
 | .slice q (.lit (.ofNat 0)) k _ => match H.get q with
  | some ⟨.big 4 d, _⟩ => cond (isB (lookB cs (.cmp .geq k (.lit 0))) true && isB (lookB cs (.cmp .leq k (nbT d))) true) (some k) none
  | some ⟨.cells [.int .u64 _, .slice _ (.lit (.ofNat 0)) _ _] _ _, _⟩ => cond (IT.beq k (.lit 1)) (some (.lit 1)) none
  | _ => none
 | .slice q (.elem (.lit (.ofNat 0)) 2 0 (.un 13 o cp)) k _ => match H.get q with
  | some ⟨.big 4 d, _⟩ => cond (IT.beq k (.un 14 (nbT d) o) && (IT.beq cp (capT d) && (isB (lookB cs (.cmp .geq o (.lit 0))) true && isB (lookB cs (.cmp .leq o (nbT d))) true))) (some k) none
  | _ => none
 | _ => none
def apL (r : Nat) (n k : IT) (B : Nat) (H : Heap) (nl : Nat) (cs : Cs) : List Leaf :=
 [.ret (.slice (nl + 1) (.lit 0) (nbT (.nv nl)) (capT (.nv nl))) ((H.del r).set (nl + 1) ⟨.big 4 (.nv nl), true⟩) (nl + 2)
  ((.cmp .eql (nbT (.nv nl)) (.bin .add .i64 n k), true) :: (.cmp .leq (nbT (.nv nl)) (.lit (.ofNat B)), true) :: (.cmp .leq (nbT (.nv nl)) (capT (.nv nl)), true) :: (.cmp .geq (nbT (.nv nl)) (.lit 0), true) :: cs)]
def hkAp (t : TypeId) : OpF := fun o ev H nl cs => match o with
 | .call { callee := .builtin .append, args, argTypes } => match args.toList, argTypes.toList with
  | [x, y], [t1, t2] => cond (Nat.beq t1 t && Nat.beq t2 t) (match ev x, ev y with
   | some (.slice r (.lit (.ofNat 0)) n cp), some yv => match yAp H cs yv with
    | some k => match ubOf cs n, ubOf cs k with
     | some b1, some b2 => cond (Nat.ble (b1 + b2) 1000000000) (match H.get r with
      | some ⟨.big 4 c, true⟩ => cond (IT.beq n (nbT c) && IT.beq cp (capT c)) (some (apL r n k (b1 + b2) H nl cs)) none
      | some ⟨.cells [] 112 none, true⟩ => cond (IT.beq n (.lit 0) && IT.beq cp (.lit 0)) (some (apL r n k (b1 + b2) H nl cs)) none
      | _ => none) none
     | _, _ => none
    | none => none
   | _, _ => none) none
  | _, _ => none
 | _ => none
def YLay (P : Program) (w : World) (yv : Value) (ps2 : Rb) : Prop := (∀ w' : World, (Builtin.lenOf yv).run P w' = .ok ps2.length w') /\ ∀ w' : World, w'.heap = w.heap -> (Builtin.firstCells 2 ps2.length yv).run P w' = .ok (cellsB ps2).toArray w'
theorem cellsB_len (ps : Rb) : (cellsB ps).length = ps.length * 2 := by
 induction ps with
 | nil => rfl
 | cons p r ih => simp only [cellsB, List.flatMap_cons, List.length_append, List.length_cons, List.length_nil] at ih ⊢; omega
theorem cellsB_app (a b : Rb) : cellsB (a ++ b) = cellsB a ++ cellsB b := by simp [cellsB]
theorem cellsB_one (ps : Rb) : ∀ v ∈ cellsB ps, isOne v = true := fun v hv => by
 simp only [cellsB, List.mem_flatMap, List.mem_cons, List.not_mem_nil, or_false] at hv
 obtain ⟨p, _, rfl | rfl⟩ := hv <;> rfl
theorem cellsB_slice (ps : Rb) (o k : Nat) : ((cellsB ps).drop (o * 2)).take (k * 2) = cellsB ((ps.drop o).take k) := by
 induction ps generalizing o k with
 | nil => simp [cellsB]
 | cons p r ih =>
  match o with
  | 0 =>
   match k with
   | 0 => simp [cellsB]
   | k + 1 =>
    have := ih 0 k
    simp only [Nat.zero_mul, List.drop_zero] at this ⊢
    have e : cellsB (p :: r) = [.int .u64 p.1, .slice (some ⟨p.2.1, p.2.2.1, none⟩) p.2.2.2.1 p.2.2.2.2] ++ cellsB r := rfl
    have e2 : cellsB (p :: r.take k) = [.int .u64 p.1, .slice (some ⟨p.2.1, p.2.2.1, none⟩) p.2.2.2.1 p.2.2.2.2] ++ cellsB (r.take k) := rfl
    rw [e, List.take_succ_cons, e2, <- this, show (k + 1) * 2 = k * 2 + 1 + 1 by omega]
    rfl
  | o + 1 =>
   have := ih o k
   rw [List.drop_succ_cons, <- this, show (o + 1) * 2 = o * 2 + 2 by omega]
   rfl
theorem YLay.of {P : Program} {w : World} {b o n c : Nat} {ps2 : Rb} (hn : ps2.length = n) {cur : Array Value} {e : TypeId} {fr : Nat × Nat} (hg : w.heap[b]? = some (.cells cur e fr)) (hc : (cur.toList.drop o).take (n * 2) = cellsB ps2) : YLay P w (.slice (some ⟨b, o, none⟩) n c) ps2 := by
 subst hn
 refine ⟨fun w' => rfl, fun w' hw => run_firstCells_some w' 2 ps2.length ⟨b, o, none⟩ _ c (cellsB ps2) (cellsB_len ps2) fun j v hj => ?_⟩
 rw [addr_add]
 have hg' : w'.heap[b]? = some (.cells cur e fr) := by rw [hw]; exact hg
 rw [cell_of w' hg', <- Array.getElem?_toList]
 rw [<- hc, List.getElem?_take] at hj
 split at hj
 · rw [List.getElem?_drop] at hj; exact hj
 · cases hj
section
variable {P : Program} {β : Base} {t : TypeId} {ρ : Env} {H : Heap} {nl : Nat} {w : World}
theorem ap_core {ei : TypeInfo} {zv : Value} (hu : P.underlying t = some (.slice 112)) (hi : P.info? 112 = some ei) (hsz : ei.size = 2) (hby : ei.bytes ≠ 0 /\ ei.bytes <= 32) (hz : ∀ w, (zeroValue 112).run P w = .ok zv w) (hzs : zv.cells.size = 2)
 (hG : ∀ I B S V F, β.G I B S V F -> GRb I B S V F) (hh : HRel β ρ H nl w) {r : Nat} {c : IT} (hl : H.get r = some ⟨.big 4 c, true⟩) {H0 : Heap} (hH0 : ∀ l k, l ≠ r -> H0.get l = some k -> H.get l = some k) {yv : Value} {ps2 : Rb} (hy : YLay P w yv ps2) {cs : Cs} (hc : CRel ρ cs)
 {n k : IT} {m : Nat} (hn : n.den ρ = some (m : Int)) (hk : k.den ρ = some (ps2.length : Int)) {B b cp : Nat} (hb : ρ.N r = some b) (hm : (nbT c).den ρ = some (m : Int)) (hcp : (capT c).den ρ = some (cp : Int)) (hB : m + ps2.length <= B) (hB2 : B <= 1000000000) (ty : TypeId) :
 ∃ x w', (Builtin.append_ #[t, t] ty #[.slice (some ⟨b, 0, none⟩) m cp, yv]).run P w = .ok x w' /\ ∃ u H' nl' cs' ρ', Leaf.ret u H' nl' cs' ∈ apL r n k B H0 nl cs /\ ρ.Le ρ' /\ u.den ρ' = some x /\ HRel β ρ' H' nl' w' /\ CRel ρ' cs' := by
 obtain ⟨Fp, hB0⟩ := hh.big
 obtain ⟨b', x, hN, hcx, hfam, _⟩ := hh.bigAtF hB0 hl
 rw [hb] at hN; cases hN
 obtain ⟨ps, cap, rfl, hR⟩ := fam4_inv hfam
 obtain ⟨g93, _⟩ := hG _ _ _ _ _ hh.g
 obtain ⟨cur, fr, k1, kf, k2, k4, k5⟩ := hR.ex
 have nbD : ∀ {ρ' : Env} {d : IT} {qs : Rb} {q : Nat}, ρ'.F = ρ.F -> d.den ρ' = some (encL (((q : Nat) : Int) :: qs.map (·.1))) -> (nbT d).den ρ' = some ((qs.length : Nat) : Int) /\ (capT d).den ρ' = some (q : Int) := fun {ρ' d qs q} hF hd => by
  refine ⟨?_, ?_⟩
  · rw [nbT, fnD hd (litD 0), hF, g93]
    simp [fNb, decL_encL]
  · rw [capT, unD hd (litD 0)]
    show some ((decL _).getD ((0 : Int).toNat) 0) = _
    rw [decL_encL]; rfl
 obtain ⟨n1, n2⟩ := nbD rfl hcx
 obtain rfl : m = ps.length := Int.ofNat.inj (Option.some.inj (hm.symm.trans n1))
 obtain rfl : cp = cap := Int.ofNat.inj (Option.some.inj (hcp.symm.trans n2))
 obtain ⟨y1, y2⟩ := hy
 have hzeros : ∀ xt, (#[t, t] : Array TypeId)[1]? = some xt -> ∃ d, P.underlying xt = some d /\ ∀ k, d ≠ .int k := fun xt e => by
  cases e; exact ⟨_, hu, fun k e => by cases e⟩
 have fin : ∀ {ρ' ρ'' : Env} {q b2 : Nat}, ρ.Le ρ' -> ρ'.Le ρ'' -> ρ''.N (nl + 1) = some b2 -> (IT.nv nl).den ρ' = some (encL (((q : Nat) : Int) :: (ps ++ ps2).map (·.1))) -> (ps ++ ps2).length <= q ->
  (AVal.slice (nl + 1) (.lit 0) (nbT (.nv nl)) (capT (.nv nl))).den ρ'' = some (.slice (some ⟨b2, 0, none⟩) (ps.length + ps2.length) q) ∧
  CRel ρ'' ((.cmp .eql (nbT (.nv nl)) (.bin .add .i64 n k), true) :: (.cmp .leq (nbT (.nv nl)) (.lit (.ofNat B)), true) :: (.cmp .leq (nbT (.nv nl)) (capT (.nv nl)), true) :: (.cmp .geq (nbT (.nv nl)) (.lit 0), true) :: cs) := fun {ρ' ρ'' q b2} l1 l2 hb2 hx hq => by
  have hle := l1.trans l2
  obtain ⟨e1, e2⟩ := nbD (ρ' := ρ'') (by rw [hle.f]) (IT.den_mono l2 hx)
  rw [List.length_append] at e1 hq
  refine ⟨den_slice_of hb2 rfl e1 e2, ?_⟩
  refine c1 (eqlT e1 (binD (IT.den_mono hle hn) (IT.den_mono hle hk)) ?_) (c1 (leqT e1 (litD (B : Int)) (by omega)) (c1 (leqT e1 e2 (by omega)) (c1 (geqT e1 (litD 0) (by omega)) (hc.mono hle))))
  rw [wrapI (by omega) (by omega)]
  omega
 by_cases hfit : ps.length + ps2.length <= cp
 · -- in place
   obtain ⟨w', c', hrun, hheap, hcl, htp, hos, hout⟩ := storeCells_run (P := P) (cellsB ps2) 0 (ps.length * 2) w cur kf k1 (by rw [cellsB_len]; omega) (cellsB_one ps2)
   have hr := append_fits_run (P := P) (w := w) (tys := #[t, t]) (ty := ty) (base := some ⟨b, 0, none⟩) (xv := yv) (ys := cellsB ps2) (w' := w') (sCap := cp) (n := ps2.length) (sLen := ps.length) rfl hu hi hzeros y1 (by rw [hsz]; exact y2) hfit
    (fun a e => by cases e; rw [hsz, addr_add, Nat.zero_add]; exact hrun) (fun e => by cases e)
   have hbl : b < w.heap.size := (Array.getElem?_eq_some_iff.1 k1).1
   have hb' : w'.heap[b]? = some (.cells c' 112 fr) := by rw [hheap]; simp [hbl]
   have hcl2 : c'.toList.length = cur.size := by
    rw [hcl]; simp only [List.length_append, List.length_take, List.length_drop, Array.length_toList, cellsB_len]; omega
   have htk : c'.toList.take ((ps ++ ps2).length * 2) = cellsB (ps ++ ps2) := by
    rw [hcl, cellsB_app, <- k5, List.length_append, Nat.add_zero, List.append_assoc, List.take_append, List.take_take, List.length_take]
    have e1 : min ((ps.length + ps2.length) * 2) (ps.length * 2) = ps.length * 2 := by omega
    have e2 : (ps.length + ps2.length) * 2 - min (ps.length * 2) cur.toList.length = (cellsB ps2).length := by
     have h0 : cur.toList.length = cur.size := Array.length_toList
     rw [cellsB_len, h0]; omega
    rw [e1, e2, List.take_left]
   have hR' : RefIn (ps ++ ps2) cp w' b (Fp r) := ⟨⟨c', fr, hb', by rw [<- Array.length_toList, hcl2]; exact kf, by rw [List.length_append]; exact hfit, by rw [<- Array.length_toList, hcl2, k4], htk⟩, hR.F⟩
   have hst : BigStep w w' (Fp r) (Fp r) := ⟨by rw [hheap]; simp, fun y _ hy => by rw [hheap]; exact Array.getElem?_setIfInBounds_ne (fun e => hy ((hR.F y).2 e.symm)), htp, hos, hout, fun y hy => .inl hy⟩
   obtain ⟨q, hq⟩ : ∃ q, q = encN (((cp : Nat) : Int) :: (ps ++ ps2).map (·.1)) := ⟨_, rfl⟩
   have hle1 : ρ.Le (ρ.put nl q) := Env.le_put (hh.fresh nl (Nat.le_refl _))
   have hx1 : (IT.nv nl).den (ρ.put nl q) = some (encL (((cp : Nat) : Int) :: (ps ++ ps2).map (·.1))) := by rw [nvD (Env.put_same ..), hq]; rfl
   have hne : ∀ {l1 k1}, H.get l1 = some k1 -> l1 ≠ nl := fun {l1 k1} g1 e => by
    obtain ⟨b1, _, hb1, _⟩ := hh.blk l1 k1 g1
    rw [e, hh.fresh nl (Nat.le_refl _)] at hb1; cases hb1
   obtain ⟨b3, x3, q1, _, _, upd⟩ := (hh.num q).bigAtG (hB0.le hle1 fun l1 k1 hl1 => Env.put_other ρ q (hne hl1)) hl
   have e3 : b3 = b := Option.some.inj (q1.symm.trans (hle1.n _ _ hb))
   rw [e3] at upd
   have h1 := upd rfl w' (.nv nl) _ (Fp r) (Tr.setN (r + 1) r (some ⟨.big 4 (.nv nl), true⟩) H) (fun l1 k1 g => (Tr.get_setN _ _ _ _ _ _ g).imp (fun e => ⟨e.1, (Option.some.inj e.2).symm⟩) id) hst (fam4 hR') hx1
   have hN1 : (ρ.put nl q).N r = some b := hle1.n _ _ hb
   have hrl : r ≠ nl := fun e => by rw [e, hh.fresh nl (Nat.le_refl _)] at hb; cases hb
   have h2 := h1.rename (k := ⟨.big 4 (.nv nl), true⟩) (H' := (H0.del r).set (nl + 1) ⟨.big 4 (.nv nl), true⟩) (Tr.get_setN_same _ _ _ _ (Nat.lt_succ_self _)) hN1 rfl (fun l k' g => by
    rcases Tr.get_set g with ⟨rfl, rfl⟩ | ⟨_, g⟩
    · exact .inl ⟨rfl, rfl⟩
    · obtain ⟨hne2, g⟩ := Tr.get_del g
      refine .inr ⟨hne2, ?_⟩
      exact Tr.get_setN_other _ _ _ _ _ _ hne2 (hH0 l k' hne2 g) (Nat.lt_succ_self _))
   have hle2 : (ρ.put nl q).Le ((ρ.put nl q).put (nl + 1) b) := Env.le_put (h1.fresh _ (Nat.le_refl _))
   obtain ⟨f1, f2⟩ := fin hle1 hle2 (Env.put_same ..) hx1 (by rw [List.length_append]; exact hfit)
   exact ⟨_, w', hr, _, _, _, _, _, List.mem_singleton.2 rfl, hle1.trans hle2, f1, h2, f2⟩
 · -- a new row
   have hold : ∀ w' : World, w'.heap = w.heap -> (Builtin.firstCells ei.size ps.length (.slice (some ⟨b, 0, none⟩) ps.length cp)).run P w' = .ok (cellsB ps).toArray w' := fun w' hw => by
    rw [hsz]
    exact (YLay.of (P := P) (w := w) (c := cp) (ps2 := ps) rfl k1 (by rw [List.drop_zero]; exact k5)).2 w' hw
   obtain ⟨cap', hc1, hr⟩ := append_grow_run (P := P) (w := w) (tys := #[t, t]) (ty := ty) (base := some ⟨b, 0, none⟩) (xv := yv) (ys := cellsB ps2) (old := cellsB ps) (sCap := cp) (n := ps2.length) (sLen := ps.length) rfl hu hi hz hzeros y1 (by rw [hsz]; exact y2) hold hfit
    (growslice_fits (by omega) (Nat.le_trans (Nat.mul_le_mul (show ps.length + ps2.length <= 1000000000 by omega) hby.2) (by decide))) hby.1
   obtain ⟨q, hq⟩ : ∃ q, q = encN (((cap' : Nat) : Int) :: (ps ++ ps2).map (·.1)) := ⟨_, rfl⟩
   have hh0 : HRel β ρ (H0.del r) nl w := hh.sub fun l k' g => by
    obtain ⟨hne, g⟩ := Tr.get_del g
    exact hH0 l k' hne g
   have h1 := hh0.num q
   have hle1 : ρ.Le (ρ.put nl q) := Env.le_put (hh.fresh nl (Nat.le_refl _))
   have hx1 : (IT.nv nl).den (ρ.put nl q) = some (encL (((cap' : Nat) : Int) :: (ps ++ ps2).map (·.1))) := by rw [nvD (Env.put_same ..), hq]; rfl
   let c' : Array Value := (cellsB ps ++ cellsB ps2).toArray ++ Builtin.zeroCells zv.cells (cap' - (ps.length + ps2.length))
   let w' : World := { w with drawn := w.drawn + 1, heap := w.heap.push (.cells c' 112 (0, 0)) }
   have hf : Framed w w' := ⟨by simp [w'], fun y hy => by simp only [w']; rw [Array.getElem?_push, if_neg (by omega)], rfl, rfl, rfl⟩
   have hsize : c'.size = cap' * 2 := by
    simp only [c', Array.size_append, List.size_toArray, List.length_append, cellsB_len, size_zeroCells, hzs]
    omega
   have hR' : RefIn (ps ++ ps2) cap' w' w.heap.size (fun y => y = w.heap.size) := ⟨⟨c', (0, 0), by simp [w'], .inl (Nat.le_refl _), by rw [List.length_append]; exact hc1, hsize, by
    show List.take _ c'.toList = _
    simp only [c', Array.toList_append, List.length_append, cellsB_app]
    have e1 : (ps.length + ps2.length) * 2 = (cellsB ps ++ cellsB ps2).length := by rw [List.length_append, cellsB_len, cellsB_len]; omega
    rw [e1, List.take_left]⟩, fun y => Iff.rfl⟩
   have h2 := h1.bigNew hf (c := .nv nl) (fam4 hR') (fun y hy => by rw [hy]; exact Nat.le_refl _) hx1
   have hle2 : (ρ.put nl q).Le ((ρ.put nl q).put (nl + 1) w.heap.size) := Env.le_put (h1.fresh _ (Nat.le_refl _))
   obtain ⟨f1, f2⟩ := fin hle1 hle2 (Env.put_same ..) hx1 (by rw [List.length_append]; exact hc1)
   refine ⟨.slice (some ⟨w.heap.size, 0, none⟩) (ps.length + ps2.length) cap', w', ?_, _, _, _, _, _, List.mem_singleton.2 rfl, hle1.trans hle2, f1, h2, f2⟩
   rw [hr]
   simp [newRow, w', c', World.alloc]
   exact ⟨rfl, rfl, rfl⟩
theorem yAp_ok (hG : ∀ I B S V F, β.G I B S V F -> GRb I B S V F) (hh : HRel β ρ H nl w) {cs : Cs} (hc : CRel ρ cs) {yv : AVal} {v : Value} {k : IT} (h : yAp H cs yv = some k) (hv : yv.den ρ = some v) : ∃ ps2 : Rb, YLay P w v ps2 /\ k.den ρ = some ((ps2.length : Nat) : Int) := by
 obtain ⟨g93, _⟩ := hG _ _ _ _ _ hh.g
 have nbD : ∀ {d : IT} {qs : Rb} {q : Nat}, d.den ρ = some (encL (((q : Nat) : Int) :: qs.map (·.1))) -> (nbT d).den ρ = some ((qs.length : Nat) : Int) := fun {d qs q} hd => by
  rw [nbT, fnD hd (litD 0), g93]
  simp [fNb, decL_encL]
 unfold yAp at h
 split at h
 · cases h
   obtain rfl := den_sliceNil hv
   exact ⟨[], ⟨fun w' => rfl, fun w' _ => run_firstCells_none w' 2 0 0 0⟩, rfl⟩
 · rename_i q k0 cp0
   obtain ⟨b, o, n, cp, rfl, hN, ho, hn, _⟩ := den_slice hv
   obtain rfl : o = 0 := (Int.ofNat.inj (Option.some.inj ho)).symm
   split at h
   · rename_i d rw0 hg
     cases hb : (isB (lookB cs (.cmp .geq k0 (.lit 0))) true && isB (lookB cs (.cmp .leq k0 (nbT d))) true) with
     | false => rw [hb] at h; cases h
     | true =>
      rw [hb] at h; cases h
      simp only [Bool.and_eq_true] at hb
      obtain ⟨b', x, F, hN', hdx, hfam, _⟩ := hh.bigAt hg
      rw [hN] at hN'; cases hN'
      obtain ⟨ps, cap, rfl, hR⟩ := fam4_inv hfam
      obtain ⟨cur, fr, k1, kf, k2, k4, k5⟩ := hR.ex
      have h2 := isB_ok hb.2 hc
      have hn2 := hn
      rw [show (Int.ofNat n) = ((n : Nat) : Int) from rfl] at hn2
      rw [cmpD hn2 (nbD hdx)] at h2
      simp only [intCmp, Option.some.injEq, decide_eq_true_eq] at h2
      have h2 : n <= ps.length := by omega
      refine ⟨ps.take n, YLay.of (by rw [List.length_take]; omega) k1 ?_, by rw [hn, List.length_take, Nat.min_eq_left h2]; rfl⟩
      have := cellsB_slice ps 0 n
      simp only [Nat.zero_mul, List.drop_zero] at this
      rw [<- this, <- k5, List.drop_zero, List.take_take, Nat.min_eq_left (by omega)]
   · rename_i hz sb cs0 sn e0 tl rw0 hg
     cases hb : IT.beq k0 (.lit 1) with
     | false => rw [hb] at h; cases h
     | true =>
      rw [hb] at h; cases h
      obtain rfl := IT.beq_eq hb
      obtain rfl : n = 1 := (Int.ofNat.inj (Option.some.inj hn)).symm
      obtain ⟨b', ob, hN', hob, xs, c, fr, rfl, hxs, hpre, _⟩ := hh.blk _ _ hg
      rw [hN] at hN'; cases hN'
      simp only [AVal.denL] at hxs
      split at hxs
      rotate_left
      · cases hxs
      rename_i x1 l1 hx1 hl1
      split at hl1
      rotate_left
      · cases hl1
      rename_i x2 l2 hx2 hl2
      cases hl2; cases hl1; cases hxs
      obtain ⟨z, rfl, hz⟩ := den_int hx1
      obtain ⟨b2, o2, n2, c2, rfl, _⟩ := den_slice hx2
      refine ⟨[(z, (b2, o2, n2, c2))], YLay.of rfl hob ?_, rfl⟩
      obtain ⟨r, hr⟩ := hpre
      rw [List.drop_zero, <- hr]; rfl
   · cases h
 · rename_i q o0 kp0 k0 cp0
   obtain ⟨b, o, n, cp, rfl, hN, ho, hn, _⟩ := den_slice hv
   split at h
   · rename_i d rw0 hg
     cases hb : (IT.beq k0 (.un 14 (nbT d) o0) && (IT.beq kp0 (capT d) && (isB (lookB cs (.cmp .geq o0 (.lit 0))) true && isB (lookB cs (.cmp .leq o0 (nbT d))) true))) with
     | false => rw [hb] at h; cases h
     | true =>
      rw [hb] at h; cases h
      simp only [Bool.and_eq_true] at hb
      obtain ⟨hb0, hb3, hb1, hb2⟩ := hb
      obtain rfl := IT.beq_eq hb0
      obtain rfl := IT.beq_eq hb3
      obtain ⟨b', x, F, hN', hdx, hfam, _⟩ := hh.bigAt hg
      rw [hN] at hN'; cases hN'
      obtain ⟨ps, cap, rfl, hR⟩ := fam4_inv hfam
      obtain ⟨cur, fr, k1, kf, k2, k4, k5⟩ := hR.ex
      obtain ⟨oz, hoz⟩ : ∃ z, o0.den ρ = some z := by
       cases hq : o0.den ρ with
       | some z => exact ⟨z, rfl⟩
       | none =>
        have h1 := isB_ok hb1 hc
        simp only [BT.den, hq] at h1
        cases h1
      have h1 := isB_ok hb1 hc
      have h2 := isB_ok hb2 hc
      rw [cmpD hoz (litD 0)] at h1
      rw [cmpD hoz (nbD hdx)] at h2
      simp only [intCmp, Option.some.injEq, decide_eq_true_eq] at h1 h2
      obtain ⟨j, rfl⟩ : ∃ j : Nat, oz = (j : Int) := ⟨oz.toNat, by omega⟩
      have hle : j <= ps.length := by omega
      have hcap : (capT d).den ρ = some (cap : Int) := by
       rw [capT, unD hdx (litD 0)]
       show some ((decL _).getD ((0 : Int).toNat) 0) = _
       rw [decL_encL]; rfl
      have h13 : (IT.un 13 o0 (capT d)).den ρ = some ((if j = cap then 0 else j : Nat) : Int) := by
       rw [unD hoz hcap]
       show some (if ((j : Nat) : Int) = ((cap : Nat) : Int) then 0 else ((j : Nat) : Int)) = _
       by_cases e : j = cap
       · simp [e]
       · rw [if_neg (by omega), if_neg e]
      have hnn : n = ps.length - j := by
       have h4 := unD (k := 14) (nbD hdx) hoz
       have h5 : some (Int.ofNat n) = some (if ((j : Nat) : Int) <= ((ps.length : Nat) : Int) then ((ps.length : Nat) : Int) - ((j : Nat) : Int) else 0) := hn.symm.trans h4
       rw [if_pos (by omega)] at h5
       have h6 : ((n : Nat) : Int) = ((ps.length : Nat) : Int) - ((j : Nat) : Int) := Option.some.inj h5
       omega
      have hoo : o = (if j = cap then 0 else j) * 2 := by
       have h3 : (IT.elem (.lit (Int.ofNat 0)) 2 0 (.un 13 o0 (capT d))).den ρ = some ((0 + ((if j = cap then 0 else j) * 2 + 0) : Nat) : Int) := elemD (x := 0) rfl h13
       have h4 := Int.ofNat.inj (Option.some.inj (ho.symm.trans h3))
       omega
      subst hnn hoo
      refine ⟨ps.drop j, YLay.of (by rw [List.length_drop]) k1 ?_, by rw [hn, List.length_drop]; rfl⟩
      by_cases e : j = cap
      · have : ps.length - j = 0 := by omega
        rw [this, Nat.zero_mul, List.take_zero, List.drop_eq_nil_of_le (by omega)]
        rfl
      · rw [if_neg e]
        have := cellsB_slice ps j (ps.length - j)
        rw [List.take_of_length_le (l := ps.drop j) (by rw [List.length_drop]; exact Nat.le_refl _)] at this
        rw [<- this, <- k5, List.drop_take, List.take_take]
        congr 1
        omega
   · cases h
 · cases h
theorem hkAp_ok {ei : TypeInfo} {zv : Value} (hu : P.underlying t = some (.slice 112)) (hi : P.info? 112 = some ei) (hsz : ei.size = 2) (hby : ei.bytes ≠ 0 /\ ei.bytes <= 32) (hz : ∀ w, (zeroValue 112).run P w = .ok zv w) (hzs : zv.cells.size = 2) (hG : ∀ I B S V F, β.G I B S V F -> GRb I B S V F) : HookOk P β (hkAp t) := by
 intro o ev H nl cs ls ρ w f h he hh hc _
 unfold hkAp at h
 split at h
 rotate_left
 · cases h
 rename_i args tys ho
 split at h
 rotate_left
 · cases h
 rename_i x y t1 t2 hargs htys
 cases hb : (Nat.beq t1 t && Nat.beq t2 t) with
 | false => rw [hb] at h; cases h
 | true =>
  rw [hb] at h; simp only [cond_true] at h
  simp only [Bool.and_eq_true] at hb
  obtain rfl := Nat.eq_of_beq_eq_true hb.1
  obtain rfl := Nat.eq_of_beq_eq_true hb.2
  split at h
  rotate_left
  · cases h
  rename_i r n cp yv hx hy
  split at h
  rotate_left
  · cases h
  rename_i k hk
  split at h
  rotate_left
  · cases h
  rename_i b1 b2 hb1 hb2
  cases hle : Nat.ble (b1 + b2) 1000000000 with
  | false => rw [hle] at h; cases h
  | true =>
   rw [hle] at h; simp only [cond_true] at h
   have hle := Nat.le_of_ble_eq_true hle
   obtain ⟨ps2, hY, hk2⟩ := yAp_ok (P := P) hG hh hc hk (he y _ hy)
   obtain ⟨b, o0, m, c0, hfx, hN, ho0, hm, hcp⟩ := den_slice (he x _ hx)
   obtain rfl : o0 = 0 := (Int.ofNat.inj (Option.some.inj ho0)).symm
   have u1 := ubOf_ok hb1 hc hm
   have u2 := ubOf_ok hb2 hc hk2
   have u1 : m <= b1 := Int.ofNat_le.1 u1
   have u2 : ps2.length <= b2 := Int.ofNat_le.1 u2
   have ha : args.map f = #[f x, f y] := by apply Array.toList_inj.1; simp [hargs]
   have ht : tys = #[t2, t2] := by apply Array.toList_inj.1; simp [htys]
   subst ht
   have fin : (∃ x' w', (Builtin.append_ #[t2, t2] o.type #[.slice (some ⟨b, 0, none⟩) m c0, f y]).run P w = .ok x' w' /\ ∃ u H' nl' cs' ρ', Leaf.ret u H' nl' cs' ∈ apL r n k (b1 + b2) H nl cs /\ ρ.Le ρ' /\ u.den ρ' = some x' /\ HRel β ρ' H' nl' w' /\ CRel ρ' cs') ->
    ls = apL r n k (b1 + b2) H nl cs -> ∃ x w', ((execOp f o).run P w = .ok (.value x) w' ∨ ((execOp f o).run P w = .ok .skip w' /\ x = undef)) /\ ∃ u H' nl' cs' ρ', Leaf.ret u H' nl' cs' ∈ ls /\ ρ.Le ρ' /\ u.den ρ' = some x /\ HRel β ρ' H' nl' w' /\ CRel ρ' cs' := fun ⟨x', w', hrun, hrest⟩ e => by
    subst e
    exact ⟨x', w', .inl (by simp [execOp, ho, resolve, invoke, builtin, ha, hfx, hrun]), hrest⟩
   split at h
   · rename_i c hg
     cases hb : (IT.beq n (nbT c) && IT.beq cp (capT c)) with
     | false => rw [hb] at h; cases h
     | true =>
      rw [hb] at h; simp only [cond_true, Option.some.injEq] at h
      simp only [Bool.and_eq_true] at hb
      have e1 := IT.beq_eq hb.1
      have e2 := IT.beq_eq hb.2
      subst e1 e2
      exact fin (ap_core hu hi hsz hby hz hzs hG hh hg (fun _ _ _ g => g) hY hc hm hk2 hN hm hcp (by omega) hle o.type) h.symm
   · rename_i hg
     cases hb : (IT.beq n (.lit 0) && IT.beq cp (.lit 0)) with
     | false => rw [hb] at h; cases h
     | true =>
      rw [hb] at h; simp only [cond_true, Option.some.injEq] at h
      simp only [Bool.and_eq_true] at hb
      have e1 := IT.beq_eq hb.1
      have e2 := IT.beq_eq hb.2
      subst e1 e2
      obtain rfl : m = 0 := (Int.ofNat.inj (Option.some.inj hm)).symm
      obtain rfl : c0 = 0 := (Int.ofNat.inj (Option.some.inj hcp)).symm
      obtain ⟨b', ob, hN', hob, xs, c, fr, rfl, hxs, hpre, htl, hfr⟩ := hh.blk _ _ hg
      rw [hN] at hN'; cases hN'
      have hc0 : c.size = 0 := htl
      have hR : RefIn [] 0 w b (fun y => y = b) := ⟨⟨c, fr, hob, hfr rfl, Nat.le_refl _, hc0, rfl⟩, fun y => Iff.rfl⟩
      have hcd : (IT.lit (encL [((0 : Nat) : Int)])).den ρ = some (encL (((0 : Nat) : Int) :: ([] : Rb).map (·.1))) := rfl
      have h1 := hh.toBig (c := .lit (encL [((0 : Nat) : Int)])) (H' := Tr.setN (r + 1) r (some ⟨.big 4 (.lit (encL [((0 : Nat) : Int)])), true⟩) H) hg rfl hN (fam4 hR) (fun y => Iff.rfl) hcd (fun l1 k1 g => (Tr.get_setN _ _ _ _ _ _ g).imp (fun e => ⟨e.1, (Option.some.inj e.2).symm⟩) id)
      obtain ⟨g93, _⟩ := hG _ _ _ _ _ hh.g
      refine fin (ap_core hu hi hsz hby hz hzs hG h1 (c := .lit (encL [((0 : Nat) : Int)])) (Tr.get_setN_same _ _ _ _ (Nat.lt_succ_self _)) (fun l k' hne g => Tr.get_setN_other _ _ _ _ _ _ hne g (Nat.lt_succ_self _)) hY hc hm hk2 hN ?_ ?_ (by omega) hle o.type) h.symm
      · rw [nbT, fnD hcd (litD 0), g93]
        simp [fNb, decL_encL]
      · rw [capT, unD hcd (litD 0)]
        show some ((decL _).getD ((0 : Int).toNat) 0) = _
        rw [decL_encL]; rfl
   · cases h
end
end Go.Vm
end
section
namespace Go.Proofs.Ytighjgmgpphohaa
open Go.Vm Go.Vm.Le Go.Vm.Mb
namespace Rf
open Ar (iV uV pT)
def refV (L : AVal) : List AVal := [iV 200, iV 201, iV 202, iV 203, uV 204, uV 205, uV 206, uV 207, uV 208, uV 209, uV 210, uV 211, uV 212, L, iV 213, iV 214, iV 215, iV 216, iV 217, iV 218]
def Lb : AVal := .slice 4 (.lit 0) (nbT (.var 219)) (capT (.var 219))
def rwB (rw : Bool) : HB := ⟨.big 4 (.var 219), rw⟩
def hkU : OpF := orH (hkRb 32 false) (hkRb 112 true)
def refOf : List AVal -> Option AVal
 | [.int .i64 _, .int .i64 _, .int .i64 _, .int .i64 _, .int .u64 _, .int .u64 _, .int .u64 _, .int .u64 _, .int .u64 _, .int .u64 _, .int .u64 _, .int .u64 _, .int .u64 _, L, .int .i64 _, .int .i64 _, .int .i64 _, .int .i64 _, .int .i64 _, .int .i64 _] => some L
 | _ => none
def ubLe (cs : Cs) (n : IT) (B : Nat) : Bool := match ubOf cs n with
 | some b => Nat.ble b B
 | none => false
theorem ubLe_ok {cs : Cs} {n : IT} {B : Nat} {ρ : Env} {z : Int} (h : ubLe cs n B = true) (hc : CRel ρ cs) (hz : n.den ρ = some z) : z <= B := by
 unfold ubLe at h
 split at h
 · rename_i b hb
   have h1 := ubOf_ok hb hc hz
   have h2 := Nat.le_of_ble_eq_true h
   omega
 · cases h
def spUsedR : SpG := fun args H nl cs => match args with
 | [.agg vs] => match refOf vs with
  | some .sliceNil => some [.ret (.int .i64 (pT 0 nl)) H (nl + 1) cs]
  | some (.slice l (.lit (.ofNat 0)) n cp) => match H.get l with
   | some ⟨.big 4 c, _⟩ => cond (IT.beq n (nbT c) && (IT.beq cp (capT c) && ubLe cs n 1000000000)) (some [.ret (.int .i64 (pT 0 nl)) H (nl + 1) cs]) none
   | _ => none
  | _ => none
 | _ => none
def spHndR : SpG := fun args H nl cs => match args with
 | [.int .u64 _, .int .u64 _] => some [.ret (.int .u64 (pT 0 nl)) H (nl + 1) cs]
 | _ => none
def csU : Cs := [(.cmp .geq (.var 220) (.lit 0), true)]
def bxU (L : AVal) : HB := ⟨.cells (refV L) 55 none, true⟩
def tU : Tpl := ⟨[(1, .ptr 5 (.lit 0)), (3, iV 221), (7, Lb), (8, .int .i64 (nbT (.var 219))), (9, iV 220)], 20, [(4, rwB false), (5, bxU Lb)], 6, csU, 3⟩
def eU : List Tpl := [⟨[(0, iV 230)], 1, [], 20, [], 0⟩]
def gU : Gen := ⟨240, 9, 0, 8⟩
def spU : CallF := spLH [] hkU
def eH : List Tpl := [⟨[(0, uV 230)], 1, [], 20, [], 0⟩]
def spL : CallF := spLH [(59, spUsedR), (60, spHndR)] (orH hkU (orH (hkAp 53) (hkXLen 22)))
def rowW : HB := ⟨.arr (.code [.u64] (.var 222)) [.u64] 32 (.var 223) (.var 224) none, false⟩
def wW : AVal := .slice 1 (.var 224) (.var 223) (.nv 2)
def csW : Cs := [(.cmp .geq (.lit 0) (.lit 0), true), (.cmp .geq (.var 223) (.lit 1), true), (.cmp .leq (.var 223) (.lit 2048), true)]
def csF : Cs := (.cmp .eql (.var 223) (.lit 0), false) :: (.cmp .gtr (.var 223) (.lit 2048), false) :: csW
def csL : Cs := (.cmp .geq (.var 220) (.lit 0), true) :: (.cmp .leq (.lit 0) (.var 220), true) :: (.cmp .leq (.var 220) (nbT (.var 219)), true) :: (.cmp .leq (.var 220) (capT (.var 219)), true) :: (.cmp .leq (nbT (.var 219)) (.lit 1000000), true) ::
 (.cmp .leq (.var 220) (.lit 1000000), true) :: (.cmp .leq (.un 14 (nbT (.var 219)) (.var 220)) (.lit 1000000), true) :: csW
def bxZ : HB := ⟨.cells [.int .i64 (.lit 0), .int .i64 (.lit 0), .int .i64 (.lit 0), .int .i64 (.lit 0), .int .u64 (.lit 0), .int .u64 (.lit 0), .int .u64 (.lit 0), .int .u64 (.lit 0), .int .u64 (.lit 0), .int .u64 (.lit 0), .int .u64 (.lit 0), .int .u64 (.lit 0), .int .u64 (.lit 0), .sliceNil, .int .i64 (.lit 0), .int .i64 (.lit 0), .int .i64 (.lit 0), .int .i64 (.lit 0), .int .i64 (.lit 0), .int .i64 (.lit 0)] 55 none, true⟩
def tL : Tpl := ⟨[(1, wW), (2, .ptr 5 (.lit 0)), (4, .ptr 6 (.lit 0)), (5, .int .u64 (.lit 0)), (6, .int .i64 (.lit 0)), (7, iV 220)], 97, [(1, rowW), (4, rwB true), (5, bxU Lb), (6, bxZ)], 7, csL, 3⟩
def refW (L : AVal) : List AVal := [iV 230, iV 231, iV 232, iV 233, uV 234, uV 235, uV 236, uV 237, uV 238, uV 239, uV 240, uV 241, uV 242, L, iV 243, iV 244, iV 245, iV 246, iV 247, iV 248]
def Lw : AVal := .slice 4 (.lit 0) (nbT (.var 249)) (capT (.var 249))
def eL : List Tpl := [⟨[(0, .tuple [.agg (refW Lw), uV 250, iV 251])], 1, [(4, ⟨.big 4 (.var 249), true⟩)], 5, [], 0⟩, ⟨[(0, .tuple [.agg (refW .sliceNil), uV 250, iV 251])], 1, [], 5, [], 0⟩]
end Rf
end Go.Proofs.Ytighjgmgpphohaa
end
section
namespace Go.Proofs.Ytighjgmgpphohaa
open Go.Vm Go.Vm.Le Go.Vm.Mb
namespace Rf
open Ar (iV uV pT)
def refVals (g : Nat -> Int) (L : Value) : List Value := [.int .i64 (g 0), .int .i64 (g 1), .int .i64 (g 2), .int .i64 (g 3), .int .u64 (g 4), .int .u64 (g 5), .int .u64 (g 6), .int .u64 (g 7), .int .u64 (g 8), .int .u64 (g 9), .int .u64 (g 10), .int .u64 (g 11), .int .u64 (g 12), L, .int .i64 (g 13), .int .i64 (g 14), .int .i64 (g 15), .int .i64 (g 16), .int .i64 (g 17), .int .i64 (g 18)]
theorem denL_cons {ρ : Env} {a : AVal} {l : List AVal} {xs : List Value} (h : AVal.denL ρ (a :: l) = some xs) : ∃ x r, a.den ρ = some x /\ AVal.denL ρ l = some r /\ xs = x :: r := by
 simp only [AVal.denL] at h
 split at h
 · rename_i x r h1 h2
   exact ⟨x, r, h1, h2, (Option.some.inj h).symm⟩
 · cases h
theorem refOf_den {ρ : Env} {vs : List AVal} {L : AVal} {xs : List Value} (ho : refOf vs = some L) (h : AVal.denL ρ vs = some xs) : ∃ g v, L.den ρ = some v /\ xs = refVals g v := by
 unfold refOf at ho
 split at ho
 · cases ho
   obtain ⟨x0, r0, e0, r0h, rfl⟩ := denL_cons h
   obtain ⟨x1, r1, e1, r1h, rfl⟩ := denL_cons r0h
   obtain ⟨x2, r2, e2, r2h, rfl⟩ := denL_cons r1h
   obtain ⟨x3, r3, e3, r3h, rfl⟩ := denL_cons r2h
   obtain ⟨x4, r4, e4, r4h, rfl⟩ := denL_cons r3h
   obtain ⟨x5, r5, e5, r5h, rfl⟩ := denL_cons r4h
   obtain ⟨x6, r6, e6, r6h, rfl⟩ := denL_cons r5h
   obtain ⟨x7, r7, e7, r7h, rfl⟩ := denL_cons r6h
   obtain ⟨x8, r8, e8, r8h, rfl⟩ := denL_cons r7h
   obtain ⟨x9, r9, e9, r9h, rfl⟩ := denL_cons r8h
   obtain ⟨x10, r10, e10, r10h, rfl⟩ := denL_cons r9h
   obtain ⟨x11, r11, e11, r11h, rfl⟩ := denL_cons r10h
   obtain ⟨x12, r12, e12, r12h, rfl⟩ := denL_cons r11h
   obtain ⟨x13, r13, e13, r13h, rfl⟩ := denL_cons r12h
   obtain ⟨x14, r14, e14, r14h, rfl⟩ := denL_cons r13h
   obtain ⟨x15, r15, e15, r15h, rfl⟩ := denL_cons r14h
   obtain ⟨x16, r16, e16, r16h, rfl⟩ := denL_cons r15h
   obtain ⟨x17, r17, e17, r17h, rfl⟩ := denL_cons r16h
   obtain ⟨x18, r18, e18, r18h, rfl⟩ := denL_cons r17h
   obtain ⟨x19, r19, e19, r19h, rfl⟩ := denL_cons r18h
   obtain ⟨z0, rfl, _⟩ := den_int e0
   obtain ⟨z1, rfl, _⟩ := den_int e1
   obtain ⟨z2, rfl, _⟩ := den_int e2
   obtain ⟨z3, rfl, _⟩ := den_int e3
   obtain ⟨z4, rfl, _⟩ := den_int e4
   obtain ⟨z5, rfl, _⟩ := den_int e5
   obtain ⟨z6, rfl, _⟩ := den_int e6
   obtain ⟨z7, rfl, _⟩ := den_int e7
   obtain ⟨z8, rfl, _⟩ := den_int e8
   obtain ⟨z9, rfl, _⟩ := den_int e9
   obtain ⟨z10, rfl, _⟩ := den_int e10
   obtain ⟨z11, rfl, _⟩ := den_int e11
   obtain ⟨z12, rfl, _⟩ := den_int e12
   obtain ⟨z14, rfl, _⟩ := den_int e14
   obtain ⟨z15, rfl, _⟩ := den_int e15
   obtain ⟨z16, rfl, _⟩ := den_int e16
   obtain ⟨z17, rfl, _⟩ := den_int e17
   obtain ⟨z18, rfl, _⟩ := den_int e18
   obtain ⟨z19, rfl, _⟩ := den_int e19
   cases r19h
   exact ⟨fun i => ([z0, z1, z2, z3, z4, z5, z6, z7, z8, z9, z10, z11, z12, z14, z15, z16, z17, z18, z19] : List Int).getD i 0, x13, e13, rfl⟩
 · cases ho
theorem refV_den {ρ : Env} {L : AVal} {v : Value} (h : L.den ρ = some v) : (AVal.agg (refV L)).den ρ = some (.agg (refVals (fun i => ρ.I (200 + i)) v).toArray) := by
 simp only [refV, refVals, iV, uV, AVal.den, AVal.denL, IT.den, h, Option.map_some]
def FR : Nat -> Int -> Int -> Int := fun k => if k = 93 then fNb else if k = 94 then fHb else fun _ _ => 0
theorem FR_ok {I : Nat -> Int} {B : Nat -> Bool} {S : Nat -> ByteArray} {V : Nat -> Value} : GRb I B S V FR := ⟨rfl, rfl⟩
theorem und32 : Try.prog.underlying 32 = some (.int .u64) := by kernel_rfl
noncomputable def fs112 : Array Field := match Try.prog.underlying 112 with
 | some (.struct fs) => fs
 | _ => #[]
theorem und112 : Try.prog.underlying 112 = some (.struct fs112) := by kernel_rfl
theorem inf112 : (Try.prog.info? 112).map (·.size) = some 2 := by kernel_rfl
theorem hkU_ok {β : Base} (hG : ∀ I B S V F, β.G I B S V F -> GRb I B S V F) : HookOk Try.prog β hkU := orH_ok (hkRbH_ok und32 hG) (hkRbE_ok und112 inf112 hG)
def envU (g : Nat -> Int) (X : Int) (b : Nat) : Env := ⟨fun i => if i = 219 then X else if i = 220 then 0 else g (i - 200), fun _ => false, fun _ => default, fun _ => undef, fun i => if i = 4 then some b else none, FR⟩
theorem refVals_congr {g g' : Nat -> Int} (h : ∀ i, i < 19 -> g i = g' i) (v : Value) : refVals g v = refVals g' v := by
 simp only [refVals]
 rw [h 0 (by decide), h 1 (by decide), h 2 (by decide), h 3 (by decide), h 4 (by decide), h 5 (by decide), h 6 (by decide), h 7 (by decide), h 8 (by decide), h 9 (by decide), h 10 (by decide), h 11 (by decide), h 12 (by decide), h 13 (by decide), h 14 (by decide), h 15 (by decide), h 16 (by decide), h 17 (by decide), h 18 (by decide)]
theorem start_U {ps : Rb} {cap : Nat} {w : World} {b : Nat} {F : Nat -> Prop} (h : RefIn ps cap w b F) (g : Nat -> Int) : HRel ⟨w, noO, GRb⟩ (envU g (encL (((cap : Nat) : Int) :: ps.map (·.1))) b) (ofP [(4, rwB false)]) 5 w := by
 obtain ⟨cur, fr, hb, _⟩ := h.ex
 refine HRel.ownedB [(4, rwB false)] (fun p hp => ?_) (fun p hp q hq e => ?_) (fun p hp e => ?_) (fun i hi => ?_) FR_ok ⟨fun _ => F, fun l k c rw hl => ?_, fun l l' k c rw h' hl hl' hne => ?_⟩
 · rw [List.mem_singleton.1 hp]
   exact ⟨b, _, rfl, hb, _, rfl⟩
 · rw [List.mem_singleton.1 hp] at e; cases e
 · rw [List.mem_singleton.1 hp] at e; cases e
 · show (if i = 4 then some b else none) = none
   rw [if_neg (by omega)]
 · have e := List.mem_singleton.1 (ofP_mem hl)
   cases e
   exact ⟨b, _, rfl, rfl, fam4 h, fun e => by cases e⟩
 · have e := List.mem_singleton.1 (ofP_mem hl)
   have e' := List.mem_singleton.1 (ofP_mem hl')
   cases e; cases e'
   exact absurd rfl hne
end Rf
end Go.Proofs.Ytighjgmgpphohaa
end
