/- A machine for abstract states over the model (part 35): a range over a map of blocks that is only read. -/
import Derived.Test.YtighjgmgpphohaaAr2
import Derived.Maps.RangeRun
import Derived.Test.YtighjgmgpphohaaAr6
section
namespace Go.Vm
open Mb Le
abbrev Kb := List (Int × Int)
def kbOf (m : Array MapEntry) : Kb := m.toList.map fun e => ((e.born : Int), match e.key with
 | .int _ k => k
 | _ => 0)
def getK (kb : Kb) (z : Int) : Int := ((kb.find? fun p => p.1 == z).map (·.2)).getD 0
def fKey (kb : Kb) (z _ : Int) : Int := getK kb z
def fOk (kb : Kb) (c z : Int) : Int := if kb.any (fun p => p.1 == z) && !((decL c).drop 3).contains z then 1 else 0
def fAll (kb : Kb) (c _ : Int) : Int := if kb.all (fun p => ((decL c).drop 3).contains p.1) then 1 else 0
def fPre (bm cl : Nat) (c _ : Int) : Int := if (decL c).take 3 = [(bm : Int), (cl : Int), (cl : Int)] then 1 else 0
def GRg (bm cl : Nat) (kb : Kb) : GP := fun _ _ _ _ F => F 66 = fKey kb /\ F 67 = fOk kb /\ F 68 = fAll kb /\ F 69 = fPre bm cl
structure Fr (β : Base) (v ci si : Nat) where
 bm : Nat
 es : Es
 F : Nat -> Prop
 m : Array MapEntry
 cl : Nat
 bl : BlksIn es β.w0 bm F
 no : ∀ y, F y -> ¬ β.own y
 at0 : β.w0.heap[bm]? = some (.map m cl)
 pin : ∀ I B S V F', β.G I B S V F' -> V v = .map (some bm) /\ I ci = codeE es /\ I si = encL [(bm : Int), (cl : Int), (cl : Int)] /\ GRg bm cl (kbOf m) I B S V F' /\ GMb I B S V F'
theorem Fr.fz {β : Base} {v ci si : Nat} (r : Fr β v ci si) : Fz β v ci := ⟨r.bm, r.es, r.es, r.F, r.bl, List.Perm.refl _, r.no, fun I B S V F' h => ⟨(r.pin I B S V F' h).1, (r.pin I B S V F' h).2.1⟩⟩
def preT (c : IT) : BT := .cmp .eql (.fn 69 c (.lit 0)) (.lit 1)
def okT (c z : IT) : BT := .cmp .eql (.fn 67 c z) (.lit 1)
def allT (c : IT) : BT := .cmp .eql (.fn 68 c (.lit 0)) (.lit 1)
def keyT (z : IT) : IT := .fn 66 z (.lit 0)
def hkRange (t : TypeId) (v si : Nat) : OpF := fun o ev H nl cs => match o with
 | .range t' x => cond (Nat.beq t' t) (match ev x with
  | some (.var v') => cond (Nat.beq v' v) (some [.ret (.ptr nl (.lit 0)) (H.set nl ⟨.big 3 (.var si), true⟩) (nl + 1) cs]) none
  | _ => none) none
 | _ => none
def nxNo (c : IT) (H : Heap) (nl : Nat) (cs : Cs) : Leaf := .ret (.tuple [.bool (.lit false)]) H nl ((allT c, true) :: cs)
def nxYes (r : Nat) (ci : Nat) (c : IT) (H : Heap) (nl : Nat) (cs : Cs) : Leaf :=
 .ret (.tuple [.bool (.lit true), .int .i64 (keyT (.nv nl)), .agg [.int .u64 (.fn 61 (.var ci) (keyT (.nv nl))), .slice (nl + 1) (.lit 0) (.fn 62 (.var ci) (keyT (.nv nl))) (.nv (nl + 2))]]) (H.set r ⟨.big 3 (.un 3 c (.nv nl)), true⟩) (nl + 3) ((okT c (.nv nl), true) :: (.cmp .geq (.nv nl) (.lit 0), true) :: (allT c, false) :: cs)
def hkNext (ci : Nat) : OpF := fun o ev H nl cs => match o with
 | .next x false => match ev x with
  | some (.ptr r (.lit (.ofNat 0))) => match H.get r with
   | some ⟨.big 3 c, true⟩ => cond (isB (lookB cs (preT c)) true) (some [nxNo c H nl cs, nxYes r ci c H nl cs]) none
   | _ => none
  | _ => none
 | _ => none
def enLeaf (ci : Nat) (z : IT) (H : Heap) (nl : Nat) (cs : Cs) : Leaf :=
 .ret (.tuple [.int .i64 (keyT z), .agg [.int .u64 (.fn 61 (.var ci) (keyT z)), .slice (nl + 1) (.lit 0) (.fn 62 (.var ci) (keyT z)) (.nv nl)]]) (H.set (nl + 1) ⟨rowB (.var ci) (keyT z) nl, false⟩) (nl + 2)
  ((.cmp .eql (.fn 62 (.var ci) (keyT z)) (.lit 0), false) :: (.cmp .gtr (.fn 62 (.var ci) (keyT z)) (.lit 2048), false) :: (.cmp .geq (.fn 62 (.var ci) (keyT z)) (.lit 1), true) :: (.cmp .leq (.fn 62 (.var ci) (keyT z)) (.lit 1000000), true) :: (hasT (.var ci) (keyT z), true) :: cs)
def hkEntry (ci : Nat) : OpF := fun o ev H nl cs => match o with
 | .entry x => match ev x with
  | some (.ptr r (.lit (.ofNat 0))) => match H.get r with
   | some ⟨.big 3 (.un 3 c (.nv j)), true⟩ => cond ((isB (lookB cs (preT c)) true && isB (lookB cs (okT c (.nv j))) true) && bigsRw H) (some [enLeaf ci (.nv j) H nl cs]) none
   | _ => none
  | _ => none
 | _ => none
section
variable {P : Program} {β : Base} {t kt et : TypeId} {ρ : Env}
theorem un_inv {k : Nat} {a b : IT} {v : Int} (h : (IT.un k a b).den ρ = some v) : ∃ x y, a.den ρ = some x /\ b.den ρ = some y /\ v = univ k x y := by
 cases ha : a.den ρ with
 | none => simp only [IT.den, ha] at h; cases h
 | some x => cases hb : b.den ρ with
  | none => simp only [IT.den, ha, hb] at h; cases h
  | some y => exact ⟨x, y, rfl, rfl, (Option.some.inj ((unD ha hb).symm.trans h)).symm⟩
theorem encL_inj {a b : List Int} (h : encL a = encL b) : a = b := by
 have := congrArg decL h
 rwa [decL_encL, decL_encL] at this
theorem hkRange_ok (hu : P.underlying t = some (.map kt et)) {v ci si : Nat} (R : Fr β v ci si) : HookOk P β (hkRange t v si) := by
 intro o ev H nl cs ls ρ w f h he hh hc _
 unfold hkRange at h
 split at h
 rotate_left
 · cases h
 rename_i t' xo ho
 cases hb : Nat.beq t' t with
 | false => rw [hb] at h; cases h
 | true =>
  rw [hb] at h; simp only [cond_true] at h
  obtain rfl := Nat.eq_of_beq_eq_true hb
  split at h
  rotate_left
  · cases h
  rename_i v' hm
  cases hv : Nat.beq v' v with
  | false => rw [hv] at h; cases h
  | true =>
   rw [hv] at h; simp only [cond_true, Option.some.injEq] at h
   obtain rfl := Nat.eq_of_beq_eq_true hv
   subst h
   obtain ⟨hV, _, hI, _⟩ := R.pin _ _ _ _ _ hh.g
   have hfm : f xo = .map (some R.bm) := by
    have := he xo _ hm
    simp only [AVal.den, Option.some.injEq] at this
    rw [<- this, hV]
   have hg : w.heap[R.bm]? = some (.map R.m R.cl) := by rw [hh.frame _ (R.bl.lt R.bl.root) (R.no _ R.bl.root)]; exact R.at0
   have hrun := run_range_map (P := P) w t' kt et R.bm R.m R.cl hu hg
   have hsame : ∀ y, y < w.heap.size -> (w.alloc (.mapIter (some R.bm) R.cl #[] R.cl)).heap[y]? = w.heap[y]? := fun y hy => heap_alloc_old w _ hy
   have hnew := heap_alloc_new w (.mapIter (some R.bm) R.cl #[] R.cl)
   have hfr : Framed w (w.alloc (.mapIter (some R.bm) R.cl #[] R.cl)) := ⟨by show w.heap.size <= (w.heap.push _).size; rw [Array.size_push]; exact Nat.le_succ _, hsame, rfl, rfl, rfl⟩
   have hit : IterIn [(R.bm : Int), (R.cl : Int), (R.cl : Int)] (w.alloc (.mapIter (some R.bm) R.cl #[] R.cl)) w.heap.size (fun y => y = w.heap.size) := ⟨⟨R.bm, R.cl, R.cl, #[], hnew, rfl⟩, fun _ => Iff.rfl⟩
   have hr := hh.bigNew hfr (c := .var si) (fam3 hit) (fun y hy => by rw [hy]; exact Nat.le_refl _) (congrArg some hI)
   have hrun' : (Instr.range t' (f xo)).run P w = .ok (.pointer (some ⟨w.heap.size, 0, none⟩)) (w.alloc (.mapIter (some R.bm) R.cl #[] R.cl)) := by rw [hfm]; exact hrun
   have hle : ρ.Le (ρ.put nl w.heap.size) := Env.le_put (hh.fresh nl (Nat.le_refl _))
   exact ⟨.pointer (some ⟨w.heap.size, 0, none⟩), _, .inl (by simp [execOp, ho, hrun']), .ptr nl (.lit 0), _, _, cs, _, List.mem_cons_self, hle, by simp only [AVal.den, Env.put_same]; rfl, hr, hc.mono hle⟩
theorem kv_at {m : List MapEntry} {l : Kvs} (h : m.map kvOf = l.map kvI) {e : MapEntry} (he : e ∈ m) : ∃ k v, (k, v) ∈ l /\ e.key = .int .i64 k /\ e.val = v := by
 have h1 : kvOf e ∈ l.map kvI := h ▸ List.mem_map.2 ⟨e, he, rfl⟩
 obtain ⟨p, hp, hk⟩ := List.mem_map.1 h1
 simp only [kvI, kvOf, Prod.mk.injEq] at hk
 exact ⟨p.1, p.2, hp, hk.1.symm, hk.2.symm⟩
theorem getK_at {m : Array MapEntry} {cl : Nat} (hb : BornM m cl) {e : MapEntry} (he : e ∈ m.toList) {k : Int} (hk : e.key = .int .i64 k) : getK (kbOf m) (e.born : Int) = k := by
 unfold getK kbOf
 have key : ∀ {l : List MapEntry}, (l.map (·.born)).Nodup -> e ∈ l -> (((l.map fun e => ((e.born : Int), match e.key with
  | .int _ k => k
  | _ => 0)).find? fun p => p.1 == (e.born : Int)).map (·.2)).getD 0 = k := by
  intro l hn hm
  induction l with
  | nil => cases hm
  | cons a r ih =>
   simp only [List.map_cons, List.nodup_cons] at hn
   by_cases hab : a.born = e.born
   · have : a = e := by
      rcases List.mem_cons.1 hm with h | h
      · exact h.symm
      · exact absurd (by rw [hab]; exact List.mem_map.2 ⟨e, h, rfl⟩) hn.1
     subst this
     simp only [List.map_cons, List.find?_cons, beq_self_eq_true, Option.map_some, Option.getD_some, hk]
   · have hne : ((a.born : Int) == (e.born : Int)) = false := by
      rw [beq_eq_false_iff_ne]; intro h; exact hab (Int.ofNat.inj h)
     simp only [List.map_cons, List.find?_cons, hne]
     exact ih hn.2 ((List.mem_cons.1 hm).resolve_left fun h => hab (by rw [h]))
 exact key hb.2 he
theorem Fr.entry {v ci si : Nat} (R : Fr β v ci si) {e : MapEntry} (he : e ∈ R.m.toList) : ∃ k L y0 c o, getK (kbOf R.m) (e.born : Int) = k /\ e.key = .int .i64 k /\ getE R.es k = some L /\ e.val = blkV L y0 c /\ R.F y0 /\ β.w0.heap[y0]? = some o /\ RowM L.tail c o /\ 1 <= L.tail.length /\ L.tail.length <= 2048 := by
 obtain ⟨hn, hsm, m, cl, ad, cap, h1, hb, hm, h2, h3, hF⟩ := R.bl
 obtain ⟨rfl, rfl⟩ : m = R.m /\ cl = R.cl := by
  have := h1.symm.trans R.at0
  simp only [Option.some.injEq, Obj.map.injEq] at this
  exact this
 have hlist : R.m.toList.map kvOf = (R.es.map (valB ad cap)).map kvI := hm
 obtain ⟨k, v, hkv, hek, hev⟩ := kv_at hlist he
 obtain ⟨p, hp, hpe⟩ := List.mem_map.1 hkv
 simp only [valB, Prod.mk.injEq] at hpe
 obtain ⟨rfl, rfl⟩ := hpe
 obtain ⟨_, o, ho, hr⟩ := h2 p hp
 have hg : getE R.es p.1 = some p.2 := by
  cases hq : getE R.es p.1 with
  | none => exact absurd rfl (getE_none hq p hp)
  | some L =>
   have h5 := getE_mem hq
   congr 1
   have aux : ∀ {es : Es} {k : Int} {L M : List Int}, (es.map (·.1)).Nodup -> (k, L) ∈ es -> (k, M) ∈ es -> L = M := fun {es k L M} hn h1 h2 => by
    induction es with
    | nil => cases h1
    | cons x r ih =>
     simp only [List.map_cons, List.nodup_cons] at hn
     rcases List.mem_cons.1 h1 with e1 | h1
     · rcases List.mem_cons.1 h2 with e2 | h2
       · rw [<- e1] at e2; exact (Prod.mk.inj e2).2.symm
       · exact absurd (by rw [<- e1]; exact List.mem_map.2 ⟨_, h2, rfl⟩) hn.1
     · rcases List.mem_cons.1 h2 with e2 | h2
       · exact absurd (by rw [<- e2]; exact List.mem_map.2 ⟨_, h1, rfl⟩) hn.1
       · exact ih hn.2 h1 h2
   exact aux hn h5 hp
 have hs := hsm p hp
 exact ⟨p.1, p.2, ad p.1, cap p.1, o, getK_at hb he hek, hek, hg, hev, (hF _).2 (.inr ⟨p, hp, rfl⟩), ho, hr, hs.1, hs.2⟩
theorem isB_den {c : IT} {cs : Cs} {x : Int} {k : Nat} {g : Int -> Int -> Int} {z : IT} {y : Int} (h : isB (lookB cs (.cmp .eql (.fn k c z) (.lit 1))) true = true) (hc : CRel ρ cs) (hx : c.den ρ = some x) (hy : z.den ρ = some y) (hF : ρ.F k = g) : g x y = 1 := by
 have h1 := isB_ok h hc
 have e1 : (IT.fn k c z).den ρ = some (g x y) := by rw [fnD hx hy, hF]
 rw [cmpD e1 (litD 1)] at h1
 simpa [intCmp] using h1
theorem pre_inv {bm cl : Nat} {x : Int} (h : fPre bm cl x 0 = 1) : (decL x).take 3 = [(bm : Int), (cl : Int), (cl : Int)] := by
 unfold fPre at h
 split at h
 · assumption
 · cases h
theorem iter_at {v ci si : Nat} (R : Fr β v ci si) {x : Int} {w : World} {b : Nat} {F : Nat -> Prop} (hf : fam 3 x w b F) (hp : fPre R.bm R.cl x 0 = 1) : ∃ sn : Array Nat, w.heap[b]? = some (.mapIter (some R.bm) R.cl sn R.cl) /\ x = encL ((R.bm : Int) :: (R.cl : Int) :: (R.cl : Int) :: sn.toList.map Int.ofNat) /\ ∀ y, F y ↔ y = b := by
 obtain ⟨l, rfl, ⟨⟨bm, since, cl, sn, h1, rfl⟩, hF⟩⟩ := fam3_inv hf
 have h2 := pre_inv hp
 rw [decL_encL] at h2
 simp only [List.take_succ_cons, List.take_zero, List.cons.injEq, and_true] at h2
 obtain ⟨e1, e2, e3⟩ := h2
 obtain rfl := Int.ofNat.inj e1
 obtain rfl := Int.ofNat.inj e2
 obtain rfl : cl = R.cl := Int.ofNat.inj e3
 exact ⟨sn, h1, rfl, hF⟩
theorem born_in {m : Array MapEntry} {z : Int} (h : (kbOf m).any (fun p => p.1 == z) = true) : ∃ e ∈ m.toList, (e.born : Int) = z := by
 obtain ⟨p, hp, hz⟩ := List.any_eq_true.1 h
 obtain ⟨e, he, rfl⟩ := List.mem_map.1 hp
 exact ⟨e, he, by simpa using hz⟩
theorem mem_left2 {m : Array MapEntry} {sn : Array Nat} {e : MapEntry} (h : e ∈ (Go.leftOf m sn).toList) : e ∈ m.toList /\ sn.contains e.born = false := by
 unfold Go.leftOf at h
 rw [Array.toList_filter] at h
 have := List.mem_filter.1 h
 exact ⟨this.1, by simpa using this.2⟩
theorem seen_iff {sn : Array Nat} {n : Nat} : (sn.toList.map Int.ofNat).contains (n : Int) = sn.contains n := by
 rw [Bool.eq_iff_iff, List.contains_iff_mem, Array.contains_iff_mem, <- Array.mem_toList_iff]
 constructor
 · intro h
   obtain ⟨k, hk, e⟩ := List.mem_map.1 h
   have : k = n := Int.ofNat.inj e
   rw [<- this]; exact hk
 · intro h
   exact List.mem_map.2 ⟨n, h, rfl⟩
theorem hkNext_ok {v ci si : Nat} (R : Fr β v ci si) : HookOk P β (hkNext ci) := by
 intro o ev H nl cs ls ρ w f h he hh hc _
 unfold hkNext at h
 split at h
 rotate_left
 · cases h
 rename_i xo ho
 split at h
 rotate_left
 · cases h
 rename_i r hx
 split at h
 rotate_left
 · cases h
 rename_i c hl
 cases hb : isB (lookB cs (preT c)) true with
 | false => rw [hb] at h; cases h
 | true =>
  rw [hb] at h; simp only [cond_true, Option.some.injEq] at h
  subst h
  obtain ⟨_, hI, _, ⟨g66, g67, g68, g69⟩, ⟨_, g61, g62, _⟩⟩ := R.pin _ _ _ _ _ hh.g
  obtain ⟨bi, hfx, hNr⟩ := den_ptr0 (he xo _ hx)
  obtain ⟨b', x, F3, hN', hcx, hfam, _⟩ := hh.bigAt hl
  rw [hNr] at hN'; cases hN'
  obtain ⟨sn, hgi, rfl, hF3⟩ := iter_at R hfam (isB_den hb hc hcx (litD 0) g69)
  have hgm : w.heap[R.bm]? = some (.map R.m R.cl) := by rw [hh.frame _ (R.bl.lt R.bl.root) (R.no _ R.bl.root)]; exact R.at0
  have hold : ∀ x ∈ R.m.toList, x.born < R.cl := by
   obtain ⟨_, _, m, cl, _, _, h1, hb, _⟩ := R.bl
   have := h1.symm.trans R.at0
   simp only [Option.some.injEq, Obj.map.injEq] at this
   rw [<- this.1, <- this.2]; exact hb.1
  have hdr : (decL (encL ((R.bm : Int) :: (R.cl : Int) :: (R.cl : Int) :: sn.toList.map Int.ofNat))).drop 3 = sn.toList.map Int.ofNat := by rw [decL_encL]; rfl
  have hAll : (allT c).den ρ = some (fAll (kbOf R.m) (encL ((R.bm : Int) :: (R.cl : Int) :: (R.cl : Int) :: sn.toList.map Int.ofNat)) 0 == 1) := by
   have e1 : (IT.fn 68 c (.lit 0)).den ρ = some (fAll (kbOf R.m) (encL ((R.bm : Int) :: (R.cl : Int) :: (R.cl : Int) :: sn.toList.map Int.ofNat)) 0) := by rw [fnD hcx (litD 0), g68]
   unfold allT
   rw [cmpD e1 (litD 1)]
   rfl
  rcases run_next_at (P := P) w o.type bi R.bm R.cl R.cl sn R.m R.cl hgi hgm hold (Nat.le_refl _) with ⟨h0, hrun⟩ | ⟨e, hel, w1, hw1, hrun⟩
  · have hf : (allT c).den ρ = some true := by
     rw [hAll]
     have : ((kbOf R.m).all fun p => ((decL (encL ((R.bm : Int) :: (R.cl : Int) :: (R.cl : Int) :: sn.toList.map Int.ofNat))).drop 3).contains p.1) = true := by
      rw [hdr]
      refine List.all_eq_true.2 fun p hp => ?_
      obtain ⟨e, hem, rfl⟩ := List.mem_map.1 hp
      show (sn.toList.map Int.ofNat).contains (e.born : Int) = true
      rw [seen_iff]
      cases hcn : sn.contains e.born with
      | true => rfl
      | false =>
       exfalso
       have hin : e ∈ (Go.leftOf R.m sn).toList := by
        unfold Go.leftOf
        rw [Array.toList_filter]
        exact List.mem_filter.2 ⟨hem, by rw [hcn]; rfl⟩
       have := List.length_pos_of_mem hin
       rw [Array.length_toList, h0] at this
       exact absurd this (Nat.lt_irrefl _)
     unfold fAll
     rw [if_pos this]
     rfl
    have hrun' : (Instr.next (f xo) false o.type).run P w = .ok (.tuple #[.bool false]) w := by rw [hfx]; exact hrun
    exact ⟨.tuple #[.bool false], w, .inl (by simp [execOp, ho, hrun']), _, _, _, _, ρ, List.mem_cons_self, Env.Le.refl ρ, rfl, hh, c1 hf hc⟩
  · obtain ⟨hem, hcn⟩ := mem_left2 hel
    obtain ⟨k, L, y0, cp, ob, hgk, hek, hgE, hev, hFy, _, _, hL1, hL2⟩ := R.entry hem
    have hf : (allT c).den ρ = some false := by
     rw [hAll]
     have : ((kbOf R.m).all fun p => ((decL (encL ((R.bm : Int) :: (R.cl : Int) :: (R.cl : Int) :: sn.toList.map Int.ofNat))).drop 3).contains p.1) = false := by
      rw [hdr, Bool.eq_false_iff]
      intro hq
      have := List.all_eq_true.1 hq _ (List.mem_map.2 ⟨e, hem, rfl⟩)
      have h2 : (sn.toList.map Int.ofNat).contains (e.born : Int) = true := this
      rw [seen_iff, hcn] at h2; cases h2
     unfold fAll
     rw [if_neg (by rw [this]; exact Bool.false_ne_true)]
     rfl
    have q1 := hh.num e.born
    have q2 := q1.num y0
    have q3 := q2.num cp
    have l1 : ρ.Le (ρ.put nl e.born) := Env.le_put (hh.fresh nl (Nat.le_refl _))
    have l2 : (ρ.put nl e.born).Le ((ρ.put nl e.born).put (nl + 1) y0) := Env.le_put (q1.fresh (nl + 1) (Nat.le_refl _))
    have l3 : ((ρ.put nl e.born).put (nl + 1) y0).Le (((ρ.put nl e.born).put (nl + 1) y0).put (nl + 2) cp) := Env.le_put (q2.fresh (nl + 2) (Nat.le_refl _))
    have hle := (l1.trans l2).trans l3
    obtain ⟨ρ3, hρ3⟩ : ∃ ρ3, ρ3 = ((ρ.put nl e.born).put (nl + 1) y0).put (nl + 2) cp := ⟨_, rfl⟩
    have n0 : ρ3.N nl = some e.born := by rw [hρ3]; exact l3.n _ _ (l2.n _ _ (Env.put_same ..))
    have n1 : ρ3.N (nl + 1) = some y0 := by rw [hρ3]; exact l3.n _ _ (Env.put_same ..)
    have n2 : ρ3.N (nl + 2) = some cp := by rw [hρ3]; exact Env.put_same ..
    rw [<- hρ3] at hle q3
    have hcx3 := IT.den_mono hle hcx
    have hci3 : (IT.var ci).den ρ3 = some (codeE R.es) := IT.den_mono hle (congrArg some hI)
    have ek : (keyT (.nv nl)).den ρ3 = some k := by
     rw [keyT, fnD (nvD n0) (litD 0), hle.f, g66]
     exact congrArg some hgk
    have e61 : (IT.fn 61 (.var ci) (keyT (.nv nl))).den ρ3 = some (L.headD 0) := by
     rw [fnD hci3 ek, hle.f, g61]; simp [fHnd, esOf_code, hgE]
    have e62 : (IT.fn 62 (.var ci) (keyT (.nv nl))).den ρ3 = some (L.tail.length : Int) := by
     rw [fnD hci3 ek, hle.f, g62]; simp [fLen, esOf_code, hgE]
    have hok : (okT c (.nv nl)).den ρ3 = some true := by
     have e1 : (IT.fn 67 c (.nv nl)).den ρ3 = some (fOk (kbOf R.m) (encL ((R.bm : Int) :: (R.cl : Int) :: (R.cl : Int) :: sn.toList.map Int.ofNat)) (e.born : Int)) := by rw [fnD hcx3 (nvD n0), hle.f, g67]
     have h1 : ((kbOf R.m).any (fun p => p.1 == (e.born : Int))) = true := List.any_eq_true.2 ⟨_, List.mem_map.2 ⟨e, hem, rfl⟩, by simp⟩
     have h2 : (sn.toList.map Int.ofNat).contains (e.born : Int) = false := by rw [seen_iff]; exact hcn
     have e2 : fOk (kbOf R.m) (encL ((R.bm : Int) :: (R.cl : Int) :: (R.cl : Int) :: sn.toList.map Int.ofNat)) (e.born : Int) = 1 := by
      unfold fOk
      rw [hdr, h1, h2]; rfl
     unfold okT
     rw [cmpD e1 (litD 1), e2]
     rfl
    have hc3 : (IT.un 3 c (.nv nl)).den ρ3 = some (encL ((R.bm : Int) :: (R.cl : Int) :: (R.cl : Int) :: (sn.push e.born).toList.map Int.ofNat)) := by
     rw [unD hcx3 (nvD n0)]
     show some (encL (decL (encL ((R.bm : Int) :: (R.cl : Int) :: (R.cl : Int) :: sn.toList.map Int.ofNat)) ++ [(e.born : Int)])) = _
     rw [decL_encL, Array.toList_push, List.map_append]; rfl
    obtain ⟨w', hw'⟩ : ∃ w', w' = Go.ChangeMaps.setBlock w1 bi (.mapIter (some R.bm) R.cl (sn.push e.born) R.cl) := ⟨_, rfl⟩
    have hh1 : w1.heap = w.heap := by rcases hw1 with rfl | rfl <;> rfl
    have hht : w1.tape = w.tape /\ w1.os = w.os /\ w1.output = w.output := by rcases hw1 with rfl | rfl <;> exact ⟨rfl, rfl, rfl⟩
    have hbil : bi < w.heap.size := (Array.getElem?_eq_some_iff.1 hgi).1
    have hsz : w'.heap.size = w.heap.size := by rw [hw', Go.ChangeMaps.setBlock]; simp [hh1]
    have hsame : ∀ y, y ≠ bi -> w'.heap[y]? = w.heap[y]? := fun y hy => by rw [hw', Go.ChangeMaps.setBlock]; simp [hh1, hy.symm]
    have hnew : w'.heap[bi]? = some (.mapIter (some R.bm) R.cl (sn.push e.born) R.cl) := by rw [hw', Go.ChangeMaps.setBlock]; simp [hh1, hbil]
    obtain ⟨b2, x2, F4, hN2, hcx2, hfam2, upd⟩ := q3.bigAt hl
    obtain rfl : b2 = bi := by have := hle.n _ _ hNr; rw [hN2] at this; exact Option.some.inj this
    have hx2 := Option.some.inj (hcx2.symm.trans hcx3)
    subst hx2
    obtain ⟨_, _, _, hF4⟩ := iter_at R hfam2 (isB_den hb hc hcx (litD 0) g69)
    have hr := upd rfl w' (.un 3 c (.nv nl)) _ F4 ⟨Nat.le_of_eq hsz.symm, fun y _ hy => hsame y fun e => hy ((hF4 y).2 e), by rw [hw']; exact hht.1, by rw [hw']; exact hht.2.1, by rw [hw']; exact hht.2.2, fun y hy => .inl hy⟩ (fam3 ⟨⟨_, _, _, _, hnew, rfl⟩, hF4⟩) hc3
    have hrun' : (Instr.next (f xo) false o.type).run P w = .ok (.tuple #[.bool true, e.key, e.val]) w' := by rw [hfx, hw']; exact hrun
    refine ⟨.tuple #[.bool true, e.key, e.val], w', .inl (by simp [execOp, ho, hrun']), _, _, _, _, ρ3, List.mem_cons_of_mem _ List.mem_cons_self, hle, ?_, hr, c1 hok (c1 (geqT (nvD n0) (litD 0) (Int.natCast_nonneg _)) (c1 (BT.den_mono hle hf) (hc.mono hle)))⟩
    rw [hek, hev]
    have d3 := den_slice_of n1 (off := .lit 0) (o := 0) rfl e62 (nvD n2)
    simp only [AVal.den, AVal.denL, BT.den, ek, e61, Option.map_some] at d3 ⊢
    rw [d3]; rfl
theorem hkEntry_ok {v ci si : Nat} (R : Fr β v ci si) : HookOk P β (hkEntry ci) := by
 intro o ev H nl cs ls ρ w f h he hh hc _
 unfold hkEntry at h
 split at h
 rotate_left
 · cases h
 rename_i xo ho
 split at h
 rotate_left
 · cases h
 rename_i r hx
 split at h
 rotate_left
 · cases h
 rename_i c j hl
 cases hb : ((isB (lookB cs (preT c)) true && isB (lookB cs (okT c (.nv j))) true) && bigsRw H) with
 | false => rw [hb] at h; cases h
 | true =>
  rw [hb] at h; simp only [cond_true, Option.some.injEq] at h
  subst h
  simp only [Bool.and_eq_true] at hb
  obtain ⟨⟨hpre, hok⟩, hbr⟩ := hb
  obtain ⟨_, hI, _, ⟨g66, g67, g68, g69⟩, ⟨g60, g61, g62, g63, _⟩⟩ := R.pin _ _ _ _ _ hh.g
  obtain ⟨bi, hfx, hNr⟩ := den_ptr0 (he xo _ hx)
  obtain ⟨b', x, F3, hN', hcx, hfam, _⟩ := hh.bigAt hl
  rw [hNr] at hN'; cases hN'
  obtain ⟨y, z, hcy, hz, rfl⟩ := un_inv hcx
  have hp1 := isB_den hpre hc hcy (litD 0) g69
  have hok1 := isB_den hok hc hcy hz g67
  have hp3 := pre_inv hp1
  have hx2 : univ 3 y z = encL (decL y ++ [z]) := rfl
  have hp2 : fPre R.bm R.cl (univ 3 y z) 0 = 1 := by
   unfold fPre
   rw [hx2, decL_encL]
   have h3 : 3 <= (decL y).length := by
    have := congrArg List.length hp3
    simp only [List.length_take, List.length_cons, List.length_nil] at this
    omega
   rw [List.take_append_of_le_length h3, if_pos hp3]
  obtain ⟨sn, hgi, hxe, hF3⟩ := iter_at R hfam hp2
  rw [hx2] at hxe
  have hl3 := encL_inj hxe
  obtain ⟨e, hem, hez⟩ : ∃ e ∈ R.m.toList, (e.born : Int) = z := by
   unfold fOk at hok1
   split at hok1
   · rename_i hc1
     simp only [Bool.and_eq_true] at hc1
     exact born_in hc1.1
   · cases hok1
  have hsn : ∃ s0 : Array Nat, sn = s0.push e.born := by
   have h4 : (decL y ++ [z]).getLast? = some z := by simp
   rw [hl3] at h4
   cases hsl : sn.toList.getLast? with
   | none =>
    have : sn.toList = [] := List.getLast?_eq_none_iff.1 hsl
    rw [this] at hl3
    have h5 := congrArg List.length hl3
    have h6 := congrArg List.length hp3
    simp only [List.length_append, List.length_cons, List.length_nil, List.length_map, List.length_take] at h5 h6
    omega
   | some n =>
    obtain ⟨l0, hl0⟩ := List.getLast?_eq_some_iff.1 hsl
    rw [hl0, List.map_append] at h4
    have h7 : (((R.bm : Int) :: (R.cl : Int) :: (R.cl : Int) :: (l0.map Int.ofNat ++ [n].map Int.ofNat)).getLast?) = some (n : Int) := by
     rw [show ((R.bm : Int) :: (R.cl : Int) :: (R.cl : Int) :: (l0.map Int.ofNat ++ [n].map Int.ofNat)) = ((R.bm : Int) :: (R.cl : Int) :: (R.cl : Int) :: l0.map Int.ofNat) ++ [(n : Int)] from rfl, List.getLast?_append]
     rfl
    rw [h7] at h4
    have h8 : (n : Int) = (e.born : Int) := by rw [hez]; exact Option.some.inj h4
    have h9 : n = e.born := Int.ofNat.inj h8
    exact ⟨l0.toArray, Array.toList_inj.1 (by rw [hl0, Array.toList_push, h9])⟩
  obtain ⟨s0, rfl⟩ := hsn
  have hgm : w.heap[R.bm]? = some (.map R.m R.cl) := by rw [hh.frame _ (R.bl.lt R.bl.root) (R.no _ R.bl.root)]; exact R.at0
  have hborn : (R.m.toList.map (·.born)).Nodup := by
   obtain ⟨_, _, m, cl, _, _, h1, hb, _⟩ := R.bl
   have := h1.symm.trans R.at0
   simp only [Option.some.injEq, Obj.map.injEq] at this
   rw [<- this.1]; exact hb.2
  have hrun := run_entry_at (P := P) w bi R.bm R.cl s0 R.m R.cl e hgi hgm hem hborn
  obtain ⟨k, L, y0, cp, ob, hgk, hek, hgE, hev, hFy, hoy, hrow, hL1, hL2⟩ := R.entry hem
  have hoy : w.heap[y0]? = some ob := by rw [hh.frame _ (R.bl.lt hFy) (R.no _ hFy)]; exact hoy
  have h1 := hh.num cp
  have hle1 : ρ.Le (ρ.put nl cp) := Env.le_put (hh.fresh nl (Nat.le_refl _))
  have hle2 : (ρ.put nl cp).Le ((ρ.put nl cp).put (nl + 1) y0) := Env.le_put (h1.fresh (nl + 1) (Nat.le_refl _))
  have hle : ρ.Le ((ρ.put nl cp).put (nl + 1) y0) := hle1.trans hle2
  have hci3 : (IT.var ci).den ((ρ.put nl cp).put (nl + 1) y0) = some (codeE R.es) := IT.den_mono hle (congrArg some hI)
  have ek : (keyT (.nv j)).den ((ρ.put nl cp).put (nl + 1) y0) = some k := by
   rw [keyT, fnD (IT.den_mono hle hz) (litD 0), hle.f, g66]
   show some (getK (kbOf R.m) z) = some k
   rw [<- hez, hgk]
  have e60 : (IT.fn 60 (.var ci) (keyT (.nv j))).den ((ρ.put nl cp).put (nl + 1) y0) = some 1 := by
   rw [fnD hci3 ek, hle.f, g60]; simp [fHas, esOf_code, hgE]
  have e61 : (IT.fn 61 (.var ci) (keyT (.nv j))).den ((ρ.put nl cp).put (nl + 1) y0) = some (L.headD 0) := by
   rw [fnD hci3 ek, hle.f, g61]; simp [fHnd, esOf_code, hgE]
  have e62 : (IT.fn 62 (.var ci) (keyT (.nv j))).den ((ρ.put nl cp).put (nl + 1) y0) = some (L.tail.length : Int) := by
   rw [fnD hci3 ek, hle.f, g62]; simp [fLen, esOf_code, hgE]
  have e63 : (IT.fn 63 (.var ci) (keyT (.nv j))).den ((ρ.put nl cp).put (nl + 1) y0) = some (encL L.tail) := by
   rw [fnD hci3 ek, hle.f, g63]; simp [fRow, esOf_code, hgE]
  have eN : ((ρ.put nl cp).put (nl + 1) y0).N nl = some cp := hle2.n _ _ (Env.put_same ..)
  have eN1 : ((ρ.put nl cp).put (nl + 1) y0).N (nl + 1) = some y0 := Env.put_same ..
  obtain ⟨cc, fr, rfl, hprf, hcs, hfz'⟩ := hrow
  have hrel : (rowB (.var ci) (keyT (.nv j)) nl).rel ((ρ.put nl cp).put (nl + 1) y0) false (.cells cc 32 fr) := by
   refine ⟨rowOf [.u64] L.tail, cc, fr, 32, L.tail.length, 0, rfl, fun _ => rfl, ?_, rfl, ⟨Nat.zero_le _, ?_⟩, e62, rowOf_typed (by simp), ⟨cp, nvD eN, by simpa using hcs⟩, fun _ => hfz'⟩
   · simp only [AT.den, e63, Option.map_some, decL_encL]
   · rw [List.drop_zero, rowOfU]; exact hprf
  have hh' := h1.seen (R.bl.lt hFy) (R.no y0 hFy) hoy hrel rfl hbr
  have hrun' : (Instr.entry (f xo)).run P w = .ok (.tuple #[e.key, e.val]) w := by rw [hfx]; exact hrun
  have f0 : (BT.cmp .eql (.fn 62 (.var ci) (keyT (.nv j))) (.lit 0)).den ((ρ.put nl cp).put (nl + 1) y0) = some false := by
   rw [cmpD e62 (litD 0)]; simp only [intCmp, Option.some.injEq, beq_eq_false_iff_ne]; omega
  have f1 : (BT.cmp .gtr (.fn 62 (.var ci) (keyT (.nv j))) (.lit 2048)).den ((ρ.put nl cp).put (nl + 1) y0) = some false := by
   rw [cmpD e62 (litD 2048)]; simp only [intCmp, Option.some.injEq, decide_eq_false_iff_not]; omega
  have f4 : (hasT (.var ci) (keyT (.nv j))).den ((ρ.put nl cp).put (nl + 1) y0) = some true := by
   unfold hasT; rw [cmpD e60 (litD 1)]; rfl
  refine ⟨.tuple #[e.key, e.val], w, .inl (by simp [execOp, ho, hrun']), _, _, _, _, _, List.mem_cons_self, hle, ?_, hh', c1 f0 (c1 f1 (c1 (geqT e62 (litD 1) (by omega)) (c1 (leqT e62 (litD 1000000) (by omega)) (c1 f4 (hc.mono hle)))))⟩
  rw [hek, hev]
  have d3 := den_slice_of eN1 (off := .lit 0) (o := 0) rfl e62 (nvD eN)
  simp only [AVal.den, AVal.denL, ek, e61, Option.map_some] at d3 ⊢
  rw [d3]; rfl
end
end Go.Vm
end
section
namespace Go.Vm
def oneP (a b : Nat) : AVal -> Bool
 | .var i => Nat.beq i a || Nat.beq i b
 | v => v.one
def hkSt (t n a b : Nat) : OpF := fun o ev H nl cs => match o with
 | .store t' p v => cond (Nat.beq t' t) (match ev p, ev v with
  | some (.ptr l (.lit (.ofNat 0))), some (.agg vs) => match H.get l with
   | some ⟨.cells vals e tl, true⟩ => cond (Nat.beq vs.length n && (Nat.beq vals.length n && vs.all (oneP a b))) (some [.ret (.tuple []) (H.set l ⟨.cells vs e tl, true⟩) nl cs]) none
   | _ => none
  | _, _ => none) none
 | _ => none
theorem onesP_den {ρ : Env} {a b : Nat} (ha : isOne (ρ.V a) = true) (hb : isOne (ρ.V b) = true) : ∀ {l : List AVal} {xs : List Value}, l.all (oneP a b) = true -> AVal.denL ρ l = some xs -> ∀ x ∈ xs, isOne x = true
 | [], xs, _, e => by cases e; simp
 | v :: r, xs, h, e => by
  simp only [List.all_cons, Bool.and_eq_true] at h
  simp only [AVal.denL] at e
  split at e
  · rename_i x l hx hl
    cases e
    intro y hy
    rcases List.mem_cons.1 hy with rfl | hy
    · have h1 := h.1
      unfold oneP at h1
      split at h1
      · rename_i i
        have hv : ρ.V i = y := Option.some.inj hx
        simp only [Bool.or_eq_true] at h1
        rcases h1 with h1 | h1
        · rw [<- hv, Nat.eq_of_beq_eq_true h1]; exact ha
        · rw [<- hv, Nat.eq_of_beq_eq_true h1]; exact hb
      · exact AVal.one_den h1 hx
    · exact onesP_den ha hb h.2 hl y hy
  · cases e
theorem hkSt_ok {P : Program} {β : Base} {t n a b : Nat} (hi : (P.info? t).map (·.size) = some n) (hG : ∀ I B S V F, β.G I B S V F -> isOne (V a) = true /\ isOne (V b) = true) : HookOk P β (hkSt t n a b) := by
 intro o ev H nl cs ls ρ w f h he hh hc _
 unfold hkSt at h
 split at h
 rotate_left
 · cases h
 rename_i t' p v ho
 cases hb : Nat.beq t' t with
 | false => rw [hb] at h; cases h
 | true =>
  rw [hb] at h; simp only [cond_true] at h
  obtain rfl := Nat.eq_of_beq_eq_true hb
  split at h
  rotate_left
  · cases h
  rename_i l vs hp hv
  split at h
  rotate_left
  · cases h
  rename_i vals e tl hl
  cases hb : (Nat.beq vs.length n && (Nat.beq vals.length n && vs.all (oneP a b))) with
  | false => rw [hb] at h; cases h
  | true =>
   rw [hb] at h; simp only [cond_true, Option.some.injEq] at h
   subst h
   simp only [Bool.and_eq_true] at hb
   obtain ⟨q1, q2, q3⟩ := hb
   have q1 := Nat.eq_of_beq_eq_true q1
   have q2 := Nat.eq_of_beq_eq_true q2
   obtain ⟨bl, hfp, hN⟩ := den_ptr0 (he p _ hp)
   have hvd := he v _ hv
   simp only [AVal.den] at hvd
   obtain ⟨ys, hys, hfv⟩ := Option.map_eq_some_iff.1 hvd
   obtain ⟨i, hi1, hi2⟩ := Option.map_eq_some_iff.1 hi
   obtain ⟨ba, o', hba, hg, xs, c, fr, rfl, hxs, hpre, ht, hf⟩ := hh.blk l _ hl
   rw [hN] at hba; cases hba
   obtain ⟨o1, o2⟩ := hG _ _ _ _ _ hh.g
   have hl1 := AVal.denL_length hxs
   have hl2 := AVal.denL_length hys
   have hle : xs.length <= c.size := by simpa using hpre.length_le
   obtain ⟨w', c', hrun, hheap, hcl, htp, hos, hout⟩ := storeCells_run (P := P) ys 0 0 w c (hf rfl) hg (by omega) (onesP_den o1 o2 q3 hys)
   have hsz : c'.size = c.size := by
    have := congrArg List.length hcl
    simp at this
    omega
   have hr := hh.write (k' := ⟨.cells vs e tl, true⟩) hl rfl hN ⟨ys, c', fr, rfl, hys, by
    rw [hcl]
    simp only [Nat.add_zero, List.take_zero, List.nil_append]
    exact List.prefix_append _ _, by rw [hsz, q1, <- q2]; exact ht, fun _ => by rw [hsz]; exact hf rfl⟩ hheap htp hos hout
   have hsz2 : (Value.agg ys.toArray).cells.size = i.size := by
    simp only [Value.cells, List.size_toArray]
    omega
   have hrun' : (Instr.storeAt t' (f p) (f v)).run P w = .ok () w' := by
    rw [hfp, <- hfv]
    simp only [Value.cells] at hsz2
    simp [Instr.storeAt, Instr.sureAddr, storeVar, run_size hi1, Value.cells, hsz2, hrun]
   exact ⟨undef, w', .inr ⟨by simp [execOp, ho, hrun'], rfl⟩, _, _, _, _, ρ, List.mem_cons_self, Env.Le.refl ρ, undef_den, hr, hc⟩
end Go.Vm
end
section
namespace Go.Proofs.Ytighjgmgpphohaa
open Go.Vm Go.Vm.Le Go.Vm.Mb
namespace Ar
def roI : HB := ⟨.cells [iV 100, iV 101, iV 102, iV 103, uV 104, uV 105, uV 106, uV 107, uV 108, uV 109, uV 110, uV 111, uV 112, uV 113, .var 51, .var 50, iV 114, iV 115, iV 116, iV 117, iV 118, iV 119] 77 none, false⟩
def spCloV (v ci : Nat) : SpG := fun args H nl cs => match args with
 | [.var v'] => cond (Nat.beq v' v) (some [.ret (.ptr nl (.lit 0)) (H.set nl ⟨.big 0 (.var ci), true⟩) (nl + 1) cs]) none
 | _ => none
def hkC : OpF := orH (hkSt 77 22 50 51) (orH (hkRange 75 50 95) (orH (hkNext 90) (orH (hkEntry 90) (orH (hkPut 75) (hkMake 75)))))
def spC : CallF := spLH [(48, spCloV 51 93), (43, spClone [.u64] 32)] hkC
def itB : HB := ⟨.big 3 (.var 222), true⟩
def csP : Cs := [(preT (.var 222), true)]
def tC : Tpl := ⟨[(2, .ptrNil), (3, .ptr 0 (.lit 0)), (23, .ptr 3 (.lit 0))], 38, hA ++ [(3, itB)], 5, csP, 3⟩
end Ar
end Go.Proofs.Ytighjgmgpphohaa
end
