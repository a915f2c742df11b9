/- A machine for abstract states over the model (part 34): maps of blocks: what is found in one that is only read; what is put in, taken out: as operations that are known. -/
import Derived.Test.YtighjgmgpphohaaVm33
import Derived.Test.YtighjgmgpphohaaLp9
import Derived.Test.YtighjgmgpphohaaPc2
section
namespace Go.Vm
open Mb
theorem rowOfU (L : List Int) : rowOf [.u64] L = L.map (Value.int .u64) := by
 apply List.ext_getElem?
 intro i
 rw [rowOf_get, List.getElem?_map]
 have : i % [IntKind.u64].length = 0 := Nat.mod_one i
 rw [this]; rfl
theorem codeE_inj {a b : Es} (h : codeE a = codeE b) : a = b := by
 have := congrArg esOf h
 rwa [esOf_code, esOf_code] at this
def fHas (x k : Int) : Int := if (getE (esOf x) k).isSome then 1 else 0
def fHnd (x k : Int) : Int := ((getE (esOf x) k).getD []).headD 0
def fLen (x k : Int) : Int := (((getE (esOf x) k).getD []).tail.length : Nat)
def fRow (x k : Int) : Int := encL ((getE (esOf x) k).getD []).tail
def fPut (x y : Int) : Int := codeE (putE (esOf x) ((decL y).getD 0 0) ((decL y).getD 1 0 :: decL ((decL y).getD 2 0)))
def fDel (x k : Int) : Int := codeE (delE (esOf x) k)
def GMb : GP := fun _ _ _ _ F => F 60 = fHas /\ F 61 = fHnd /\ F 62 = fLen /\ F 63 = fRow /\ F 64 = fPut /\ F 65 = fDel
def Fz (β : Base) (v ci : Nat) : Prop := ∃ bm es es0 F, BlksIn es β.w0 bm F /\ es.Perm es0 /\ (∀ y, F y -> ¬ β.own y) /\ ∀ I B S V F', β.G I B S V F' -> V v = .map (some bm) /\ I ci = codeE es0
def hasT (c k : IT) : BT := .cmp .eql (.fn 60 c k) (.lit 1)
def rowB (c k : IT) (cp : Nat) : ABlk := .arr (.code [.u64] (.fn 63 c k)) [.u64] 32 (.fn 62 c k) (.lit 0) (some (.nv cp))
def fdNo (c kt : IT) (H : Heap) (nl : Nat) (cs : Cs) : Leaf := .ret (.tuple [.agg [.int .u64 (.lit 0), .sliceNil], .bool (.lit false)]) H nl ((hasT c kt, false) :: cs)
def fdYes (c kt : IT) (H : Heap) (nl : Nat) (cs : Cs) : Leaf := .ret (.tuple [.agg [.int .u64 (.fn 61 c kt), .slice (nl + 1) (.lit 0) (.fn 62 c kt) (.nv nl)], .bool (.lit true)]) (H.set (nl + 1) ⟨rowB c kt nl, false⟩) (nl + 2) ((.cmp .geq (.fn 62 c kt) (.lit 0), true) :: (hasT c kt, true) :: cs)
def hkFind (t : TypeId) (v ci : Nat) : OpF := fun o ev H nl cs => match o with
 | .lookup t' m k true => cond (Nat.beq t' t && bigsRw H) (match ev m, ev k with
  | some (.var v'), some (.int .i64 kt) => cond (Nat.beq v' v) (match lookB cs (hasT (.var ci) kt) with
   | some true => some [fdYes (.var ci) kt H nl cs]
   | some false => some [fdNo (.var ci) kt H nl cs]
   | none => some [fdNo (.var ci) kt H nl cs, fdYes (.var ci) kt H nl cs]) none
  | _, _ => none) none
 | _ => none
section
variable {P : Program} {β : Base} {t kt et : TypeId} {k0 : IntKind}
theorem frz {ρ : Env} {H : Heap} {nl : Nat} {w : World} (hh : HRel β ρ H nl w) {bm : Nat} {es : Es} {F : Nat -> Prop} (hB : BlksIn es β.w0 bm F) (hno : ∀ y, F y -> ¬ β.own y) : BlksIn es w bm F :=
 hB.local fun y hy => hh.frame y (hB.lt hy) (hno y hy)
theorem hkFind_ok (hu : P.underlying t = some (.map kt et)) (hk : P.underlying kt = some (.int k0)) (hz : zeroA P et = some (.agg [.int .u64 (.lit 0), .sliceNil])) (hG : ∀ I B S V F, β.G I B S V F -> GMb I B S V F) {v ci : Nat} (hfz : Fz β v ci) : HookOk P β (hkFind t v ci) := by
 intro o ev H nl cs ls ρ w f h he hh hc _
 unfold hkFind at h
 split at h
 rotate_left
 · cases h
 rename_i t' m k ho
 cases hb : (Nat.beq t' t && bigsRw H) with
 | false => rw [hb] at h; cases h
 | true =>
  rw [hb] at h; simp only [cond_true] at h
  simp only [Bool.and_eq_true] at hb
  obtain ⟨hb, hbr⟩ := hb
  obtain rfl := Nat.eq_of_beq_eq_true hb
  split at h
  rotate_left
  · cases h
  rename_i v' kt' hm hk'
  cases hv : Nat.beq v' v with
  | false => rw [hv] at h; cases h
  | true =>
   rw [hv] at h; simp only [cond_true] at h
   obtain rfl := Nat.eq_of_beq_eq_true hv
   obtain ⟨bm, es, es0, F, hB0, hperm, hno, hpin⟩ := hfz
   have hge := getE_perm hperm hB0.nodup
   obtain ⟨hV, hI⟩ := hpin _ _ _ _ _ hh.g
   have hB := frz hh hB0 hno
   have hfm : f m = .map (some bm) := by
    have := he m _ hm
    simp only [AVal.den, Option.some.injEq] at this
    rw [<- this, hV]
   obtain ⟨kz, hfk, hkz⟩ := den_int (he k _ hk')
   obtain ⟨g60, g61, g62, g63, _, _⟩ := hG _ _ _ _ _ hh.g
   have hx : (IT.var ci).den ρ = some (codeE es0) := congrArg some hI
   have hHas : (hasT (.var ci) kt').den ρ = some (fHas (codeE es0) kz == 1) := by
    have e1 : (IT.fn 60 (.var ci) kt').den ρ = some (fHas (codeE es0) kz) := by rw [fnD hx hkz, g60]
    unfold hasT
    rw [cmpD e1 (litD 1)]
    rfl
   have hz2 : ∀ ρ, (AVal.agg [.int .u64 (.lit 0), .sliceNil]).den ρ = some (.agg #[.int .u64 0, .slice none 0 0]) := fun ρ => rfl
   cases hg : getE es kz with
   | none =>
    have hf : (hasT (.var ci) kt').den ρ = some false := by rw [hHas]; simp [fHas, esOf_code, <- hge, hg]
    obtain ⟨lv, hM, h3⟩ := hB.lookN hg
    have hrun : (Instr.lookup t' (f m) (f k) true).run P w = .ok (.tuple #[.agg #[.int .u64 0, .slice none 0 0], .bool false]) w := by
     have h1 := hM.lookup hu hk hz hz2 kz true
     rw [h3] at h1
     rw [hfm, hfk]; exact h1
    have hmem : fdNo (.var ci) kt' H nl cs ∈ ls := by
     split at h
     · rename_i hb1; have := lookB_ok hb1 hc; rw [hf] at this; cases this
     · cases h; exact List.mem_cons_self
     · cases h; exact List.mem_cons_self
    exact ⟨_, w, .inl (by simp [execOp, ho, hrun]), _, H, nl, _, ρ, hmem, Env.Le.refl ρ, rfl, hh, c1 hf hc⟩
   | some L =>
    have hf : (hasT (.var ci) kt').den ρ = some true := by rw [hHas]; simp [fHas, esOf_code, <- hge, hg]
    obtain ⟨lv, y0, cp, o1, hM, hgv, hFy, hyb, hoy, hrow⟩ := hB.look hg
    have h1 := hh.num cp
    have hle1 : ρ.Le (ρ.put nl cp) := Env.le_put (hh.fresh nl (Nat.le_refl _))
    have hle2 : (ρ.put nl cp).Le ((ρ.put nl cp).put (nl + 1) y0) := Env.le_put (h1.fresh (nl + 1) (Nat.le_refl _))
    have hle : ρ.Le ((ρ.put nl cp).put (nl + 1) y0) := hle1.trans hle2
    have hxx := IT.den_mono hle hx
    have hkk := IT.den_mono hle hkz
    have e61 : (IT.fn 61 (.var ci) kt').den ((ρ.put nl cp).put (nl + 1) y0) = some (L.headD 0) := by
     rw [fnD hxx hkk, hle.f, g61]; simp [fHnd, esOf_code, <- hge, hg]
    have e62 : (IT.fn 62 (.var ci) kt').den ((ρ.put nl cp).put (nl + 1) y0) = some (L.tail.length : Int) := by
     rw [fnD hxx hkk, hle.f, g62]; simp [fLen, esOf_code, <- hge, hg]
    have e63 : (IT.fn 63 (.var ci) kt').den ((ρ.put nl cp).put (nl + 1) y0) = some (encL L.tail) := by
     rw [fnD hxx hkk, hle.f, g63]; simp [fRow, esOf_code, <- hge, hg]
    have eN : ((ρ.put nl cp).put (nl + 1) y0).N nl = some cp := hle2.n _ _ (Env.put_same ..)
    have eN1 : ((ρ.put nl cp).put (nl + 1) y0).N (nl + 1) = some y0 := Env.put_same ..
    obtain ⟨cc, fr, rfl, hpre, hcs, hfz'⟩ := hrow
    have hrel : (rowB (.var ci) kt' nl).rel ((ρ.put nl cp).put (nl + 1) y0) false (.cells cc 32 fr) := by
     refine ⟨rowOf [.u64] L.tail, cc, fr, 32, L.tail.length, 0, rfl, fun _ => rfl, ?_, rfl, ⟨Nat.zero_le _, ?_⟩, e62, rowOf_typed (by simp), ⟨cp, nvD eN, by simpa using hcs⟩, fun _ => hfz'⟩
     · simp only [AT.den, e63, Option.map_some, decL_encL]
     · rw [List.drop_zero, rowOfU]; exact hpre
    have hh' := h1.seen (hB0.lt hFy) (hno y0 hFy) hoy hrel rfl hbr
    have hrun : (Instr.lookup t' (f m) (f k) true).run P w = .ok (.tuple #[blkV L y0 cp, .bool true]) w := by
     have h1 := hM.lookup hu hk hz hz2 kz true
     rw [hgv] at h1
     rw [hfm, hfk]; exact h1
    have hmem : fdYes (.var ci) kt' H nl cs ∈ ls := by
     split at h
     · cases h; exact List.mem_cons_self
     · rename_i hb1; have := lookB_ok hb1 hc; rw [hf] at this; cases this
     · cases h; exact List.mem_cons_of_mem _ List.mem_cons_self
    refine ⟨.tuple #[blkV L y0 cp, .bool true], w, .inl (by simp [execOp, ho, hrun]), _, _, _, _, _, hmem, hle, ?_, hh', c1 (geqT e62 (litD 0) (Int.natCast_nonneg _)) (c1 (BT.den_mono hle hf) (hc.mono hle))⟩
    have d3 := den_slice_of eN1 (off := .lit 0) (o := 0) rfl e62 (nvD eN)
    simp only [AVal.den, AVal.denL, BT.den, e61, Option.map_some] at d3 ⊢
    rw [d3]; rfl
end
def isB (o : Option Bool) (b : Bool) : Bool := match o with
 | some c => b == c
 | none => false
theorem isB_ok {cs : Cs} {t : BT} {b : Bool} {ρ : Env} (h : isB (lookB cs t) b = true) (hc : CRel ρ cs) : t.den ρ = some b := by
 unfold isB at h
 split at h
 · rename_i c hl
   rw [eq_of_beq h]; exact lookB_ok hl hc
 · cases h
def ptT (c kt ht u : IT) : IT := .fn 64 c (.un 3 (.un 1 kt ht) u)
def ptL (l r : Nat) (c kt ht u : IT) (H : Heap) (nl : Nat) (cs : Cs) : Leaf := .ret (.tuple []) ((H.del r).set l ⟨.big 1 (ptT c kt ht u), true⟩) nl cs
def hkPut (t : TypeId) : OpF := fun o ev H nl cs => match o with
 | .mapUpdate t' m k v => cond (Nat.beq t' t) (match ev m, ev k, ev v with
  | some (.map l), some (.int .i64 kt), some (.agg [.int .u64 ht, .slice r (.lit (.ofNat 0)) n (.nv cp)]) => match H.get l, H.get r with
   | some ⟨.big 1 c, true⟩, some ⟨.arr (.code [.u64] u) [.u64] 32 n' (.lit (.ofNat 0)) (some (.nv cp')), true⟩ => cond ((Nat.beq cp' cp && IT.beq n' n) && (isB (lookB cs (.cmp .eql n (.lit 0))) false && isB (lookB cs (.cmp .gtr n (.lit 2048))) false)) (some [ptL l r c kt ht u H nl cs]) none
   | _, _ => none
  | _, _, _ => none) none
 | _ => none
section
variable {P : Program} {β : Base} {t kt et : TypeId} {k0 : IntKind}
theorem den_agg2 {ρ : Env} {a b : AVal} {v : Value} (h : (AVal.agg [a, b]).den ρ = some v) : ∃ x y, a.den ρ = some x /\ b.den ρ = some y /\ v = .agg #[x, y] := by
 simp only [AVal.den, AVal.denL] at h
 cases ha : a.den ρ with
 | none => rw [ha] at h; cases h
 | some x => cases hb : b.den ρ with
  | none => rw [ha, hb] at h; cases h
  | some y =>
   rw [ha, hb] at h
   exact ⟨x, y, rfl, rfl, (Option.some.inj h).symm⟩
theorem hkPut_ok (hu : P.underlying t = some (.map kt et)) (hk : P.underlying kt = some (.int k0)) (hG : ∀ I B S V F, β.G I B S V F -> GMb I B S V F) : HookOk P β (hkPut t) := by
 intro o ev H nl cs ls ρ w f h he hh hc _
 unfold hkPut at h
 split at h
 rotate_left
 · cases h
 rename_i t' m k v ho
 cases hb : Nat.beq t' t with
 | false => rw [hb] at h; cases h
 | true =>
  rw [hb] at h; simp only [cond_true] at h
  obtain rfl := Nat.eq_of_beq_eq_true hb
  obtain ⟨_, _, _, _, g64, _⟩ := hG _ _ _ _ _ hh.g
  split at h
  rotate_left
  · cases h
  rename_i l kq ht r n cp hm hk' hv
  split at h
  rotate_left
  · cases h
  rename_i c u n' cp' hl hr
  cases hb : ((Nat.beq cp' cp && IT.beq n' n) && (isB (lookB cs (.cmp .eql n (.lit 0))) false && isB (lookB cs (.cmp .gtr n (.lit 2048))) false)) with
  | false => rw [hb] at h; cases h
  | true =>
   rw [hb] at h; simp only [cond_true, Option.some.injEq] at h
   simp only [Bool.and_eq_true] at hb
   obtain ⟨⟨q1, q2⟩, q3, q4⟩ := hb
   obtain rfl := Nat.eq_of_beq_eq_true q1
   obtain rfl := IT.beq_eq q2
   obtain ⟨b, hfm, hNl⟩ := den_map (he m _ hm)
   obtain ⟨kz, hfk, hkz⟩ := den_int (he k _ hk')
   obtain ⟨vx, vy, hvx, hvy, hfv⟩ := den_agg2 (he v _ hv)
   obtain ⟨hz, rfl, hhz⟩ := den_int hvx
   obtain ⟨y0, o1, n1, cp1, rfl, hNr, hoff, hn1, hcp1⟩ := den_slice hvy
   obtain rfl : o1 = 0 := by
    have : some (Int.ofNat 0) = some (Int.ofNat o1) := hoff
    exact (Int.ofNat.inj (Option.some.inj this)).symm
   obtain ⟨b', x, F, y0', ob, hN', hx, hfam, hNr', hob, hrel, hF0, cont⟩ := hh.bigGive hl hr rfl
   rw [hNl] at hN'; cases hN'
   rw [hNr] at hNr'; cases hNr'
   obtain ⟨es, rfl, hB⟩ := fam1_inv hfam
   obtain ⟨xs, cc, fr, el, m', st, rfl, hel, hd, hst, ⟨hsz, hp⟩, hn, hty, ⟨cap, hcap, hroom⟩, hf1⟩ := hrel
   obtain rfl : st = 0 := by have := Option.some.inj hst; exact (Int.ofNat.inj this).symm
   rw [List.drop_zero] at hp
   have hel := hel rfl
   subst hel
   obtain ⟨uz, huz, hxs⟩ : ∃ uz, u.den ρ = some uz /\ rowOf [.u64] (decL uz) = xs := by
    simp only [AT.den] at hd
    cases hu2 : u.den ρ with
    | none => rw [hu2] at hd; cases hd
    | some uz => rw [hu2] at hd; exact ⟨uz, rfl, Option.some.inj hd⟩
   subst hxs
   obtain rfl : cap = cp1 := by
    rw [hcap] at hcp1
    exact Int.ofNat.inj (Option.some.inj hcp1)
   have hm' : (decL uz).length = m' := by
    have := hty.1
    rw [rowOf_length] at this
    simpa using this
   obtain rfl : n1 = (decL uz).length := by
    rw [hn] at hn1
    have := Int.ofNat.inj (Option.some.inj hn1)
    omega
   have hrow : RowM (hz :: decL uz).tail cap (.cells cc 32 fr) := ⟨cc, fr, rfl, by rw [<- rowOfU]; exact hp, by simpa using hroom, hf1 rfl⟩
   have hsz : 1 <= (decL uz).length /\ (decL uz).length <= 2048 := by
    have e3 := isB_ok q3 hc
    have e4 := isB_ok q4 hc
    have hn2 : n'.den ρ = some (((decL uz).length : Nat) : Int) := hn1
    rw [cmpD hn2 (litD 0)] at e3
    rw [cmpD hn2 (litD 2048)] at e4
    simp only [intCmp, Option.some.injEq, beq_eq_false_iff_ne, decide_eq_false_iff_not] at e3 e4
    omega
   obtain ⟨lv, hM, hput⟩ := hB.put kz hF0 hob hrow hsz
   obtain ⟨es', cl', hrun, hmm, hbb⟩ := hM.update hu hk kz (blkV (hz :: decL uz) y0 cap)
   obtain ⟨F', hB', hF'⟩ := hput es' cl' hmm hbb
   have hroot := hB.root
   have hc' : (ptT c kq ht u).den ρ = some (codeE (putE es kz (hz :: decL uz))) := by
    rw [ptT, fnD hx (unD (unD hkz hhz) huz), g64]
    show some (fPut (codeE es) (encL (decL (encL [kz, hz]) ++ [uz]))) = _
    rw [decL_encL]
    simp only [fPut, esOf_code, decL_encL, List.cons_append, List.nil_append, List.getD_cons_zero, List.getD_cons_succ]
   have hr' := cont (w' := { w with heap := w.heap.setIfInBounds b (.map es' cl') }) (k' := 1) (F' := F') ⟨by simp, fun y _ hy => ?_, rfl, rfl, rfl, fun y hy => ?_⟩ (fam1 hB') hc'
   · have hrun' : (Instr.mapUpdate t' (f m) (f k) (f v)).run P w = .ok () { w with heap := w.heap.setIfInBounds b (.map es' cl') } := by rw [hfm, hfk, hfv]; exact hrun
     exact ⟨undef, _, .inr ⟨by simp [execOp, ho, hrun'], rfl⟩, _, _, _, _, ρ, by rw [<- h]; exact List.mem_cons_self, Env.Le.refl ρ, undef_den, hr', hc⟩
   · have : b ≠ y := fun e => hy (e ▸ hroot)
     simp [this]
   · exact (hF' y hy.1).elim .inl fun e => absurd e hy.2
end
theorem dels_none : ∀ {l : Kvs} {k : Int}, gets l k = none -> dels l k = l
 | [], _, _ => rfl
 | (a, v) :: r, k, h => by
  simp only [gets] at h
  by_cases e : a = k
  · simp [e] at h
  · rw [if_neg e] at h
    simp only [dels, if_neg e, dels_none h]
theorem MapAt.delete {P : Program} {w : World} {b : Nat} {l : Kvs} {t kt et k' ty : TypeId} {k0 : IntKind} (h : MapAt w b l) (hu : P.underlying t = some (.map kt et)) (hk : P.underlying kt = some (.int k0)) (k : Int) :
 ∃ es cl, (Builtin.delete_ #[t, k'] ty #[.map (some b), .int .i64 k]).run P w = .ok (.tuple #[]) { w with heap := w.heap.setIfInBounds b (.map es cl) } /\ es.toList.map kvOf = (dels l k).map kvI /\ Born es cl := by
 obtain ⟨xs, cl, hg, he, hbn⟩ := h
 obtain ⟨_, hck⟩ := keyC_ok (P := P) (w := w) (d := .int k0) rfl (x := k)
 have hck' := hck 9999 kt xs.isEmpty hk
 obtain ⟨f1, f2⟩ := findG k0 k 0 he
 cases hmg : gets l k with
 | none =>
  obtain ⟨q2, _⟩ := f1 hmg
  have hsame : w.heap.setIfInBounds b (.map xs cl) = w.heap := by
   apply Array.ext_getElem?
   intro i
   rw [Array.getElem?_setIfInBounds]
   by_cases hi : b = i
   · subst hi
     have hlt := (Array.getElem?_eq_some_iff.1 hg).1
     simp [hlt, (Array.getElem?_eq_some_iff.1 hg).2]
   · simp [hi]
  refine ⟨xs, cl, ?_, by rw [he, dels_none hmg], hbn⟩
  simp [Builtin.delete_, run_und hu, getObj_map hg, hck', findKey_run hk q2, setObj_map hg, hsame]
 | some v =>
  obtain ⟨j, bn, q2, q4, _, q6⟩ := f2 v hmg
  rw [Nat.zero_add] at q2
  have hx? : xs[j]? = some ⟨.int .i64 k, v, bn⟩ := by rw [<- Array.getElem?_toList]; exact q4
  have hj : j < xs.size := (Array.getElem?_eq_some_iff.1 hx?).1
  refine ⟨xs.eraseIdxIfInBounds j, cl, ?_, by rw [<- q6]; congr 1; simp [Array.eraseIdxIfInBounds, hj], hbn.sub (by simp only [Array.eraseIdxIfInBounds, hj, dif_pos]; simpa using List.eraseIdx_sublist _ _)⟩
  simp [Builtin.delete_, run_und hu, getObj_map hg, hck', findKey_run hk q2, setObj_map hg]
def dlL (l : Nat) (c kt : IT) (H : Heap) (nl : Nat) (cs : Cs) : Leaf := .ret (.tuple []) (H.set l ⟨.big 1 (.fn 65 c kt), true⟩) nl cs
def hkDel (t : TypeId) : OpF := fun o ev H nl cs => match o with
 | .call { callee := .builtin .delete, args, argTypes } => match args.toList, argTypes.toList with
  | [m, k], [t', _] => cond (Nat.beq t' t) (match ev m, ev k with
   | some (.map l), some (.int .i64 kt) => match H.get l with
    | some ⟨.big 1 c, true⟩ => some [dlL l c kt H nl cs]
    | _ => none
   | _, _ => none) none
  | _, _ => none
 | _ => none
section
variable {P : Program} {β : Base} {t kt et : TypeId} {k0 : IntKind}
theorem hkDel_ok (hu : P.underlying t = some (.map kt et)) (hk : P.underlying kt = some (.int k0)) (hG : ∀ I B S V F, β.G I B S V F -> GMb I B S V F) : HookOk P β (hkDel t) := by
 intro o ev H nl cs ls ρ w f h he hh hc _
 unfold hkDel at h
 split at h
 rotate_left
 · cases h
 rename_i args tys ho
 split at h
 rotate_left
 · cases h
 rename_i m k t' kq hargs htys
 cases hb : Nat.beq t' t with
 | false => rw [hb] at h; cases h
 | true =>
  rw [hb] at h; simp only [cond_true] at h
  obtain rfl := Nat.eq_of_beq_eq_true hb
  split at h
  rotate_left
  · cases h
  rename_i l kt' hm hk'
  split at h
  rotate_left
  · cases h
  rename_i c hl
  cases h
  obtain ⟨_, _, _, _, _, g65⟩ := hG _ _ _ _ _ hh.g
  obtain ⟨b, hfm, hNl⟩ := den_map (he m _ hm)
  obtain ⟨kz, hfk, hkz⟩ := den_int (he k _ hk')
  obtain ⟨b', x, F, hN', hx, hfam, upd⟩ := hh.bigAt hl
  rw [hNl] at hN'; cases hN'
  obtain ⟨es, rfl, hB⟩ := fam1_inv hfam
  obtain ⟨lv, hM, hdel⟩ := hB.del kz
  obtain ⟨es', cl', hrun, hmm, hbb⟩ := hM.delete (k' := kq) (ty := o.type) hu hk kz
  obtain ⟨F', hB', hF'⟩ := hdel es' cl' hmm hbb
  have hroot := hB.root
  have hc' : (IT.fn 65 c kt').den ρ = some (codeE (delE es kz)) := by
   rw [fnD hx hkz, g65]
   simp only [fDel, esOf_code]
  have hr' := upd rfl { w with heap := w.heap.setIfInBounds b (.map es' cl') } _ _ F' ⟨by simp, fun y _ hy => ?_, rfl, rfl, rfl, fun y hy => .inl (hF' y hy)⟩ (fam1 hB') hc'
  · have ha : args.map f = #[f m, f k] := by apply Array.toList_inj.1; simp [hargs]
    have ht : tys = #[t', kq] := by apply Array.toList_inj.1; simp [htys]
    subst ht
    exact ⟨_, _, .inl (by simp [execOp, ho, resolve, invoke, builtin, ha, hfm, hfk, hrun]), _, _, _, _, ρ, List.mem_cons_self, Env.Le.refl ρ, rfl, hr', hc⟩
  · have : b ≠ y := fun e => hy (e ▸ hroot)
    simp [this]
end
def hkMake (t : TypeId) : OpF := fun o _ H nl cs => match o with
 | .makeMap t' none => cond (Nat.beq t' t) (some [.ret (.map nl) (H.set nl ⟨.big 1 (.lit 0), true⟩) (nl + 1) cs]) none
 | _ => none
theorem codeE_nil : codeE [] = 0 := rfl
theorem hkMake_ok {P : Program} {β : Base} {t : TypeId} : HookOk P β (hkMake t) := by
 intro o ev H nl cs ls ρ w f h he hh hc _
 unfold hkMake at h
 split at h
 rotate_left
 · cases h
 rename_i t' ho
 cases hb : Nat.beq t' t with
 | false => rw [hb] at h; cases h
 | true =>
  rw [hb] at h; simp only [cond_true, Option.some.injEq] at h
  subst h
  have hfr : Framed w { w with heap := w.heap.push (.map #[] 0) } := ⟨by simp, fun b hb => by rw [Array.getElem?_push]; simp [Nat.ne_of_lt hb], rfl, rfl, rfl⟩
  have hg : ({ w with heap := w.heap.push (.map #[] 0) } : World).heap[w.heap.size]? = some (.map #[] 0) := by simp
  have hB : BlksIn [] { w with heap := w.heap.push (.map #[] 0) } w.heap.size (fun y => y = w.heap.size) :=
   ⟨List.nodup_nil, fun p hp => (by cases hp), #[], 0, fun _ => 0, fun _ => 0, hg, ⟨fun e he => (by simp at he), List.nodup_nil⟩, rfl, fun p hp => (by cases hp), fun p hp => (by cases hp), fun y => ⟨.inl, fun h => h.elim id fun ⟨_, h, _⟩ => (by cases h)⟩⟩
  have hr := hh.bigNew hfr (k := 1) (c := .lit 0) (codeE_nil ▸ fam1 hB) (fun y hy => by rw [hy]; exact Nat.le_refl _) rfl
  have hrun : (Instr.makeMap t' none).run P w = .ok (.map (some w.heap.size)) { w with heap := w.heap.push (.map #[] 0) } := by simp [Instr.makeMap]
  have hle : ρ.Le (ρ.put nl w.heap.size) := Env.le_put (hh.fresh nl (Nat.le_refl _))
  exact ⟨.map (some w.heap.size), _, .inl (by simp [execOp, ho, hrun]), .map nl, _, _, cs, _, List.mem_cons_self, hle, by simp [AVal.den, Env.put_same], hr, hc.mono hle⟩
def orH (a b : OpF) : OpF := fun o ev H nl cs => match a o ev H nl cs with
 | some ls => some ls
 | none => b o ev H nl cs
theorem orH_ok {P : Program} {β : Base} {a b : OpF} (ha : HookOk P β a) (hb : HookOk P β b) : HookOk P β (orH a b) := by
 intro o ev H nl cs ls ρ w f h he hh hc hd
 unfold orH at h
 split at h
 · rename_i l hl; cases h; exact ha o ev H nl cs _ ρ w f hl he hh hc hd
 · exact hb o ev H nl cs _ ρ w f h he hh hc hd
end Go.Vm
end
section
namespace Go.Vm
theorem den_slx_of {ρ : Env} {l b o n c : Nat} {off len cap : IT} (h1 : ρ.N l = some b) (h2 : off.den ρ = some (o : Int)) (h3 : len.den ρ = some (n : Int)) (h4 : cap.den ρ = some (c : Int)) : (AVal.slx l off len cap).den ρ = some (slX b o n c) := by
 simp only [AVal.den, h1, h2, h3, h4]; rfl
theorem slX_code {a : Addr} {c : Nat} (h : a.spot = none ∨ c = 0) : ∃ k, Value.slice (some a) 0 c = slX a.block a.off 0 k := by
 obtain ⟨b, o, s⟩ := a
 cases s with
 | none => exact ⟨2 * c, (slX_zero b o c).symm⟩
 | some s =>
  obtain rfl : c = 0 := h.resolve_left (fun e => by cases e)
  exact ⟨2 * s + 1, (slX_spot b o s).symm⟩
theorem slX_back (b o c : Nat) : (⟨b, o, slS 0 c⟩ : Addr).spot = none ∨ slK 0 c = 0 := by
 simp only [slS, slK]
 cases Nat.beq (c % 2) 0
 · exact .inr rfl
 · exact .inl rfl
def hkXLen (t : TypeId) : OpF := fun o ev H nl cs => match o with
 | .call { callee := .builtin .len, args, argTypes } => match args.toList, argTypes.toList with
  | [x], [t'] => cond (Nat.beq t' t) (match ev x with
   | some (.slx _ _ n _) => some [.ret (.int .i64 n) H nl cs]
   | _ => none) none
  | _, _ => none
 | _ => none
section
variable {P : Program} {β : Base} {t e : TypeId}
theorem hkXLen_ok (hu : P.underlying t = some (.slice e)) : HookOk P β (hkXLen t) := by
 intro o ev H nl cs ls ρ w f h he hh hc _
 unfold hkXLen at h
 split at h
 rotate_left
 · cases h
 rename_i args tys ho
 split at h
 rotate_left
 · cases h
 rename_i x t' hargs htys
 cases hb : Nat.beq t' t with
 | false => rw [hb] at h; cases h
 | true =>
  rw [hb] at h; simp only [cond_true] at h
  obtain rfl := Nat.eq_of_beq_eq_true hb
  split at h
  rotate_left
  · cases h
  rename_i l off n cap hm
  cases h
  obtain ⟨b, o', m, c, hx, _, _, hn, _⟩ := den_slx (he x _ hm)
  have ha : args.map f = #[f x] := by apply Array.toList_inj.1; simp [hargs]
  have ht : tys = #[t'] := by apply Array.toList_inj.1; simp [htys]
  subst ht
  have hrun : (Builtin.len_ #[t'] o.type #[slX b o' m c]).run P w = .ok (.int .i64 (m : Int)) w := by
   simp [Builtin.len_, run_und hu, goInt]
  exact ⟨.int .i64 (m : Int), w, .inl (by simp [execOp, ho, resolve, invoke, builtin, ha, hx, hrun]), _, _, _, _, ρ, List.mem_cons_self, Env.Le.refl ρ, by simp only [AVal.den, hn, Option.map_some]; rfl, hh, hc⟩
end
end Go.Vm
end
section
namespace Go.Proofs.Ytighjgmgpphohaa
open Go.Vm
namespace Ar
def iV (i : Nat) : AVal := .int .i64 (.var i)
def uV (i : Nat) : AVal := .int .u64 (.var i)
def arC (v m : AVal) : ABlk := .cells [iV 200, iV 201, iV 202, iV 203, uV 204, uV 205, uV 206, uV 207, uV 208, uV 209, uV 210, uV 211, uV 212, uV 213, v, m, iV 214, iV 215, iV 216, iV 217, iV 218, iV 219] 77 none
def arB : HB := ⟨arC (.ptr 1 (.lit 0)) (.map 2), true⟩
def stB : HB := ⟨.big 0 (.var 220), true⟩
def blB : HB := ⟨.big 1 (.var 221), true⟩
def hA : List (Nat × HB) := [(0, arB), (1, stB), (2, blB)]
inductive Kd where
 | nil
 | zero
 | row
def wA : Kd -> AVal
 | .nil => .sliceNil
 | .zero => .slx 3 (.var 224) (.lit 0) (.nv 4)
 | .row => .slice 3 (.var 224) (.var 223) (.nv 4)
def wC : Kd -> Cs
 | .row => [(.cmp .geq (.var 223) (.lit 1), true)]
 | _ => []
def me : AVal := .ptr 0 (.lit 0)
def gA : Gen := ⟨240, 0, 0, 8⟩
def eA (u : AVal) : List Tpl := [⟨[(0, u)], 1, hA, 5, [], 0⟩]
def uLay : AVal := .tuple [uV 230, iV 231]
def GAr : GP := fun I B S V F => Lp.GLp I B S V F /\ GMb I B S V F
def hkA : OpF := orH (hkPut 75) (hkDel 75)
def spLay : CallF := spLH [(57, Lp.spTake), (43, spClone [.u64] 32)] (orH (hkXLen 22) hkA)
end Ar
end Go.Proofs.Ytighjgmgpphohaa
end
section
namespace Go.Proofs.Ytighjgmgpphohaa
open Go.Vm Go.Vm.Le Go.Vm.Mb
namespace Ar
def FA : Nat -> Int -> Int -> Int := fun k => if k = 60 then fHas else if k = 61 then fHnd else if k = 62 then fLen else if k = 63 then fRow else if k = 64 then fPut else if k = 65 then fDel
 else if k = 80 then (fun x _ => Lp.sLf x) else if k = 81 then (fun x _ => Lp.takeC x) else if k = 82 then Lp.giveC else if k = 83 then (fun x n => if n ∈ Lp.sK x then 1 else 0) else if k = 84 then (fun x _ => ((Lp.sK x).length : Int)) else if k = 85 then (fun x _ => Lp.sHigh x)
 else if k = 86 then (fun x _ => if Lp.sLf x = 0 then 20 else 0) else if k = 87 then (fun x n => if n ∈ Lp.sK x then 0 else 21) else fun _ _ => 0
theorem FA_ok {I : Nat -> Int} {B : Nat -> Bool} {S : Nat -> ByteArray} {V : Nat -> Value} : GAr I B S V FA := ⟨⟨rfl, rfl, rfl, rfl, rfl, rfl, rfl, rfl⟩, rfl, rfl, rfl, rfl, rfl, rfl⟩
theorem len20 {A : List Int} (h : A.length = 20) : ∃ a0 a1 a2 a3 a4 a5 a6 a7 a8 a9 a10 a11 a12 a13 a14 a15 a16 a17 a18 a19, A = [a0, a1, a2, a3, a4, a5, a6, a7, a8, a9, a10, a11, a12, a13, a14, a15, a16, a17, a18, a19] := by
 match A, h with
 | [a0, a1, a2, a3, a4, a5, a6, a7, a8, a9, a10, a11, a12, a13, a14, a15, a16, a17, a18, a19], _ => exact ⟨a0, a1, a2, a3, a4, a5, a6, a7, a8, a9, a10, a11, a12, a13, a14, a15, a16, a17, a18, a19, rfl⟩
def envA (A : List Int) (cs cb z0 z1 z2 : Int) (b bs bm : Nat) : Env :=
 ⟨fun i => if i = 220 then cs else if i = 221 then cb else if i = 222 then z0 else if i = 223 then z1 else if i = 224 then z2 else A.getD (i - 200) 0, fun _ => false, fun _ => default, fun _ => undef, fun i => if i = 0 then some b else if i = 1 then some bs else if i = 2 then some bm else none, FA⟩
theorem start_A {A : List Int} {most : Int} {hi : Nat} {K : List Int} {es : Es} {w : World} {b : Nat} {F : Nat -> Prop} (s : ArenaIn A most hi K es w b F) (z0 z1 z2 : Int) :
 ∃ bs bm, HRel ⟨w, F, GAr⟩ (envA A (encL (most :: (hi : Int) :: K)) (codeE es) z0 z1 z2 b bs bm) (ofP hA) 3 w := by
 obtain ⟨hl, c, fr, bs, bm, F1, F2, hb, hc, hf, h1, h2, n1, n2, n3, hF⟩ := s
 obtain ⟨a0, a1, a2, a3, a4, a5, a6, a7, a8, a9, a10, a11, a12, a13, a14, a15, a16, a17, a18, a19, rfl⟩ := len20 hl
 have hsize : c.size = 22 := by
  have := congrArg List.length hc
  simpa [arenaC] using this
 have r1 := h1.root
 have r2 := h2.root
 have e1 : b ≠ bs := fun e => n1 (e ▸ r1)
 have e2 : b ≠ bm := fun e => n2 (e ▸ r2)
 have e3 : bs ≠ bm := fun e => n3 bs r1 (e ▸ r2)
 have mem : ∀ {p : Nat × HB}, p ∈ hA -> p = (0, arB) ∨ p = (1, stB) ∨ p = (2, blB) := fun {p} hp => by
  simpa only [hA, List.mem_cons, List.not_mem_nil, or_false] using hp
 refine ⟨bs, bm, HRel.ownedB hA (fun p hp => ?_) (fun p hp q hq _ he => ?_) (fun p hp _ y hy => ?_) (fun i hi' => ?_) FA_ok ⟨fun l => if l = 1 then F1 else F2, fun l k cc rw hl => ?_, fun l l' k cc rw h' hl hl' hne y hy => ?_⟩⟩
 · rcases mem hp with rfl | rfl | rfl
   · exact ⟨b, _, rfl, hb, _, c, fr, rfl, rfl, by rw [hc]; exact List.prefix_refl _, hsize, fun _ => hf⟩
   · obtain ⟨o, ho⟩ : ∃ o, w.heap[bs]? = some o := ⟨_, Array.getElem?_eq_getElem (h1.lt r1)⟩
     exact ⟨bs, o, rfl, ho, _, rfl⟩
   · obtain ⟨o, ho⟩ : ∃ o, w.heap[bm]? = some o := ⟨_, Array.getElem?_eq_getElem (h2.lt r2)⟩
     exact ⟨bm, o, rfl, ho, _, rfl⟩
 · rcases mem hp with rfl | rfl | rfl <;> rcases mem hq with rfl | rfl | rfl
   · rfl
   · exact absurd (Option.some.inj he) e1
   · exact absurd (Option.some.inj he) e2
   · exact absurd (Option.some.inj he).symm e1
   · rfl
   · exact absurd (Option.some.inj he) e3
   · exact absurd (Option.some.inj he).symm e2
   · exact absurd (Option.some.inj he).symm e3
   · rfl
 · rcases mem hp with rfl | rfl | rfl
   · cases hy; exact (hF _).2 (.inl rfl)
   · cases hy; exact (hF _).2 (.inr (.inl r1))
   · cases hy; exact (hF _).2 (.inr (.inr r2))
 · show (if i = 0 then some b else if i = 1 then some bs else if i = 2 then some bm else none) = none
   rw [if_neg (by omega), if_neg (by omega), if_neg (by omega)]
 · rcases mem (ofP_mem hl) with e | e | e
   · cases e
   · cases e
     exact ⟨bs, _, rfl, rfl, fam0 h1, fun _ y hy => .inr ((hF y).2 (.inr (.inl hy)))⟩
   · cases e
     exact ⟨bm, _, rfl, rfl, fam1 h2, fun _ y hy => .inr ((hF y).2 (.inr (.inr hy)))⟩
 · rcases mem (ofP_mem hl) with e | e | e
   · cases e
   · cases e
     simp only [if_true] at hy
     rcases mem (ofP_mem hl') with e' | e' | e'
     · cases e'
       exact ⟨fun e => n1 (by rw [Option.some.inj e]; exact hy), fun e => by cases e⟩
     · cases e'; exact absurd rfl hne
     · cases e'
       exact ⟨fun e => n3 _ hy (by rw [<- Option.some.inj e]; exact r2), fun _ => n3 y hy⟩
   · cases e
     have hy : F2 y := hy
     rcases mem (ofP_mem hl') with e' | e' | e'
     · cases e'
       exact ⟨fun e => n2 (by rw [Option.some.inj e]; exact hy), fun e => by cases e⟩
     · cases e'
       exact ⟨fun e => n3 bs r1 (by rw [Option.some.inj e]; exact hy), fun _ h => n3 y h hy⟩
     · cases e'; exact absurd rfl hne
def SomeA (w : World) (b : Nat) (F : Nat -> Prop) : Prop := ∃ A most hi K es, ArenaIn A most hi K es w b F
theorem end_A2 {w w' : World} {b : Nat} {F : Nat -> Prop} {G : GP} {ρ : Env} {nl : Nat} (hr : HRel ⟨w, F, G⟩ ρ (ofP hA) nl w') (hb : ρ.N 0 = some b) :
 ∃ F' most hi K es, BigStep w w' F F' /\ ρ.I 220 = encL (most :: ((hi : Nat) : Int) :: K) /\ ρ.I 221 = codeE es /\ ArenaIn ((List.range 20).map fun i => ρ.I (200 + i)) most hi K es w' b F' := by
 obtain ⟨Fp, hB⟩ := hr.big
 have g0 : (ofP hA).get 0 = some arB := rfl
 have g1 : (ofP hA).get 1 = some stB := rfl
 have g2 : (ofP hA).get 2 = some blB := rfl
 obtain ⟨b0, o, hb0, ho, xs, c, fr, rfl, hd, hp, ht, hf⟩ := hr.blk 0 _ g0
 rw [hb] at hb0; cases hb0
 obtain ⟨bs, x1, N1, d1, f1, o1⟩ := hB.ok 1 0 (.var 220) true g1
 obtain ⟨bm, x2, N2, d2, f2, o2⟩ := hB.ok 2 1 (.var 221) true g2
 obtain ⟨most, hi, K, e220, s1⟩ := fam0_inv f1
 obtain ⟨es, e221, s2⟩ := fam1_inv f2
 have d1 : ρ.I 220 = x1 := Option.some.inj d1
 have d2 : ρ.I 221 = x2 := Option.some.inj d2
 have hd2 : xs = arenaC ((List.range 20).map fun i => ρ.I (200 + i)) (.pointer (some ⟨bs, 0, none⟩)) (.map (some bm)) := by
  have h3 : AVal.denL ρ [iV 200, iV 201, iV 202, iV 203, uV 204, uV 205, uV 206, uV 207, uV 208, uV 209, uV 210, uV 211, uV 212, uV 213, .ptr 1 (.lit 0), .map 2, iV 214, iV 215, iV 216, iV 217, iV 218, iV 219] = some (arenaC ((List.range 20).map fun i => ρ.I (200 + i)) (.pointer (some ⟨bs, 0, none⟩)) (.map (some bm))) := by
   simp only [AVal.denL, iV, uV, AVal.den, IT.den, Option.map_some, N1, N2]
   rfl
  exact Option.some.inj (hd.symm.trans h3)
 subst hd2
 have hc : c.toList = arenaC ((List.range 20).map fun i => ρ.I (200 + i)) (.pointer (some ⟨bs, 0, none⟩)) (.map (some bm)) := by
  obtain ⟨t, ht'⟩ := hp
  have hl : c.toList.length = 22 := by
   have : c.size = 22 := ht
   simpa using this
  rw [<- ht'] at hl ⊢
  have : t = [] := by
   have h0 : (arenaC ((List.range 20).map fun i => ρ.I (200 + i)) (.pointer (some ⟨bs, 0, none⟩)) (.map (some bm))).length = 22 := rfl
   rw [List.length_append, h0] at hl
   exact List.eq_nil_of_length_eq_zero (by omega)
  rw [this, List.append_nil]
 have orr : ∀ {y}, Base.dom ⟨w, F, G⟩ y -> F y ∨ w.heap.size <= y := fun h => h.symm
 refine ⟨fun y => y = b ∨ Fp 1 y ∨ Fp 2 y, most, hi, K, es, ⟨hr.size, hr.frame, hr.tape, hr.os, hr.out, fun y hy => ?_⟩, d1.trans e220, d2.trans e221, ⟨rfl, c, fr, bs, bm, Fp 1, Fp 2, ho, hc, hf rfl, s1, s2, fun h => ?_, fun h => ?_, fun y h => ?_, fun y => Iff.rfl⟩⟩
 · rcases hy with rfl | h | h
   · exact orr (hr.own 0 _ _ g0 rfl hb)
   · exact orr (o1 rfl y h)
   · exact orr (o2 rfl y h)
 · exact (hB.apart 1 0 _ _ _ _ g1 g0 (by decide) b h).1 hb
 · exact (hB.apart 2 0 _ _ _ _ g2 g0 (by decide) b h).1 hb
 · exact (hB.apart 1 2 _ _ _ _ g1 g2 (by decide) y h).2 rfl
theorem end_A {w w' : World} {b : Nat} {F : Nat -> Prop} {ρ : Env} {nl : Nat} (hr : HRel ⟨w, F, GAr⟩ ρ (ofP hA) nl w') (hb : ρ.N 0 = some b) : ∃ F', BigStep w w' F F' /\ SomeA w' b F' := by
 obtain ⟨F', most, hi, K, es, h1, _, _, h2⟩ := end_A2 hr hb
 exact ⟨F', h1, _, most, hi, K, es, h2⟩
def okA : LM -> Bool
 | .done 0 [] σ => match σ.N with
  | [(0, 0), (1, 1), (2, 2)] => true
  | _ => false
 | _ => false
theorem okA_inv {s : LM} (h : okA s = true) : ∃ σ, s = .done 0 [] σ /\ σ.N = [(0, 0), (1, 1), (2, 2)] := by
 unfold okA at h
 split at h
 · rename_i σ
   split at h
   · rename_i hN
     exact ⟨σ, rfl, hN⟩
   · cases h
 · cases h
def RA (w : World) (b : Nat) (F : Nat -> Prop) (Q : Value -> Prop) : Value -> World -> Prop := fun x w' => Q x /\ ∃ F', BigStep w w' F F' /\ SomeA w' b F'
theorem call_A {f : FuncId} {fn : Func} {c : Code} {E : Exts} {sp : CallF} {pl : PL} {n : Nat} {args : List AVal} {xs : List Value} {H : Heap} {cs : Cs} {u : AVal} {w : World} {b : Nat} {F : Nat -> Prop} {ρ : Env} {Q : Value -> Prop} {nl : Nat}
 (hE : ExtOk Try.prog E) (hsp : CallOk Try.prog ⟨w, F, GAr⟩ sp) (hf : Try.prog.funcs[f]? = some fn) (hb : fn.body = some c)
 (hrun : ((run Try.prog E sp n pl f (entry fn c args H nl cs)).map fun ls => (ls.filterMap (sumMD gA [0, 1, 2] (eA u) [])).all okA) = some true)
 (hx : AVal.denL ρ args = some xs) (hr : HRel ⟨w, F, GAr⟩ ρ H nl w) (hcs : CRel ρ cs) (hN : ρ.N 0 = some b) (hQ : ∀ ρ x, u.den ρ = some x -> Q x) :
 Calls Try.prog f xs.toArray w (fun e w' => ∃ v, e = .returned v /\ RA w b F Q v w') := by
 obtain ⟨ls, hls, hall⟩ := Option.map_eq_some_iff.1 hrun
 refine calls_sumsE (β := ⟨w, F, GAr⟩) (R := RA w b F Q) (g := gA) (L := [0, 1, 2]) (Rs := eA u) (Ts := []) (pl := pl) noCount hE hsp follows hf hb (by rw [hls]; rfl) hx hr hcs fun s hs => ?_
 obtain ⟨σ, rfl, hσ⟩ := okA_inv (List.all_eq_true.1 hall s hs)
 refine doneR (T := ⟨[(0, u)], 1, hA, 5, [], 0⟩) rfl fun ρ' hle hG => ⟨hG, CRel_nil.2 trivial, fun x w' r => ?_⟩
 obtain ⟨y, hy, he⟩ := r.t 0 u rfl
 obtain rfl : x = y := Option.some.inj he
 refine ⟨hQ _ _ hy, end_A r.h ?_⟩
 show (σ.app ρ').N 0 = some b
 have : (σ.app ρ').N 0 = ρ'.N 0 := by simp only [Sub.app, hσ]; rfl
 rw [this]; exact hle.n _ _ hN
end Ar
end Go.Proofs.Ytighjgmgpphohaa
end
