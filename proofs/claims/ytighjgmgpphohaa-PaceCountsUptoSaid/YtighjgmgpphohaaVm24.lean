/- A machine for abstract states over the model (part 21): what is known of functions, with memory; rows that came in. -/
import Derived.Test.YtighjgmgpphohaaVm20
import Derived.Laws.BitsLemmas
import Derived.Laws.Bits64
import Derived.Test.YtighjgmgpphohaaChecked
import Derived.Test.YtighjgmgpphohaaRows
import Derived.WalkKit
import Derived.ProofKit
import Derived.OpenShut
import Derived.Deep.DeepHandedRow
section
namespace Go.Vm
abbrev SpG := List AVal -> Heap -> Nat -> Cs -> Option (List Leaf)
def SpGOk (P : Program) (β : Base) (g : FuncId) (F : SpG) : Prop := ∀ args H nl cs ls ρ w xs, F args H nl cs = some ls -> AVal.denL ρ args = some xs -> HRel β ρ H nl w -> CRel ρ cs ->
 Calls P g xs.toArray w (fun e w' => ∃ v, e = .returned v /\ ∃ u H' nl' cs' ρ', Leaf.ret u H' nl' cs' ∈ ls /\ ρ.Le ρ' /\ u.den ρ' = some v /\ HRel β ρ' H' nl' w' /\ CRel ρ' cs')
def spLH (L : List (FuncId × SpG)) (hk : OpF) : CallF := ⟨fun g args H nl cs => (match lk L g with
 | some F => F args H nl cs
 | none => none), hk⟩
def spL (L : List (FuncId × SpG)) : CallF := spLH L noOp
theorem spLH_ok {P : Program} {β : Base} {L : List (FuncId × SpG)} {hk : OpF} (h : ∀ p ∈ L, SpGOk P β p.1 p.2) (g : HookOk P β hk) : CallOk P β (spLH L hk) := by
 refine ⟨?_, g⟩
 intro g args H nl cs ls ρ w xs hr hx hh hc _
 simp only [spLH] at hr
 split at hr
 · rename_i F hF
   exact h _ (lk_mem hF) args H nl cs ls ρ w xs hr hx hh hc
 · cases hr
theorem spL_ok {P : Program} {β : Base} {L : List (FuncId × SpG)} (h : ∀ p ∈ L, SpGOk P β p.1 p.2) : CallOk P β (spL L) := spLH_ok h noOp_ok
theorem spV_ok {P : Program} {β : Base} {g : FuncId} {xs : List Value} {ρ : Env} {w : World} {H : Heap} {nl : Nat} {cs : Cs} {u : AVal} {x : Value}
 (h : Calls P g xs.toArray w (fun e w' => e = .returned x /\ Framed w w')) (hu : u.den ρ = some x) (hh : HRel β ρ H nl w) (hc : CRel ρ cs) :
 Calls P g xs.toArray w (fun e w' => ∃ v, e = .returned v /\ ∃ u' H' nl' cs' ρ', Leaf.ret u' H' nl' cs' ∈ [Leaf.ret u H nl cs] /\ ρ.Le ρ' /\ u'.den ρ' = some v /\ HRel β ρ' H' nl' w' /\ CRel ρ' cs') :=
 h.mono fun _ _ ⟨he, hf⟩ => ⟨x, he, u, H, nl, cs, ρ, List.mem_cons_self, Env.Le.refl ρ, hu, hh.framed hf, hc⟩
def spTrue : SpG := fun args H nl cs => match args with
 | [] => some [.ret (.bool (.lit true)) H nl cs]
 | _ => none
theorem spTrue_ok {P : Program} {β : Base} {g : FuncId} (h : ∀ w, Calls P g #[] w (fun e w' => e = .returned (.bool true) /\ Framed w w')) : SpGOk P β g spTrue := by
 intro args H nl cs ls ρ w xs hr hx hh hc
 unfold spTrue at hr
 split at hr
 · cases hr; cases hx
   exact spV_ok (h w) rfl hh hc
 · cases hr
structure RowAt (w : World) (b o : Nat) (ks : List IntKind) (m : Nat) (v : Value) : Prop where
 row : ∃ c fr el xs, w.heap[b]? = some (.cells c el fr) /\ aggCells v = some xs /\ o <= c.size /\ xs <+: c.toList.drop o /\ Typed ks m xs
theorem CRel_cons {ρ : Env} {t : BT} {b : Bool} {cs : Cs} : CRel ρ ((t, b) :: cs) ↔ t.den ρ = some b /\ CRel ρ cs :=
 ⟨fun h => ⟨h _ List.mem_cons_self, fun p hp => h p (List.mem_cons_of_mem _ hp)⟩, fun h => h.2.cons h.1⟩
theorem CRel_nil {ρ : Env} : CRel ρ [] ↔ True := ⟨fun _ => trivial, fun _ _ h => by cases h⟩
end Go.Vm
end
section
namespace Go.Proofs.Ytighjgmgpphohaa
open Go.ChangeShapes Go.WideShapes Go.ChangeAt Go.RowKit Go.Vm
theorem noCount : NoCount Try.prog := by
 intro g fn h
 have h1 : (Try.prog.funcs.toList.all fun fn => !(fn.name == "runtime.NumGoroutine")) = true := by kernel_rfl
 have h2 : fn ∈ Try.prog.funcs.toList := Array.mem_toList_iff.2 (Array.mem_of_getElem? h)
 have h3 := List.all_eq_true.1 h1 fn h2
 simpa using h3
theorem follows : Try.prog.follows .mixedOrders = true := by kernel_rfl
def F0 : Nat -> Int -> Int -> Int := fun _ _ _ => 0
section
variable {H : Type} {enc : TypeId × Value -> H} {P : Program} {W W' : World}
theorem below_of_framed (f : Framed W W') : Below W.heap.size W W' := ⟨f.os, f.tape, f.out, f.size, f.frame⟩
theorem all_stay (hl : laidOutB P = true) {sp : Nat -> Bool} (hb : Below W.heap.size W W') : ∀ {ts : List TypeId} {vs : List Value} {ds : List (DataW H)} {ps : List MemPlace},
 (∀ t ∈ ts, P.readableRec t = true /\ t < P.types.size) -> DataW.TrodAll enc P W 0 (fun _ => true) true ts vs ds ps -> (∀ x ∈ ps, x.block < W.heap.size) -> (∀ x ∈ ps, sp x.block = true) -> DataW.TrodAll enc P W' 0 sp true ts vs ds ps
 | [], vs, ds, ps, _, h, _, _ => by
  obtain ⟨rfl, rfl, rfl⟩ := trodAll_nil h
  exact trodAll_mk0
 | t :: ts, vs, ds, ps, ht, h, hlt, hs => by
  obtain ⟨v, vs', d, ds', p, q, rfl, rfl, rfl, h1, h2⟩ := trodAll_cons h
  obtain ⟨hr, hrow⟩ := ht t List.mem_cons_self
  exact trodAll_cons_mk
   (WideElems.Trod_stays hl hr hrow h1 (fun x hx => hb.same (hlt x (List.mem_append.2 (.inl hx)))) (fun x hx => hs x (List.mem_append.2 (.inl hx))))
   (all_stay hl hb (fun u hu => ht u (List.mem_cons_of_mem _ hu)) h2 (fun x hx => hlt x (List.mem_append.2 (.inr hx))) (fun x hx => hs x (List.mem_append.2 (.inr hx))))
theorem law_shut (hl : laidOutB P = true) {f : Func} {s : ChangeSpec} {apart fresh handsOn again : Bool} {args : Array Value} {ds gs : List (DataW H)} {before : List MemPlace}
 (hts : ∀ t ∈ f.params.toList, P.readableRec t = true /\ t < P.types.size) {tb : TypeId} (hrt : f.resultTypes = #[tb]) (hub : P.underlying tb = some .bool)
 (hW : DataW.Whole enc P f.params.toList s.vars apart W args.toList ds gs before) (hsv : s.vars = []) (hres : (s.fn H ds).results = [.lit (.bool true)]) (hargs : (s.fn H ds).args = ds) (hvars : (s.fn H ds).vars = [])
 (hb : Below W.heap.size W W') : s.post enc P f apart fresh handsOn again W args (.bool true) W' := by
 have hW' := hW
 have hlt : ∀ x ∈ before, x.block < W.heap.size := fun x hx => hW.lt x hx
 obtain ⟨pa, pv, hA, hV, rfl, hz, hn⟩ := hW
 rw [hsv] at hV
 obtain ⟨rfl, rfl⟩ := trodVars_none hV
 have hR : ∀ (b : Nat) (sp : Nat -> Bool) (hd : Bool), DataW.TrodAll enc P W' b sp hd f.resultTypes.toList ((Value.bool true).resultList f.resultTypes.size) (s.fn H (ds ++ [])).results [] := by
  intro b sp hd
  rw [List.append_nil, hres, hrt]
  exact trodAll_mk1 (shut_bool hub _)
 have hA' : ∀ sp : Nat -> Bool, (∀ p ∈ pa ++ [], sp p.block = true) -> DataW.TrodAll enc P W' 0 sp true f.params.toList args.toList (s.fn H (ds ++ [])).args pa := by
  intro sp hsp
  rw [List.append_nil, hargs]
  exact all_stay hl hb hts hA (fun x hx => hlt x (List.mem_append.2 (.inl hx))) (fun x hx => hsp x (List.mem_append.2 (.inl hx)))
 have hV' : ∀ sp : Nat -> Bool, DataW.TrodVars enc P W' sp s.vars (s.fn H (ds ++ [])).vars [] := by
  intro sp
  rw [List.append_nil, hvars, hsv]
  rfl
 have hold : ∀ p ∈ pa ++ [], (fun b => decide (b < W.heap.size)) p.block = true := fun p hp => by simpa using hlt p hp
 refine ⟨ds, [], pa ++ [], [], pa, [], hW', hR _ _ _, hA' _ hold, hV' _, hb.frame _, fun _ => ⟨ok_one hrt rfl (okWide_bool_mk hub _), _, _, ([] ++ pa) ++ [], ⟨[] ++ pa, [], trodAll_append (hA' _ (fun _ _ => rfl)) (hR _ _ _), hV' _, rfl, ?_, ?_⟩, ?_⟩⟩
 · intro b off hp
   have hp' : MemPlace.cell b off ∈ pa ++ [] := by simpa using hp
   rw [hb.frozen (p := ⟨b, off, none⟩) (hlt _ hp')]
   exact hz b off hp'
 · intro ha
   simpa using hn ha
 · intro p hp _
   simpa using hp
end
theorem lk_cons {α : Type} (i j : Nat) (x : α) (r : List (Nat × α)) : lk ((i, x) :: r) j = if i = j then some x else lk r j := by
 simp only [lk]
 by_cases h : i = j
 · subst h; simp
 · have : Nat.beq i j = false := by
    cases hb : Nat.beq i j with
    | false => rfl
    | true => exact absurd (Nat.eq_of_beq_eq_true hb) h
   simp [this, h]
theorem lk_nil {α : Type} (j : Nat) : lk ([] : List (Nat × α)) j = none := rfl
theorem calls_true {β : Base} {E : Exts} (hE : ExtOk Try.prog E) {sp : CallF} (hsp : CallOk Try.prog β sp) (hown : β.own = noO) {n : Nat} {f : FuncId} {fn : Func} {c : Code} {args : List AVal} {xs : List Value} {H : Heap} {nl : Nat} {cs : Cs} {ρ : Env} {w : World}
 (hf : Try.prog.funcs[f]? = some fn) (hb : fn.body = some c) (hrun : (run Try.prog E sp n false f (entry fn c args H nl cs)).map (·.all (leafB (.lit true))) = some true) (hx : AVal.denL ρ args = some xs) (hr : HRel β ρ H nl w) (hcs : CRel ρ cs) :
 Calls Try.prog f xs.toArray w (fun e w' => e = .returned (.bool true) /\ Framed β.w0 w') := by
 obtain ⟨ls, hls, hall⟩ := Option.map_eq_some_iff.1 hrun
 have fr : ∀ {ρ' : Env} {H' : Heap} {nl' : Nat} {w' : World}, HRel β ρ' H' nl' w' -> Framed β.w0 w' := fun hr => ⟨hr.size, fun b hb => hr.frame b hb (by rw [hown]; exact id), hr.tape, hr.os, hr.out⟩
 refine (run_calls noCount hE hsp follows hf hb hls hx hr hcs (R := fun v w' => v = .bool true /\ Framed β.w0 w') (fun l hl => ?_)).mono fun e w' ⟨v, he, hv, hfr⟩ => ⟨by rw [he, hv], hfr⟩
 have h1 := List.all_eq_true.1 hall l hl
 cases l with
 | stop cs' => exact dead_ok h1
 | pause S => exact fun ρ' a' w' hle hr => (dead_ok (ρ := ρ) h1 ρ' hle hr.c).elim
 | ret v H nl cs' =>
  intro ρ' w' x hle hxd hr hc'
  refine ⟨?_, fr hr⟩
  unfold leafB at h1
  split at h1
  · rename_i b' _ _ cs'' heq
    cases heq
    have := den_litb hxd
    subst this
    cases b' with
    | true => rfl
    | false => exact (dead_ok (ρ := ρ') h1 ρ' (Env.Le.refl ρ') (hc'.cons rfl)).elim
  · rename_i t _ _ cs'' _ heq
    cases heq
    obtain ⟨b', rfl, hb'⟩ := den_bool hxd
    simp only [Bool.and_eq_true] at h1
    cases b' with
    | true => rfl
    | false => exact (dead_ok (ρ := ρ') h1.1 ρ' (Env.Le.refl ρ') ((hc'.cons hb').cons rfl)).elim
  · rename_i heq
    cases heq
    exact (dead_ok (ρ := ρ) h1 ρ' hle hc').elim
  · rename_i heq; cases heq
  · rename_i heq; cases heq
end Go.Proofs.Ytighjgmgpphohaa
end
section
namespace Go.Vm
def prB (a b : Nat × Nat) : Bool := Nat.beq a.1 b.1 && Nat.beq a.2 b.2
theorem HRel.sub {β : Base} {ρ : Env} {H H2 : Heap} {nl : Nat} {w : World} (h : HRel β ρ H nl w) (hs : ∀ l k, H2.get l = some k -> H.get l = some k) : HRel β ρ H2 nl w :=
 ⟨fun l k hl => h.blk l k (hs l k hl), fun l l' k k' hl hl' => h.inj l l' k k' (hs l k hl) (hs l' k' hl'), fun l k b hl => h.own l k b (hs l k hl), h.fresh, h.ownN, h.size, h.frame, h.tape, h.os, h.out, h.g, h.big.imp fun _ hB => hB.sub hs⟩
structure Clo where
 g : FuncId
 args : List AVal
 h : List (Nat × HB)
 nl : Nat
 u : AVal
 h' : List (Nat × HB)
 nl' : Nat
end Go.Vm
end
section
namespace Go.Vm
def retSt (v : AVal) (H : Heap) (nl : Nat) (cs : Cs) : St := ⟨[], ofP [(0, v)], 1, H, nl, cs⟩
inductive LM where
 | done (q : Nat) (cs : Cs) (σ : Sub)
 | next (q : Nat) (todo : List Item) (cs : Cs) (σ : Sub)
 | stop (cs : Cs)
 | bad
section
variable {P : Program} {β : Base} {f : FuncId} {R : Value -> World -> Prop}
end
end Go.Vm
end
section
namespace Go.Vm
theorem HRel.adopt {β : Base} {ρ : Env} {H : Heap} {nl : Nat} {w w' : World} (h : HRel β ρ H nl w) (f : Framed w w') {b : Nat} {o : Obj} (hb : w.heap.size <= b) (ho : w'.heap[b]? = some o) {k : ABlk} {rw : Bool} (hk : k.rel (ρ.put nl b) rw o) (hnb : k.nb = true := by rfl) :
 HRel β (ρ.put nl b) (H.set nl ⟨k, rw⟩) (nl + 1) w' := by
 have hle : ρ.Le (ρ.put nl b) := Env.le_put (h.fresh nl (Nat.le_refl _))
 have hf := h.framed f
 have hn := hf.num b
 have hne : ∀ l k' c, H.get l = some k' -> ρ.N l = some c -> c ≠ b := fun l k' c hl hc => by
  have := h.lt hl hc; omega
 refine ⟨fun l k' hl => ?_, fun l l' k1 k2 hl hl' hr he => ?_, fun l k' b' hl hr hb' => ?_, hn.fresh, hn.ownN, hn.size, fun b' hb' hf' => hn.frame b' hb' hf', hn.tape, hn.os, hn.out, hn.g, h.num b |>.big.imp fun Fp hB => hB.set hnb (Env.put_same ..) (fun l k c rw hl _ hy => ?_) (fun y _ hy => f.frame y hy)⟩
 · rcases Tr.get_set hl with ⟨rfl, rfl⟩ | ⟨hne', hl⟩
   · exact ⟨b, o, Env.put_same .., ho, hk⟩
   · exact hn.blk l k' hl
 · rcases Tr.get_set hl with ⟨e1, e2⟩ | ⟨hne1, g1⟩
   · rcases Tr.get_set hl' with ⟨e3, e4⟩ | ⟨hne2, g2⟩
     · rw [e1, e3]
     · obtain ⟨c, o', hc, _⟩ := h.blk l' k2 g2
       rw [e1, Env.put_same, Env.put_other ρ _ hne2, hc] at he
       injection he with he
       exact absurd he.symm (hne l' k2 c g2 hc)
   · rcases Tr.get_set hl' with ⟨e3, e4⟩ | ⟨hne2, g2⟩
     · obtain ⟨c, o', hc, _⟩ := h.blk l k1 g1
       rw [e3, Env.put_same, Env.put_other ρ _ hne1, hc] at he
       injection he with he
       exact absurd he (hne l k1 c g1 hc)
     · exact hn.inj l l' k1 k2 g1 g2 hr he
 · rcases Tr.get_set hl with ⟨rfl, rfl⟩ | ⟨hne', hl⟩
   · rw [Env.put_same] at hb'; cases hb'
     exact .inl (Nat.le_trans h.size hb)
   · exact hn.own l k' b' hl hr hb'
 · obtain ⟨_, _, _, _, e3, _⟩ := hB.ok _ _ _ _ hl
   exact absurd (fam_lt e3 hy) (by omega)
end Go.Vm
end
