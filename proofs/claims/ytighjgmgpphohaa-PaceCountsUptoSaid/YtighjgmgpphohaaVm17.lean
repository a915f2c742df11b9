/- A machine for abstract states over the model (part 16): it runs, and so does the program. -/
import Derived.Test.YtighjgmgpphohaaVm15
section
namespace Go.Vm
section
variable {P : Program} {β : Base}
theorem Goes.one {f : FuncId} {R : Value -> World -> Prop} {todo todo' : List Item} {a a' : Act} {w w' : World} (h : ∀ cs, Go.step P (lone ((base f).at a todo) cs w) = Stepped.next (lone ((base f).at a' todo') cs w')) (g : Goes P f R todo' a' w') : Goes P f R todo a w :=
 Goes.step (fun cs => Steps.one (h cs)) g
theorem CRel.cons {ρ : Env} {t : BT} {b : Bool} {cs : Cs} (h : t.den ρ = some b) (c : CRel ρ cs) : CRel ρ ((t, b) :: cs) := fun p hp => by
 rcases List.mem_cons.1 hp with rfl | hp
 · exact h
 · exact c p hp
def Stood (β : Base) (lo : Nat) (L : List SO) : SO -> Prop
 | .stop cs => SO.stop cs ∈ L
 | .st S => ∃ Y, SO.st Y ∈ L /\ Cov β lo S Y
theorem Stood.self {lo : Nat} {L : List SO} {x : SO} (h : x ∈ L) : Stood β lo L x := by
 cases x with
 | stop cs => exact h
 | st S => exact ⟨S, h, Cov.refl β lo S⟩
theorem Stood.trans {lo : Nat} {L M : List SO} (h : ∀ x ∈ L, Stood β lo M x) {x : SO} (g : Stood β lo L x) : Stood β lo M x := by
 cases x with
 | stop cs => exact h _ g
 | st S =>
  obtain ⟨Y, hY, hc⟩ := g
  obtain ⟨Z, hZ, hc'⟩ := h _ hY
  exact ⟨Z, hZ, hc.trans hc'⟩
theorem Stood.mono {lo : Nat} {L M : List SO} (h : ∀ x ∈ L, x ∈ M) {x : SO} (g : Stood β lo L x) : Stood β lo M x := Stood.trans (fun x hx => Stood.self (h x hx)) g
theorem mergeIn_ok {lo : Nat} {S : St} : ∀ {L M : List SO}, mergeIn lo S L = some M -> Stood β lo M (.st S) /\ ∀ x ∈ L, Stood β lo M x
 | [], M, h => by cases h
 | .st X :: r, M, h => by
  simp only [mergeIn] at h
  split at h
  · rename_i Y hY
    cases h
    obtain ⟨h1, h2⟩ := mergeSt_ok (β := β) hY
    refine ⟨⟨Y, List.mem_cons_self, h1⟩, fun x hx => ?_⟩
    rcases List.mem_cons.1 hx with rfl | hx
    · exact ⟨Y, List.mem_cons_self, h2⟩
    · exact Stood.self (List.mem_cons_of_mem _ hx)
  · obtain ⟨M', hM, rfl⟩ := Option.map_eq_some_iff.1 h
    obtain ⟨h1, h2⟩ := mergeIn_ok hM
    refine ⟨h1.mono fun x hx => List.mem_cons_of_mem _ hx, fun x hx => ?_⟩
    rcases List.mem_cons.1 hx with rfl | hx
    · exact Stood.self List.mem_cons_self
    · exact (h2 x hx).mono fun x hx => List.mem_cons_of_mem _ hx
 | .stop cs :: r, M, h => by
  simp only [mergeIn] at h
  obtain ⟨M', hM, rfl⟩ := Option.map_eq_some_iff.1 h
  obtain ⟨h1, h2⟩ := mergeIn_ok hM
  refine ⟨h1.mono fun x hx => List.mem_cons_of_mem _ hx, fun x hx => ?_⟩
  rcases List.mem_cons.1 hx with rfl | hx
  · exact Stood.self List.mem_cons_self
  · exact (h2 x hx).mono fun x hx => List.mem_cons_of_mem _ hx
theorem dedupe_ok {lo : Nat} : ∀ {L acc : List SO}, ∀ x, x ∈ L ∨ x ∈ acc -> Stood β lo (dedupe lo L acc) x
 | [], acc, x, h => by
  rcases h with h | h
  · cases h
  · exact Stood.self h
 | .stop cs :: r, acc, x, h => by
  simp only [dedupe]
  refine dedupe_ok (L := r) x ?_
  rcases h with h | h
  · rcases List.mem_cons.1 h with rfl | h
    · exact .inr List.mem_cons_self
    · exact .inl h
  · exact .inr (List.mem_cons_of_mem _ h)
 | .st S :: r, acc, x, h => by
  simp only [dedupe]
  split
  · rename_i acc' hm
    obtain ⟨h1, h2⟩ := mergeIn_ok (β := β) hm
    have key : ∀ y ∈ acc', Stood β lo (dedupe lo r acc') y := fun y hy => dedupe_ok (L := r) y (.inr hy)
    rcases h with h | h
    · rcases List.mem_cons.1 h with rfl | h
      · exact Stood.trans key h1
      · exact dedupe_ok (L := r) x (.inl h)
    · exact Stood.trans key (h2 x h)
  · refine dedupe_ok (L := r) x ?_
    rcases h with h | h
    · rcases List.mem_cons.1 h with rfl | h
      · exact .inr List.mem_cons_self
      · exact .inl h
    · exact .inr (List.mem_cons_of_mem _ h)
theorem run_sound (hc : NoCount P) {E : Exts} (hE : ExtOk P E) {sp : CallF} (hsp : CallOk P β sp) (hm : P.follows .mixedOrders = true) : ∀ (n : Nat) (pl : PL) (f : FuncId) (S : St) (ls : List Leaf) (ρ : Env) (a : Act) (w : World) (R : Value -> World -> Prop),
 run P E sp n pl f S = some ls -> SRel β ρ S a w -> (∀ l ∈ ls, Good P β ρ f R l) -> Goes P f R S.todo a w := by
 intro n
 induction n with
 | zero => intro pl f S ls ρ a w R h; simp [run] at h
 | succ n ih =>
  intro pl f S ls ρ a w R h r hg
  have hcall : CallOk P β ⟨fun g args H nl cs => (match sp.fn g args H nl cs with
   | some ls => some ls
   | none => match P.funcs.toList[g]? with
    | some fn => match fn.body with
     | some c => run P E sp n false g (entry fn c args H nl cs)
     | none => none
    | none => none), sp.op⟩ := by
   refine ⟨?_, hsp.2⟩
   intro g args H nl cs ls' ρ' w' xs hrun hxs hr hcs hdead
   simp only at hrun
   split at hrun
   · rename_i ls0 hs0
     cases hrun
     exact hsp.1 g args H nl cs ls' ρ' w' xs hs0 hxs hr hcs hdead
   split at hrun
   · rename_i fn hfn
     split at hrun
     · rename_i c hb
       have hfn' : P.funcs[g]? = some fn := by simpa using hfn
       refine (calls_of_goes hfn' hb (R := fun v w2 => ∃ u H' nl' cs' ρ'', Leaf.ret u H' nl' cs' ∈ ls' /\ ρ'.Le ρ'' /\ u.den ρ'' = some v /\ HRel β ρ'' H' nl' w2 /\ CRel ρ'' cs') ?_)
       refine ih false g (entry fn c args H nl cs) ls' ρ' _ w' _ hrun (entry_ok hxs hr hcs) (fun l hl => ?_)
       have hd := hdead l hl
       cases l with
       | ret v H' nl' cs' => exact fun ρ'' w2 x hle hx hr' hcs' => ⟨v, H', nl', cs', ρ'', hl, hle, hx, hr', hcs'⟩
       | pause S' => exact fun ρ'' a2 w2 hle hr' => (hd ρ'' hle hr'.c).elim
       | stop cs' => exact hd
     · cases hrun
   · cases hrun
  have absurd : ls = [.stop S.cs] -> False := fun e => Good.absurd e r hg
  have next : ∀ (todo : List Item), (∀ cs, step P (lone ((base f).at a S.todo) cs w) = .next (lone ((base f).at a todo) cs w)) -> ∀ ls', run P E sp n pl f { S with todo := todo } = some ls' -> (∀ l ∈ ls', l ∈ ls) -> Goes P f R S.todo a w := by
   intro todo hs ls' hrun hsub
   exact Goes.one hs (ih pl f { S with todo := todo } ls' ρ a w R hrun ⟨r.d, r.n, r.t, r.h, r.c⟩ (fun l hl => hg l (hsub l hl)))
  have loop : ∀ (b : Code) (k : List Item), (∀ cs, step P (lone ((base f).at a S.todo) cs w) = .next (lone ((base f).at a (.code b :: .inLoop b :: k)) cs w)) ->
   cond (pl.stops b) (some [Leaf.pause S]) (run P E sp n pl f { S with todo := .code b :: .inLoop b :: k }) = some ls -> Goes P f R S.todo a w := by
   intro b k hs hrun
   cases hpl : pl.stops b with
   | true =>
    rw [hpl] at hrun
    simp only [cond_true, Option.some.injEq] at hrun
    subst hrun
    exact hg (.pause S) List.mem_cons_self ρ a w (Env.Le.refl ρ) r
   | false =>
    rw [hpl] at hrun
    exact next _ hs ls hrun (fun l hl => hl)
  simp only [run] at h
  split at h
  · rename_i ht; exact retLeaf_ok h r hg (.inl ht)
  · rename_i k ht; exact retLeaf_ok h r hg (.inr ⟨k, ht⟩)
  · rename_i k ht; exact next k (fun cs => by rw [ht]; exact step_skip) ls h (fun l hl => hl)
  · rename_i l0 k ht; exact next k (fun cs => by rw [ht]; exact step_label) ls h (fun l hl => hl)
  · rename_i x y k ht; exact next _ (fun cs => by rw [ht]; exact step_seq) ls h (fun l hl => hl)
  · rename_i c x y k ht
    split at h
    · rename_i b hb
      have he := den_litb (evOf_ok r.t c _ hb)
      refine next _ (fun cs => ?_) ls h (fun l hl => hl)
      rw [ht, step_cond he]
      cases b <;> rfl
    · rename_i t _ hb
      obtain ⟨b, hev, hbt⟩ := den_bool (evOf_ok r.t c _ hb)
      split at h
      · rename_i b' hl
        have hbb := lookB_ok hl r.c
        rw [hbt] at hbb; cases hbb
        refine next _ (fun cs => ?_) ls h (fun l hl => hl)
        rw [ht, step_cond hev]
        cases b <;> rfl
      obtain ⟨lx, ly, hx, hy, rfl⟩ := appendO_some h
      cases b with
      | true =>
       refine Goes.one (fun cs => ?_) (ih pl f { S with todo := .code x :: k, cs := (t, true) :: S.cs } lx ρ a w R hx ⟨r.d, r.n, r.t, r.h, r.c.cons hbt⟩ (fun l hl => hg l (List.mem_append.2 (.inl hl))))
       rw [ht, step_cond hev]; rfl
      | false =>
       refine Goes.one (fun cs => ?_) (ih pl f { S with todo := .code y :: k, cs := (t, false) :: S.cs } ly ρ a w R hy ⟨r.d, r.n, r.t, r.h, r.c.cons hbt⟩ (fun l hl => hg l (List.mem_append.2 (.inr hl))))
       rw [ht, step_cond hev]; rfl
    · exact (absurd (Option.some.inj h).symm).elim
  · rename_i id b k ht; exact next _ (fun cs => by rw [ht]; exact step_block) ls h (fun l hl => hl)
  · rename_i b k ht; exact next _ (fun cs => by rw [ht]; exact step_lone_go (by simp [stepG, stepG.exec, Frame.at])) ls h (fun l hl => hl)
  · rename_i b k ht; exact loop b k (fun cs => by rw [ht]; exact step_loop) h
  · rename_i b k ht; exact loop b k (fun cs => by rw [ht]; exact step_inLoop) h
  · rename_i id k ht
    split at h
    · rename_i k' hk; exact next _ (fun cs => by rw [ht]; exact step_exit hk) ls h (fun l hl => hl)
    · cases h
  · rename_i id k ht
    split at h
    · rename_i k' hk; exact next _ (fun cs => by rw [ht]; exact step_goto hk) ls h (fun l hl => hl)
    · cases h
  · rename_i id k ht; exact next _ (fun cs => by rw [ht]; exact step_inBlock) ls h (fun l hl => hl)
  · rename_i b k ht; exact next _ (fun cs => by rw [ht]; exact step_lone_go (by simp [stepG, stepG.exec, Frame.at])) ls h (fun l hl => hl)
  · rename_i id ops k ht; exact next _ (fun cs => by rw [ht]; exact step_region) ls h (fun l hl => hl)
  · rename_i id ops k ht
    split at h
    · rename_i so hso
      cases hns : Region.noSelect ops with
      | false => rw [hns] at h; cases h
      | true =>
       rw [hns] at h; simp only [cond_true] at h
       rw [ht]
       refine Goes.code (wp_region_any hm (AnyG.wp (C := fun _ _ => True) _ _ _ _ ?_))
       refine regRun_ok hc hE hcall hns n ops.size _ S [] so ρ a _ (fun _ _ => True) hso ⟨r.d, r.n, r.t, r.h.drew, r.c⟩ trivial ⟨fun _ _ _ _ _ _ _ _ _ _ => trivial, fun _ _ _ _ _ => trivial, fun _ _ _ _ => trivial⟩ (fun x hx => ?_) (fun S' hS' ρ' a' w' hle hr' => ?_)
       · have hst := dedupe_ok (β := β) (lo := S.nl) (L := so) (acc := []) x (.inl hx)
         cases x with
         | st S' => trivial
         | stop cs =>
          obtain ⟨rx, hrx, hsub⟩ := eachO_some h _ hst
          cases hrx; exact hg _ (hsub _ List.mem_cons_self)
       · obtain ⟨Y, hY, hcov⟩ := dedupe_ok (β := β) (lo := S.nl) (L := so) (acc := []) _ (.inl hS')
         obtain ⟨ρ2, hle2, hr2⟩ := hcov ρ ρ' a' w' r.h.fresh r.h.ownN hle hr'
         obtain ⟨rx, hrx, hsub⟩ := eachO_some h _ hY
         exact ih pl f { Y with todo := k } rx ρ2 a' w' R hrx ⟨hr2.d, hr2.n, hr2.t, hr2.h, hr2.c⟩ (fun l hl => (hg l (hsub l hl)).mono hle2)
    · cases h
  · rename_i ops k ht; exact next _ (fun cs => by rw [ht]; exact step_region_end) ls h (fun l hl => hl)
  · rename_i ops i rest k ht
    split at h
    · cases h
    · rename_i o ho
      have ho' : ops[i]? = some o := by simpa using ho
      obtain ⟨g1, g2, g3⟩ := guard_ok (ops := ops) (o := o) r.t
      split at h
      · rename_i hgd
        cases hpo : pl.ops o.op with
        | true =>
         rw [hpo] at h
         simp only [cond_true, Option.some.injEq] at h
         subst h
         exact hg (.pause S) List.mem_cons_self ρ a w (Env.Le.refl ρ) r
        | false =>
        rw [hpo] at h
        simp only [cond_false] at h
        split at h
        · rename_i d k0 u m hen
          have hd := enumOf_ok hen
          obtain ⟨x, hx, _⟩ := r.t d _ hd
          simp only [AVal.den] at hx
          obtain ⟨z, hz, _⟩ := map_some hx
          split at h
          · rename_i j hj
            have hzj := lookI_ok hj r.c hz
            subst hzj
            exact ih pl f (setI S d k0 u j) ls ρ a w R h (setI_ok r hd hz) hg
          · obtain ⟨lx, ly, hx, hy, rfl⟩ := appendO_some h
            by_cases hj : ∃ j : Nat, j < m /\ z = j
            · obtain ⟨j, hjm, rfl⟩ := hj
              obtain ⟨rx, hrx, hsub⟩ := eachO_some hx j (List.mem_range.2 hjm)
              exact ih pl f (setI S d k0 u j) rx ρ a w R hrx (setI_ok r hd hz) (fun l hl => hg l (List.mem_append.2 (.inl (hsub l hl))))
            · cases hy
              refine (hg (.stop (noneOf u m ++ S.cs)) (List.mem_append.2 (.inr List.mem_cons_self)) ρ (Env.Le.refl ρ) (fun p hp => ?_)).elim
              rcases List.mem_append.1 hp with hp | hp
              · exact noneOf_ok hz (fun j hjm e => hj ⟨j, hjm, e⟩) p hp
              · exact r.c p hp
        split at h
        · rename_i so hso
          rw [ht]
          refine OpG.goes ho' (stepOp_ok hc hE hcall ho' (g1 hgd) hso r (fun x hx => ?_) (fun S' hS' _ ρ' a' w' hle hr' => ?_))
          · obtain ⟨rx, hrx, hsub⟩ := eachO_some h x hx
            cases x with
            | st S' => trivial
            | stop cs => cases hrx; exact hg _ (hsub _ List.mem_cons_self)
          · obtain ⟨rx, hrx, hsub⟩ := eachO_some h _ hS'
            exact ih pl f { S' with todo := .inRegion ops rest :: k } rx ρ' a' w' R hrx ⟨hr'.d, hr'.n, hr'.t, hr'.h, hr'.c⟩ (fun l hl => (hg l (hsub l hl)).mono hle)
        · cases h
      · rename_i hgd
        rw [ht]
        refine Goes.unwanted ho' (g2 hgd) ?_
        exact ih pl f _ ls ρ _ w R h ⟨by rw [put_defers]; exact r.d, by rw [put_size]; exact r.n, putT_ok r.t r.n undef_den, r.h, r.c⟩ hg
      · rename_i t d hgd
        obtain ⟨b, hb⟩ := setB_ok r (g3 t d hgd)
        split at h
        · rename_i b' hl
          have hbb := lookB_ok hl r.c
          obtain ⟨y, hy, _⟩ := r.t d _ (g3 t d hgd)
          have hb' : SRel β ρ (setB S t d b') a w := by
           have := hb.c _ List.mem_cons_self
           rw [hbb] at this; cases this; exact hb
          exact ih pl f (setB S t d b') ls ρ a w R h hb' hg
        obtain ⟨lx, ly, hx, hy, rfl⟩ := appendO_some h
        cases b with
        | true => exact ih pl f (setB S t d true) lx ρ a w R hx hb (fun l hl => hg l (List.mem_append.2 (.inl hl)))
        | false => exact ih pl f (setB S t d false) ly ρ a w R hy hb (fun l hl => hg l (List.mem_append.2 (.inr hl)))
      · exact (absurd (Option.some.inj h).symm).elim
  · exact (absurd (Option.some.inj h).symm).elim
theorem run_calls (hc : NoCount P) {E : Exts} (hE : ExtOk P E) {sp : CallF} (hsp : CallOk P β sp) (hm : P.follows .mixedOrders = true) {n : Nat} {f : FuncId} {fn : Func} {c : Code} {args : List AVal} {xs : List Value} {H : Heap} {nl : Nat} {cs : Cs} {ls : List Leaf} {ρ : Env} {w : World} {R : Value -> World -> Prop}
 (hf : P.funcs[f]? = some fn) (hb : fn.body = some c) (hrun : run P E sp n false f (entry fn c args H nl cs) = some ls) (hx : AVal.denL ρ args = some xs) (hr : HRel β ρ H nl w) (hcs : CRel ρ cs) (hg : ∀ l ∈ ls, Good P β ρ f R l) :
 Calls P f xs.toArray w (fun e w' => ∃ v, e = .returned v /\ R v w') :=
 calls_of_goes hf hb (run_sound hc hE hsp hm n false f _ ls ρ _ w R hrun (entry_ok hx hr hcs) hg)
def noSp : CallF := { fn := fun _ _ _ _ _ => none }
theorem noSp_ok : CallOk P β noSp := ⟨(fun _ _ _ _ _ _ _ _ _ h => by cases h), noOp_ok⟩
theorem noExt : ExtOk P [] := fun _ _ h => by cases h
theorem HRel.start (w : World) (ρ : Env) (h : ∀ i, ρ.N i = none) : HRel (.plain w) ρ .leaf 0 w :=
 ⟨(fun l k hl => by simp [Tr.get] at hl), (fun l l' k k' hl => by simp [Tr.get] at hl), (fun l k b hl => by simp [Tr.get] at hl), fun i _ => h i, trivial, Nat.le_refl _, fun _ _ _ => rfl, rfl, rfl, rfl, trivial, BigAt.none fun l k hl => by simp [Tr.get] at hl⟩
theorem HRel.startG (w : World) (ρ : Env) {G : (Nat -> Int) -> (Nat -> Bool) -> (Nat -> ByteArray) -> (Nat -> Value) -> (Nat -> Int -> Int -> Int) -> Prop} (h : ∀ i, ρ.N i = none) (hG : G ρ.I ρ.B ρ.S ρ.V ρ.F) : HRel ⟨w, noO, G⟩ ρ .leaf 0 w :=
 ⟨(fun l k hl => by simp [Tr.get] at hl), (fun l l' k k' hl => by simp [Tr.get] at hl), (fun l k b hl => by simp [Tr.get] at hl), fun i _ => h i, trivial, Nat.le_refl _, fun _ _ _ => rfl, rfl, rfl, rfl, hG, BigAt.none fun l k hl => by simp [Tr.get] at hl⟩
end
end Go.Vm
end
section
namespace Go.Vm
structure Framed (w w' : World) : Prop where
 size : w.heap.size <= w'.heap.size
 frame : ∀ b, b < w.heap.size -> w'.heap[b]? = w.heap[b]?
 tape : w'.tape = w.tape
 os : w'.os = w.os
 out : w'.output = w.output
theorem Framed.refl (w : World) : Framed w w := ⟨Nat.le_refl _, fun _ _ => rfl, rfl, rfl, rfl⟩
theorem Framed.of {ρ : Env} {w w' : World} {H : Heap} {nl : Nat} {G : (Nat -> Int) -> (Nat -> Bool) -> (Nat -> ByteArray) -> (Nat -> Value) -> (Nat -> Int -> Int -> Int) -> Prop} (h : HRel ⟨w, noO, G⟩ ρ H nl w') : Framed w w' :=
 ⟨h.size, fun b hb => h.frame b hb (fun h => h), h.tape, h.os, h.out⟩
theorem HRel.framed {β : Base} {ρ : Env} {H : Heap} {nl : Nat} {w w' : World} (h : HRel β ρ H nl w) (f : Framed w w') : HRel β ρ H nl w' := by
 refine ⟨fun l k hl => ?_, h.inj, h.own, h.fresh, h.ownN, Nat.le_trans h.size f.size, fun b hb hn => ?_, f.tape.trans h.tape, f.os.trans h.os, f.out.trans h.out, h.g, h.big.imp fun _ hB => hB.agree fun y hy => f.frame y hy⟩
 · obtain ⟨b, o, h1, h2, h3⟩ := h.blk l k hl
   have hlt : b < w.heap.size := (Array.getElem?_eq_some_iff.1 h2).1
   exact ⟨b, o, h1, by rw [f.frame b hlt]; exact h2, h3⟩
 · rw [f.frame b (Nat.lt_of_lt_of_le hb h.size)]; exact h.frame b hb hn
end Go.Vm
end
