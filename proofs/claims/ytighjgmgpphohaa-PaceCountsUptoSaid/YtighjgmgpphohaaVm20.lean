/- A machine for abstract states over the model (part 18): conditions that cannot all be; laws and what is known of functions, by a run. -/
import Derived.Test.YtighjgmgpphohaaVm17
section
namespace Go.Vm
structure DC where
 x : IT
 y : IT
 c : Int
def DC.ok (ρ : Env) (d : DC) : Prop := ∃ a b, d.x.den ρ = some a /\ d.y.den ρ = some b /\ a - b <= d.c
def mkDC (u v : IT) (c : Int) : DC :=
 match u, v with
 | .lit n, .lit m => ⟨.lit 0, .lit 0, c - n + m⟩
 | .lit n, v => ⟨.lit 0, v, c - n⟩
 | u, .lit m => ⟨u, .lit 0, c + m⟩
 | u, v => ⟨u, v, c⟩
theorem mkDC_ok {ρ : Env} {u v : IT} {a b c : Int} (hu : u.den ρ = some a) (hv : v.den ρ = some b) (h : a - b <= c) : (mkDC u v c).ok ρ := by
 unfold mkDC
 split
 · cases hu; cases hv; exact ⟨0, 0, rfl, rfl, by simp only; omega⟩
 · cases hu; exact ⟨0, b, rfl, hv, by simp only; omega⟩
 · cases hv; exact ⟨a, 0, hu, rfl, by simp only; omega⟩
 · exact ⟨a, b, hu, hv, h⟩
def insD (d : DC) : List DC -> List DC
 | [] => [d]
 | e :: r => cond (IT.beq e.x d.x && IT.beq e.y d.y) (cond (iLt d.c e.c) (d :: r) (e :: r)) (e :: insD d r)
theorem insD_ok {ρ : Env} {d : DC} (hd : d.ok ρ) : ∀ {L : List DC}, (∀ e ∈ L, e.ok ρ) -> ∀ e ∈ insD d L, e.ok ρ
 | [], _, e, he => by
  rcases List.mem_cons.1 he with rfl | h
  · exact hd
  · cases h
 | f :: r, h, e, he => by
  simp only [insD] at he
  have hr : ∀ e ∈ r, e.ok ρ := fun e he => h e (List.mem_cons_of_mem _ he)
  cases hb : (IT.beq f.x d.x && IT.beq f.y d.y) with
  | true =>
   rw [hb] at he; simp only [cond_true] at he
   cases hc : iLt d.c f.c with
   | true =>
    rw [hc] at he
    rcases List.mem_cons.1 he with rfl | h1
    · exact hd
    · exact hr e h1
   | false => rw [hc] at he; exact h e he
  | false =>
   rw [hb] at he; simp only [cond_false] at he
   rcases List.mem_cons.1 he with rfl | h1
   · exact h e List.mem_cons_self
   · exact insD_ok hd hr e h1
def pre (d : DC) : List DC -> List DC
 | [] => [d]
 | e :: r => cond (IT.beq e.y d.x) (⟨e.x, d.y, e.c + d.c⟩ :: pre d r) (pre d r)
def post (d : DC) : List DC -> List DC
 | [] => [d]
 | e :: r => cond (IT.beq d.y e.x) (⟨d.x, e.y, d.c + e.c⟩ :: post d r) (post d r)
theorem pre_ok {ρ : Env} {d : DC} (hd : d.ok ρ) : ∀ {L : List DC}, (∀ e ∈ L, e.ok ρ) -> ∀ e ∈ pre d L, e.ok ρ
 | [], _, e, he => by
  rcases List.mem_cons.1 he with rfl | h
  · exact hd
  · cases h
 | f :: r, h, e, he => by
  have hr : ∀ e ∈ r, e.ok ρ := fun e he => h e (List.mem_cons_of_mem _ he)
  simp only [pre] at he
  cases hb : IT.beq f.y d.x with
  | true =>
   rw [hb] at he
   rcases List.mem_cons.1 he with rfl | h1
   · obtain ⟨a, b, h1, h2, h3⟩ := h f List.mem_cons_self
     obtain ⟨a', b', h1', h2', h3'⟩ := hd
     rw [IT.beq_eq hb, h1'] at h2; cases h2
     exact ⟨a, b', h1, h2', by simp only; omega⟩
   · exact pre_ok hd hr e h1
  | false => rw [hb] at he; exact pre_ok hd hr e he
theorem post_ok {ρ : Env} {d : DC} (hd : d.ok ρ) : ∀ {L : List DC}, (∀ e ∈ L, e.ok ρ) -> ∀ e ∈ post d L, e.ok ρ
 | [], _, e, he => by
  rcases List.mem_cons.1 he with rfl | h
  · exact hd
  · cases h
 | f :: r, h, e, he => by
  have hr : ∀ e ∈ r, e.ok ρ := fun e he => h e (List.mem_cons_of_mem _ he)
  simp only [post] at he
  cases hb : IT.beq d.y f.x with
  | true =>
   rw [hb] at he
   rcases List.mem_cons.1 he with rfl | h1
   · obtain ⟨a, b, h1, h2, h3⟩ := h f List.mem_cons_self
     obtain ⟨a', b', h1', h2', h3'⟩ := hd
     rw [<- IT.beq_eq hb, h2'] at h1; cases h1
     exact ⟨a', b, h1', h2, by simp only; omega⟩
   · exact post_ok hd hr e h1
  | false => rw [hb] at he; exact post_ok hd hr e he
def insAll (l L : List DC) : List DC := l.foldl (fun L d => insD d L) L
theorem insAll_ok {ρ : Env} : ∀ {l L : List DC}, (∀ e ∈ l, e.ok ρ) -> (∀ e ∈ L, e.ok ρ) -> ∀ e ∈ insAll l L, e.ok ρ
 | [], _, _, h => h
 | d :: l, _, hl, h => insAll_ok (l := l) (fun e he => hl e (List.mem_cons_of_mem _ he)) (insD_ok (hl d List.mem_cons_self) h)
def addD (d : DC) (L : List DC) : List DC := insAll ((pre d L).flatMap fun e => post e L) L
theorem addD_ok {ρ : Env} {d : DC} (hd : d.ok ρ) {L : List DC} (h : ∀ e ∈ L, e.ok ρ) : ∀ e ∈ addD d L, e.ok ρ :=
 insAll_ok (fun e he => by
  obtain ⟨f, hf, he⟩ := List.mem_flatMap.1 he
  exact post_ok (pre_ok hd h f hf) h e he) h
def contra (L : List DC) : Bool := L.any fun d => IT.beq d.x d.y && iLt d.c 0
theorem contra_ok {ρ : Env} {L : List DC} (h : ∀ e ∈ L, e.ok ρ) : contra L = false := by
 cases hc : contra L with
 | false => rfl
 | true =>
  obtain ⟨d, hd, hb⟩ := List.any_eq_true.1 hc
  simp only [Bool.and_eq_true, iLt_eq, decide_eq_true_eq] at hb
  obtain ⟨a, b, h1, h2, h3⟩ := h d hd
  rw [IT.beq_eq hb.1, h2] at h1; cases h1
  omega
def altsD (op : BinOp) (b : Bool) (u v : IT) : Option (List (List DC)) :=
 match op, b with
 | .lss, true | .geq, false => some [[mkDC u v (-1)]]
 | .lss, false | .geq, true => some [[mkDC v u 0]]
 | .leq, true | .gtr, false => some [[mkDC u v 0]]
 | .leq, false | .gtr, true => some [[mkDC v u (-1)]]
 | .eql, true | .neq, false => some [[mkDC u v 0, mkDC v u 0]]
 | .eql, false | .neq, true => some [[mkDC u v (-1)], [mkDC v u (-1)]]
 | _, _ => none
theorem altsD_ok {ρ : Env} {op : BinOp} {b : Bool} {u v : IT} {l : List (List DC)} (h : altsD op b u v = some l) (hd : (BT.cmp op u v).den ρ = some b) : ∃ ds ∈ l, ∀ d ∈ ds, d.ok ρ := by
 simp only [BT.den] at hd
 split at hd
 · rename_i x y hx hy
   have one : ∀ {d : DC}, d.ok ρ -> ∀ e ∈ [d], e.ok ρ := fun hd e he => by
    rcases List.mem_cons.1 he with rfl | h
    · exact hd
    · cases h
   cases op <;> cases b <;> first | (cases h; done) | skip
   all_goals (simp only [intCmp, Option.some.injEq, decide_eq_true_eq, decide_eq_false_iff_not, beq_iff_eq, beq_eq_false_iff_ne, bne_iff_ne, bne_eq_false_iff_eq, ne_eq] at hd)
   all_goals (simp only [altsD, Option.some.injEq] at h; subst h)
   all_goals first
    | exact ⟨_, List.mem_cons_self, one (mkDC_ok hx hy (by omega))⟩
    | exact ⟨_, List.mem_cons_self, one (mkDC_ok hy hx (by omega))⟩
    | exact ⟨_, List.mem_cons_self, fun e he => by
     rcases List.mem_cons.1 he with rfl | he
     · exact mkDC_ok hx hy (by omega)
     · exact one (mkDC_ok hy hx (by omega)) e he⟩
    | (rcases (show x < y ∨ y < x by omega) with h1 | h1
       · exact ⟨_, List.mem_cons_self, one (mkDC_ok hx hy (by omega))⟩
       · exact ⟨_, List.mem_cons_of_mem _ List.mem_cons_self, one (mkDC_ok hy hx (by omega))⟩)
 · cases hd
def addAll (ds L : List DC) : List DC := ds.foldl (fun L d => addD d L) L
theorem addAll_ok {ρ : Env} : ∀ {ds L : List DC}, (∀ e ∈ ds, e.ok ρ) -> (∀ e ∈ L, e.ok ρ) -> ∀ e ∈ addAll ds L, e.ok ρ
 | [], _, _, h => h
 | d :: l, _, hl, h => addAll_ok (ds := l) (fun e he => hl e (List.mem_cons_of_mem _ he)) (addD_ok (hl d List.mem_cons_self) h)
def refute : Nat -> Cs -> Cs -> List DC -> Bool
 | 0, _, _, _ => false
 | n + 1, todo, late, L => match todo with
  | (.lit x, b) :: r => cond (x == b) (refute n r late L) true
  | (.not t, b) :: r => refute n ((t, !b) :: r) late L
  | (.and s t, true) :: r => refute n ((s, true) :: (t, true) :: r) late L
  | (.and s t, false) :: r => refute n r (late ++ [(.and s t, false)]) L
  | (.cmp op u v, b) :: r => match altsD op b u v with
   | some [ds] => let L' := addAll ds L; contra L' || refute n r late L'
   | some _ => refute n r (late ++ [(.cmp op u v, b)]) L
   | none => refute n r late L
  | _ :: r => refute n r late L
  | [] => match late with
   | (.and s t, false) :: r => refute n [(s, false)] r L && refute n [(t, false)] r L
   | (.cmp op u v, b) :: r => match altsD op b u v with
    | some l => l.all fun ds => let L' := addAll ds L; contra L' || refute n [] r L'
    | none => refute n [] r L
   | _ :: r => refute n [] r L
   | [] => false
theorem CRel.snoc {ρ : Env} {t : BT} {b : Bool} {cs : Cs} (c : CRel ρ cs) (h : t.den ρ = some b) : CRel ρ (cs ++ [(t, b)]) := fun p hp => by
 rcases List.mem_append.1 hp with hp | hp
 · exact c p hp
 · rcases List.mem_cons.1 hp with rfl | hp
   · exact h
   · cases hp
theorem refute_ok {ρ : Env} : ∀ (n : Nat) (todo late : Cs) (L : List DC), refute n todo late L = true -> CRel ρ todo -> CRel ρ late -> (∀ e ∈ L, e.ok ρ) -> False := by
 intro n
 induction n with
 | zero => intro todo late L h; simp [refute] at h
 | succ n ih =>
  intro todo late L h ht hl hL
  have one : ∀ {t : BT} {b : Bool}, t.den ρ = some b -> CRel ρ [(t, b)] := fun h p hp => by
   rcases List.mem_cons.1 hp with rfl | hp
   · exact h
   · cases hp
  unfold refute at h
  split at h
  · rename_i x b r
    have h0 : (BT.lit x).den ρ = some b := ht _ List.mem_cons_self
    have hr : CRel ρ r := fun p hp => ht p (List.mem_cons_of_mem _ hp)
    obtain rfl : x = b := Option.some.inj h0
    simp only [beq_self_eq_true, cond_true] at h
    exact ih r late L h hr hl hL
  · rename_i t b r
    have h0 := ht _ List.mem_cons_self
    have hr : CRel ρ r := fun p hp => ht p (List.mem_cons_of_mem _ hp)
    simp only [BT.den] at h0
    obtain ⟨x, hx, rfl⟩ := Option.map_eq_some_iff.1 h0
    exact ih _ late L h (hr.cons (by simpa using hx)) hl hL
  · rename_i s t r
    have h0 := ht _ List.mem_cons_self
    have hr : CRel ρ r := fun p hp => ht p (List.mem_cons_of_mem _ hp)
    simp only [BT.den] at h0
    split at h0
    · rename_i x y hx hy
      simp only [Option.some.injEq, Bool.and_eq_true] at h0
      obtain ⟨rfl, rfl⟩ := h0
      exact ih _ late L h ((hr.cons hy).cons hx) hl hL
    · cases h0
  · rename_i s t r
    have h0 := ht _ List.mem_cons_self
    have hr : CRel ρ r := fun p hp => ht p (List.mem_cons_of_mem _ hp)
    exact ih _ _ L h hr (hl.snoc h0) hL
  · rename_i op u v b r
    have h0 := ht _ List.mem_cons_self
    have hr : CRel ρ r := fun p hp => ht p (List.mem_cons_of_mem _ hp)
    split at h
    · rename_i ds ha
      obtain ⟨ds', hm, hok⟩ := altsD_ok ha h0
      obtain rfl := List.mem_singleton.1 hm
      have hL' := addAll_ok hok hL
      simp only [contra_ok hL', Bool.false_or] at h
      exact ih _ _ _ h hr hl hL'
    · exact ih _ _ L h hr (hl.snoc h0) hL
    · exact ih _ _ L h hr hl hL
  · rename_i p r _ _ _ _ _
    exact ih _ _ L h (fun p hp => ht p (List.mem_cons_of_mem _ hp)) hl hL
  · split at h
    · rename_i s t r
      have h0 := hl _ List.mem_cons_self
      have hr : CRel ρ r := fun p hp => hl p (List.mem_cons_of_mem _ hp)
      simp only [Bool.and_eq_true] at h
      simp only [BT.den] at h0
      split at h0
      · rename_i x y hx hy
        simp only [Option.some.injEq] at h0
        cases x with
        | false => exact ih _ _ L h.1 (one hx) hr hL
        | true =>
         simp only [Bool.true_and] at h0
         subst h0
         exact ih _ _ L h.2 (one hy) hr hL
      · cases h0
    · rename_i op u v b r
      have h0 := hl _ List.mem_cons_self
      have hr : CRel ρ r := fun p hp => hl p (List.mem_cons_of_mem _ hp)
      split at h
      · rename_i l ha
        obtain ⟨ds, hm, hok⟩ := altsD_ok ha h0
        have hL' := addAll_ok hok hL
        have h1 := List.all_eq_true.1 h ds hm
        simp only [contra_ok hL', Bool.false_or] at h1
        exact ih _ _ _ h1 ht hr hL'
      · exact ih _ _ L h ht hr hL
    · rename_i p r _ _
      exact ih _ _ L h ht (fun p hp => hl p (List.mem_cons_of_mem _ hp)) hL
    · cases h
def dead (cs : Cs) : Bool := refute 2000 cs [] []
theorem dead_ok {ρ : Env} {cs : Cs} (h : dead cs = true) : Dead ρ cs := fun _ _ hc => refute_ok 2000 cs [] [] h hc (fun _ hp => by cases hp) (fun _ he => by cases he)
def leafB (T : BT) : Leaf -> Bool
 | .ret (.bool (.lit b)) _ _ cs => dead ((T, !b) :: cs)
 | .ret (.bool t) _ _ cs => dead ((T, true) :: (t, false) :: cs) && dead ((T, false) :: (t, true) :: cs)
 | .ret _ _ _ cs => dead cs
 | .pause S => dead S.cs
 | .stop cs => dead cs
end Go.Vm
end
section
namespace Go.Vm
end Go.Vm
end
section
namespace Go.Vm
structure Tpl where
 tm : List (Nat × AVal)
 nt : Nat
 H : List (Nat × HB)
 nl : Nat
 cs : Cs
 dep : Nat
def ofP {α : Type} : List (Nat × α) -> Tr α
 | [] => .leaf
 | (i, x) :: r => (ofP r).set i x
theorem ofP_mem {α : Type} : ∀ {l : List (Nat × α)} {i : Nat} {x : α}, (ofP l).get i = some x -> (i, x) ∈ l
 | [], i, x, h => by simp [ofP, Tr.get] at h
 | (j, y) :: r, i, x, h => by
  rcases Tr.get_set h with ⟨rfl, rfl⟩ | ⟨_, h⟩
  · exact List.mem_cons_self
  · exact List.mem_cons_of_mem _ (ofP_mem h)
def Tpl.st (T : Tpl) (todo : List Item) : St := { todo := todo, tmps := ofP T.tm, nt := T.nt, H := ofP T.H, nl := T.nl, cs := T.cs }
def roB (H : List (Nat × HB)) (i : Nat) : Bool := match (ofP H).get i with
 | some ⟨.arr _ _ _ _ _ _, false⟩ => true
 | _ => false
def fresh2 (H : List (Nat × HB)) (l : List (Nat × Nat)) : Bool :=
 match l with
 | [] => true
 | (i, j) :: r => r.all (fun q => !Nat.beq j q.2 || (roB H i && roB H q.1)) && fresh2 H r
theorem fresh2_inj {H : List (Nat × HB)} : ∀ {l : List (Nat × Nat)} {i i' j : Nat}, fresh2 H l = true -> (i, j) ∈ l -> (i', j) ∈ l -> i = i' ∨ (roB H i = true /\ roB H i' = true)
 | (a, b) :: r, i, i', j, h, h1, h2 => by
  simp only [fresh2, Bool.and_eq_true, List.all_eq_true] at h
  rcases List.mem_cons.1 h1 with e1 | m1
  · rcases List.mem_cons.1 h2 with e2 | m2
    · cases e1; cases e2; exact .inl rfl
    · cases e1
      have := h.1 _ m2
      simp only [Nat.beq_refl, Bool.not_true, Bool.false_or, Bool.and_eq_true] at this
      exact .inr this
  · rcases List.mem_cons.1 h2 with e2 | m2
    · cases e2
      have := h.1 _ m1
      simp only [Nat.beq_refl, Bool.not_true, Bool.false_or, Bool.and_eq_true] at this
      exact .inr ⟨this.2, this.1⟩
    · exact fresh2_inj h.2 m1 m2
theorem fresh2_rw {H : List (Nat × HB)} {l : List (Nat × Nat)} {i i' j : Nat} {k : HB} (h : fresh2 H l = true) (hg : (ofP H).get i = some k) (hk : k.rw = true ∨ ∃ a c r, k = ⟨.big a c, r⟩) (h1 : (i, j) ∈ l) (h2 : (i', j) ∈ l) : i = i' := by
 rcases fresh2_inj h h1 h2 with h3 | ⟨h3, _⟩
 · exact h3
 · exfalso
   unfold roB at h3
   rw [hg] at h3
   rcases hk with hk | ⟨a, c, r, rfl⟩
   · obtain ⟨k1, k2⟩ := k
     simp only at hk; subst hk
     cases k1 <;> cases h3
   · cases h3
def matchSt (T : Tpl) (σ : Sub) (S : St) : Bool :=
 Nat.beq T.nt S.nt && T.tm.all (fun p => match S.tmps.get p.1 with
  | some v => cA σ p.2 v
  | none => false) && T.H.all (fun p => match lookN σ.N p.1 with
  | some j => match S.H.get j with
   | some k => cHB σ p.2 k
   | none => false
  | none => false) && fresh2 T.H σ.N && σ.N.all (fun p => Nat.blt p.1 T.nl) && Nat.ble T.nl 1000000007
abbrev GP := (Nat -> Int) -> (Nat -> Bool) -> (Nat -> ByteArray) -> (Nat -> Value) -> (Nat -> Int -> Int -> Int) -> Prop
def GP.at (J : GP) (ρ : Env) : Prop := J ρ.I ρ.B ρ.S ρ.V ρ.F
section
variable (g : Gen)
def fTm (T : List (Nat × AVal)) (S : St) (σ : Sub) : Sub :=
 match T with
 | [] => σ
 | (i, p) :: r => fTm r S (match S.tmps.get i with
  | some v => fA g p v σ
  | none => σ)
def fH (T : List (Nat × HB)) (S : St) (σ : Sub) : Sub :=
 match T with
 | [] => σ
 | (i, p) :: r => fH r S (match lk σ.N i with
  | some j => match S.H.get j with
   | some k => fK g p.k k.k σ
   | none => σ
  | none => σ)
end
def lenL {α : Type} : List α -> Nat
 | [] => 0
 | _ :: r => lenL r + 1
inductive LS where
 | ret (v : AVal) (cs : Cs)
 | next (q : Nat) (todo : List Item) (cs : Cs) (σ : Sub)
 /-- where the machine stood: it must be shown that it never comes so -/
 | stop (cs : Cs)
 | bad
section
variable {P : Program} {β : Base} {f : FuncId} {Q : Value -> Prop}
end
def loopsOf : Code -> List Item -> List (Code × List Item)
 | .seq a b, k => loopsOf a (.code b :: k) ++ loopsOf b k
 | .cond _ a b, k => loopsOf a k ++ loopsOf b k
 | .block id b, k => loopsOf b (.inBlock id :: k)
 | .scope b, k => loopsOf b (.inScope b :: k)
 | .loop b, k => (b, k) :: loopsOf b (.inLoop b :: k)
 | _, _ => []
end Go.Vm
end
