/-
  A machine for abstract states over the model (part 18): conditions that cannot all be; laws and what is known of functions, by a run.
-/
import Derived.Test.YtighjgmgpphohaaVm17
namespace Go.Vm

/-- The first is at most so much more than the second. -/
structure DC where
  x : IT
  y : IT
  c : Int
def DC.ok (ρ : Env) (d : DC) : Prop := ∃ a b, d.x.den ρ = some a ∧ d.y.den ρ = some b ∧ a - b ≤ d.c
def mkDC (u v : IT) (c : Int) : DC :=
  match u, v with
  | .lit n, .lit m => ⟨.lit 0, .lit 0, c - n + m⟩
  | .lit n, v => ⟨.lit 0, v, c - n⟩
  | u, .lit m => ⟨u, .lit 0, c + m⟩
  | u, v => ⟨u, v, c⟩
theorem mkDC_ok {ρ : Env} {u v : IT} {a b c : Int} (hu : u.den ρ = some a) (hv : v.den ρ = some b) (h : a - b ≤ c) : (mkDC u v c).ok ρ := by
  unfold mkDC
  split
  · cases hu; cases hv; exact ⟨0, 0, rfl, rfl, by simp only; omega⟩
  · cases hu; exact ⟨0, b, rfl, hv, by simp only; omega⟩
  · cases hv; exact ⟨a, 0, hu, rfl, by simp only; omega⟩
  · exact ⟨a, b, hu, hv, h⟩
def insD (d : DC) : List DC → List DC
  | [] => [d]
  | e :: r => cond (IT.beq e.x d.x && IT.beq e.y d.y) (cond (iLt d.c e.c) (d :: r) (e :: r)) (e :: insD d r)
theorem insD_ok {ρ : Env} {d : DC} (hd : d.ok ρ) : ∀ {L : List DC}, (∀ e ∈ L, e.ok ρ) → ∀ e ∈ insD d L, e.ok ρ
  | [], _, e, he => by
    rcases List.mem_cons.1 he with rfl | h
    · exact hd
    · cases h
  | f :: r, h, e, he => by
    simp only [insD] at he
    have hr : ∀ e ∈ r, e.ok ρ := fun e he => h e (List.mem_cons_of_mem _ he)
    cases hb : (IT.beq f.x d.x && IT.beq f.y d.y) with
    | true =>
      rw [hb] at he; simp only [cond_true] at he
      cases hc : iLt d.c f.c with
      | true =>
        rw [hc] at he
        rcases List.mem_cons.1 he with rfl | h1
        · exact hd
        · exact hr e h1
      | false => rw [hc] at he; exact h e he
    | false =>
      rw [hb] at he; simp only [cond_false] at he
      rcases List.mem_cons.1 he with rfl | h1
      · exact h e List.mem_cons_self
      · exact insD_ok hd hr e h1
/-- Those that end where one begins, put before it; and so behind it. -/
def pre (d : DC) : List DC → List DC
  | [] => [d]
  | e :: r => cond (IT.beq e.y d.x) (⟨e.x, d.y, e.c + d.c⟩ :: pre d r) (pre d r)
def post (d : DC) : List DC → List DC
  | [] => [d]
  | e :: r => cond (IT.beq d.y e.x) (⟨d.x, e.y, d.c + e.c⟩ :: post d r) (post d r)
theorem pre_ok {ρ : Env} {d : DC} (hd : d.ok ρ) : ∀ {L : List DC}, (∀ e ∈ L, e.ok ρ) → ∀ e ∈ pre d L, e.ok ρ
  | [], _, e, he => by
    rcases List.mem_cons.1 he with rfl | h
    · exact hd
    · cases h
  | f :: r, h, e, he => by
    have hr : ∀ e ∈ r, e.ok ρ := fun e he => h e (List.mem_cons_of_mem _ he)
    simp only [pre] at he
    cases hb : IT.beq f.y d.x with
    | true =>
      rw [hb] at he
      rcases List.mem_cons.1 he with rfl | h1
      · obtain ⟨a, b, h1, h2, h3⟩ := h f List.mem_cons_self
        obtain ⟨a', b', h1', h2', h3'⟩ := hd
        rw [IT.beq_eq hb, h1'] at h2; cases h2
        exact ⟨a, b', h1, h2', by simp only; omega⟩
      · exact pre_ok hd hr e h1
    | false => rw [hb] at he; exact pre_ok hd hr e he
theorem post_ok {ρ : Env} {d : DC} (hd : d.ok ρ) : ∀ {L : List DC}, (∀ e ∈ L, e.ok ρ) → ∀ e ∈ post d L, e.ok ρ
  | [], _, e, he => by
    rcases List.mem_cons.1 he with rfl | h
    · exact hd
    · cases h
  | f :: r, h, e, he => by
    have hr : ∀ e ∈ r, e.ok ρ := fun e he => h e (List.mem_cons_of_mem _ he)
    simp only [post] at he
    cases hb : IT.beq d.y f.x with
    | true =>
      rw [hb] at he
      rcases List.mem_cons.1 he with rfl | h1
      · obtain ⟨a, b, h1, h2, h3⟩ := h f List.mem_cons_self
        obtain ⟨a', b', h1', h2', h3'⟩ := hd
        rw [← IT.beq_eq hb, h2'] at h1; cases h1
        exact ⟨a', b, h1', h2, by simp only; omega⟩
      · exact post_ok hd hr e h1
    | false => rw [hb] at he; exact post_ok hd hr e he
def insAll (l L : List DC) : List DC := l.foldl (fun L d => insD d L) L
theorem insAll_ok {ρ : Env} : ∀ {l L : List DC}, (∀ e ∈ l, e.ok ρ) → (∀ e ∈ L, e.ok ρ) → ∀ e ∈ insAll l L, e.ok ρ
  | [], _, _, h => h
  | d :: l, _, hl, h => insAll_ok (l := l) (fun e he => hl e (List.mem_cons_of_mem _ he)) (insD_ok (hl d List.mem_cons_self) h)
def addD (d : DC) (L : List DC) : List DC := insAll ((pre d L).flatMap fun e => post e L) L
theorem addD_ok {ρ : Env} {d : DC} (hd : d.ok ρ) {L : List DC} (h : ∀ e ∈ L, e.ok ρ) : ∀ e ∈ addD d L, e.ok ρ :=
  insAll_ok (fun e he => by
    obtain ⟨f, hf, he⟩ := List.mem_flatMap.1 he
    exact post_ok (pre_ok hd h f hf) h e he) h
def contra (L : List DC) : Bool := L.any fun d => IT.beq d.x d.y && iLt d.c 0
theorem contra_ok {ρ : Env} {L : List DC} (h : ∀ e ∈ L, e.ok ρ) : contra L = false := by
  cases hc : contra L with
  | false => rfl
  | true =>
    obtain ⟨d, hd, hb⟩ := List.any_eq_true.1 hc
    simp only [Bool.and_eq_true, iLt_eq, decide_eq_true_eq] at hb
    obtain ⟨a, b, h1, h2, h3⟩ := h d hd
    rw [IT.beq_eq hb.1, h2] at h1; cases h1
    omega

/-- What a comparison is good for: one of these. -/
def altsD (op : BinOp) (b : Bool) (u v : IT) : Option (List (List DC)) :=
  match op, b with
  | .lss, true | .geq, false => some [[mkDC u v (-1)]]
  | .lss, false | .geq, true => some [[mkDC v u 0]]
  | .leq, true | .gtr, false => some [[mkDC u v 0]]
  | .leq, false | .gtr, true => some [[mkDC v u (-1)]]
  | .eql, true | .neq, false => some [[mkDC u v 0, mkDC v u 0]]
  | .eql, false | .neq, true => some [[mkDC u v (-1)], [mkDC v u (-1)]]
  | _, _ => none
theorem altsD_ok {ρ : Env} {op : BinOp} {b : Bool} {u v : IT} {l : List (List DC)} (h : altsD op b u v = some l) (hd : (BT.cmp op u v).den ρ = some b) : ∃ ds ∈ l, ∀ d ∈ ds, d.ok ρ := by
  simp only [BT.den] at hd
  split at hd
  · rename_i x y hx hy
    have one : ∀ {d : DC}, d.ok ρ → ∀ e ∈ [d], e.ok ρ := fun hd e he => by
      rcases List.mem_cons.1 he with rfl | h
      · exact hd
      · cases h
    cases op <;> cases b <;> first | (cases h; done) | skip
    all_goals (simp only [intCmp, Option.some.injEq, decide_eq_true_eq, decide_eq_false_iff_not, beq_iff_eq, beq_eq_false_iff_ne, bne_iff_ne, bne_eq_false_iff_eq, ne_eq] at hd)
    all_goals (simp only [altsD, Option.some.injEq] at h; subst h)
    all_goals first
      | exact ⟨_, List.mem_cons_self, one (mkDC_ok hx hy (by omega))⟩
      | exact ⟨_, List.mem_cons_self, one (mkDC_ok hy hx (by omega))⟩
      | exact ⟨_, List.mem_cons_self, fun e he => by
          rcases List.mem_cons.1 he with rfl | he
          · exact mkDC_ok hx hy (by omega)
          · exact one (mkDC_ok hy hx (by omega)) e he⟩
      | (rcases (show x < y ∨ y < x by omega) with h1 | h1
         · exact ⟨_, List.mem_cons_self, one (mkDC_ok hx hy (by omega))⟩
         · exact ⟨_, List.mem_cons_of_mem _ List.mem_cons_self, one (mkDC_ok hy hx (by omega))⟩)
  · cases hd

def addAll (ds L : List DC) : List DC := ds.foldl (fun L d => addD d L) L
theorem addAll_ok {ρ : Env} : ∀ {ds L : List DC}, (∀ e ∈ ds, e.ok ρ) → (∀ e ∈ L, e.ok ρ) → ∀ e ∈ addAll ds L, e.ok ρ
  | [], _, _, h => h
  | d :: l, _, hl, h => addAll_ok (ds := l) (fun e he => hl e (List.mem_cons_of_mem _ he)) (addD_ok (hl d List.mem_cons_self) h)

/-- Can't all of these be? -/
def refute : Nat → Cs → Cs → List DC → Bool
  | 0, _, _, _ => false
  | n + 1, todo, late, L => match todo with
    | (.lit x, b) :: r => cond (x == b) (refute n r late L) true
    | (.not t, b) :: r => refute n ((t, !b) :: r) late L
    | (.and s t, true) :: r => refute n ((s, true) :: (t, true) :: r) late L
    | (.and s t, false) :: r => refute n r (late ++ [(.and s t, false)]) L
    | (.cmp op u v, b) :: r => match altsD op b u v with
      | some [ds] => let L' := addAll ds L; contra L' || refute n r late L'
      | some _ => refute n r (late ++ [(.cmp op u v, b)]) L
      | none => refute n r late L
    | _ :: r => refute n r late L
    | [] => match late with
      | (.and s t, false) :: r => refute n [(s, false)] r L && refute n [(t, false)] r L
      | (.cmp op u v, b) :: r => match altsD op b u v with
        | some l => l.all fun ds => let L' := addAll ds L; contra L' || refute n [] r L'
        | none => refute n [] r L
      | _ :: r => refute n [] r L
      | [] => false
theorem CRel.snoc {ρ : Env} {t : BT} {b : Bool} {cs : Cs} (c : CRel ρ cs) (h : t.den ρ = some b) : CRel ρ (cs ++ [(t, b)]) := fun p hp => by
  rcases List.mem_append.1 hp with hp | hp
  · exact c p hp
  · rcases List.mem_cons.1 hp with rfl | hp
    · exact h
    · cases hp
theorem refute_ok {ρ : Env} : ∀ (n : Nat) (todo late : Cs) (L : List DC), refute n todo late L = true → CRel ρ todo → CRel ρ late → (∀ e ∈ L, e.ok ρ) → False := by
  intro n
  induction n with
  | zero => intro todo late L h; simp [refute] at h
  | succ n ih =>
    intro todo late L h ht hl hL
    have one : ∀ {t : BT} {b : Bool}, t.den ρ = some b → CRel ρ [(t, b)] := fun h p hp => by
      rcases List.mem_cons.1 hp with rfl | hp
      · exact h
      · cases hp
    unfold refute at h
    split at h
    · rename_i x b r
      have h0 : (BT.lit x).den ρ = some b := ht _ List.mem_cons_self
      have hr : CRel ρ r := fun p hp => ht p (List.mem_cons_of_mem _ hp)
      obtain rfl : x = b := Option.some.inj h0
      simp only [beq_self_eq_true, cond_true] at h
      exact ih r late L h hr hl hL
    · rename_i t b r
      have h0 := ht _ List.mem_cons_self
      have hr : CRel ρ r := fun p hp => ht p (List.mem_cons_of_mem _ hp)
      simp only [BT.den] at h0
      obtain ⟨x, hx, rfl⟩ := Option.map_eq_some_iff.1 h0
      exact ih _ late L h (hr.cons (by simpa using hx)) hl hL
    · rename_i s t r
      have h0 := ht _ List.mem_cons_self
      have hr : CRel ρ r := fun p hp => ht p (List.mem_cons_of_mem _ hp)
      simp only [BT.den] at h0
      split at h0
      · rename_i x y hx hy
        simp only [Option.some.injEq, Bool.and_eq_true] at h0
        obtain ⟨rfl, rfl⟩ := h0
        exact ih _ late L h ((hr.cons hy).cons hx) hl hL
      · cases h0
    · rename_i s t r
      have h0 := ht _ List.mem_cons_self
      have hr : CRel ρ r := fun p hp => ht p (List.mem_cons_of_mem _ hp)
      exact ih _ _ L h hr (hl.snoc h0) hL
    · rename_i op u v b r
      have h0 := ht _ List.mem_cons_self
      have hr : CRel ρ r := fun p hp => ht p (List.mem_cons_of_mem _ hp)
      split at h
      · rename_i ds ha
        obtain ⟨ds', hm, hok⟩ := altsD_ok ha h0
        obtain rfl := List.mem_singleton.1 hm
        have hL' := addAll_ok hok hL
        simp only [contra_ok hL', Bool.false_or] at h
        exact ih _ _ _ h hr hl hL'
      · exact ih _ _ L h hr (hl.snoc h0) hL
      · exact ih _ _ L h hr hl hL
    · rename_i p r _ _ _ _ _
      exact ih _ _ L h (fun p hp => ht p (List.mem_cons_of_mem _ hp)) hl hL
    · split at h
      · rename_i s t r
        have h0 := hl _ List.mem_cons_self
        have hr : CRel ρ r := fun p hp => hl p (List.mem_cons_of_mem _ hp)
        simp only [Bool.and_eq_true] at h
        simp only [BT.den] at h0
        split at h0
        · rename_i x y hx hy
          simp only [Option.some.injEq] at h0
          cases x with
          | false => exact ih _ _ L h.1 (one hx) hr hL
          | true =>
            simp only [Bool.true_and] at h0
            subst h0
            exact ih _ _ L h.2 (one hy) hr hL
        · cases h0
      · rename_i op u v b r
        have h0 := hl _ List.mem_cons_self
        have hr : CRel ρ r := fun p hp => hl p (List.mem_cons_of_mem _ hp)
        split at h
        · rename_i l ha
          obtain ⟨ds, hm, hok⟩ := altsD_ok ha h0
          have hL' := addAll_ok hok hL
          have h1 := List.all_eq_true.1 h ds hm
          simp only [contra_ok hL', Bool.false_or] at h1
          exact ih _ _ _ h1 ht hr hL'
        · exact ih _ _ L h ht hr hL
      · rename_i p r _ _
        exact ih _ _ L h ht (fun p hp => hl p (List.mem_cons_of_mem _ hp)) hL
      · cases h
def dead (cs : Cs) : Bool := refute 2000 cs [] []
theorem dead_ok {ρ : Env} {cs : Cs} (h : dead cs = true) : Dead ρ cs := fun _ _ hc => refute_ok 2000 cs [] [] h hc (fun _ hp => by cases hp) (fun _ he => by cases he)

-- BY A RUN
/-- Every end answers a truth value that is this condition. -/
def leafB (T : BT) : Leaf → Bool
  | .ret (.bool (.lit b)) _ _ cs => dead ((T, !b) :: cs)
  | .ret (.bool t) _ _ cs => dead ((T, true) :: (t, false) :: cs) && dead ((T, false) :: (t, true) :: cs)
  | .ret _ _ _ cs => dead cs
  | .pause S => dead S.cs
  | .stop cs => dead cs
theorem calls_bool {P : Program} (hc : NoCount P) {E : Exts} (hE : ExtOk P E) {L : Specs} (hL : ∀ p ∈ L, SpecOk P p.1 p.2) (hm : P.follows .mixedOrders = true) {n : Nat} {f : FuncId} {fn : Func} {c : Code} {args : List AVal} {xs : List Value} {cs : Cs} {ρ : Env} {w : World} {T : BT} {b : Bool}
    (hf : P.funcs[f]? = some fn) (hb : fn.body = some c) (hrun : (run P E (spOf L) n false f (entry fn c args .leaf 0 cs)).map (·.all (leafB T)) = some true) (hx : AVal.denL ρ args = some xs) (hN : ∀ i, ρ.N i = none) (hcs : CRel ρ cs) (hT : T.den ρ = some b) :
    Calls P f xs.toArray w (fun e w' => e = .returned (.bool b) ∧ Framed w w') := by
  obtain ⟨ls, hls, hall⟩ := Option.map_eq_some_iff.1 hrun
  refine (run_calls (β := .plain w) hc hE (spOf_ok hL) hm hf hb hls hx (HRel.start w ρ hN) hcs (R := fun v w' => v = .bool b ∧ Framed w w') (fun l hl => ?_)).mono fun e w' ⟨v, he, hv, hfr⟩ => ⟨by rw [he, hv], hfr⟩
  have h1 := List.all_eq_true.1 hall l hl
  cases l with
  | stop cs' => exact dead_ok h1
  | pause S => exact fun ρ' a' w' hle hr => (dead_ok (ρ := ρ) h1 ρ' hle hr.c).elim
  | ret v H nl cs' =>
    intro ρ' w' x hle hxd hr hc'
    refine ⟨?_, Framed.of hr⟩
    unfold leafB at h1
    split at h1
    · rename_i b' _ _ cs'' heq
      cases heq
      have := den_litb hxd
      subst this
      cases hbb : (b' == b) with
      | true => simp at hbb; rw [hbb]
      | false =>
        have hb' : b = !b' := by cases b <;> cases b' <;> simp_all
        exact (dead_ok (ρ := ρ') h1 ρ' (Env.Le.refl ρ') (hc'.cons (by rw [BT.den_mono hle hT, hb']))).elim
    · rename_i t _ _ cs'' _ heq
      cases heq
      obtain ⟨b', rfl, hb'⟩ := den_bool hxd
      have hT' := BT.den_mono hle hT
      simp only [Bool.and_eq_true] at h1
      cases b <;> cases b' <;> first
        | rfl
        | exact (dead_ok (ρ := ρ') h1.1 ρ' (Env.Le.refl ρ') ((hc'.cons hb').cons hT')).elim
        | exact (dead_ok (ρ := ρ') h1.2 ρ' (Env.Le.refl ρ') ((hc'.cons hb').cons hT')).elim
    · rename_i heq
      cases heq
      exact (dead_ok (ρ := ρ) h1 ρ' hle hc').elim
    · rename_i heq; cases heq
    · rename_i heq; cases heq

end Go.Vm
