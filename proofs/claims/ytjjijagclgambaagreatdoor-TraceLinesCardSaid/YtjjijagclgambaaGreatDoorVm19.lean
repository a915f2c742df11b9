/-
  A machine for abstract states over the model (part 15): the machine tells the truth.
-/
import Derived.Test.YtjjijagclgambaaGreatDoorVm14
section
namespace Go.Vm

section
variable {P : Program} {β : Base} {ρ : Env} {w : World}

theorem undef_den : (AVal.tuple []).den ρ = some undef := rfl

theorem guard_ok {ops : Array Oper} {o : Oper} {t : Tr AVal} {a : Act} (r : TRel ρ t a.tmps) :
    (guardOf ops o t = .yes → Region.wanted o (yielded ops a.tmps) = true) ∧ (guardOf ops o t = .no → Region.wanted o (yielded ops a.tmps) = false) ∧
    (∀ u d, guardOf ops o t = .unk u d → t.get d = some (.bool u)) := by
  unfold guardOf Region.wanted
  split
  · rename_i hg
    exact ⟨fun _ => by rw [hg], (fun h => by cases h), (fun _ _ h => by cases h)⟩
  · rename_i j want hg
    simp only [hg]
    split
    · rename_i d hd
      have hd' : (ops[j]?).bind (·.dst) = some d := by simpa using hd
      split
      · rename_i b hb
        obtain ⟨x, hx, g⟩ := r d _ hb
        have := den_litb hx
        subst this
        have hy : yielded ops a.tmps j = some b := by simp [yielded, hd', g]
        refine ⟨fun h => ?_, fun h => ?_, (fun _ _ h => ?_)⟩
        · cases hbw : (b == want) with
          | true => rw [hy]; simpa using hbw
          | false => rw [hbw] at h; cases h
        · cases hbw : (b == want) with
          | false => rw [hy]; simpa using hbw
          | true => rw [hbw] at h; cases h
        · cases hbw : (b == want) <;> rw [hbw] at h <;> cases h
      · rename_i u hb hu
        exact ⟨(fun h => by cases h), (fun h => by cases h), (fun _ _ h => by cases h; exact hu)⟩
      · rename_i hu
        obtain ⟨x, hx, g⟩ := r d _ hu
        have hx' : x = undef := (Option.some.inj (hx.symm.trans (undef_den (ρ := ρ))))
        subst hx'
        have hy : yielded ops a.tmps j = none := by simp [yielded, hd', g, undef]
        exact ⟨(fun h => by cases h), (fun _ => by rw [hy]; rfl), (fun _ _ h => by cases h)⟩
      · exact ⟨(fun h => by cases h), (fun h => by cases h), (fun _ _ h => by cases h)⟩
    · exact ⟨(fun h => by cases h), (fun h => by cases h), (fun _ _ h => by cases h)⟩

theorem eachO_some {α γ : Type} {f : α → Option (List γ)} : ∀ {l : List α} {r : List γ}, eachO f l = some r → ∀ x ∈ l, ∃ rx, f x = some rx ∧ ∀ y ∈ rx, y ∈ r
  | [], r, h, x, hx => by cases hx
  | a :: l, r, h, x, hx => by
    simp only [eachO] at h
    unfold appendO at h
    split at h
    · rename_i ra rl hra hrl
      cases h
      rcases List.mem_cons.1 hx with rfl | hx
      · exact ⟨ra, hra, fun y hy => List.mem_append.2 (.inl hy)⟩
      · obtain ⟨rx, h1, h2⟩ := eachO_some hrl x hx
        exact ⟨rx, h1, fun y hy => List.mem_append.2 (.inr (h2 y hy))⟩
    · cases h
theorem appendO_some {α : Type} {a b : Option (List α)} {r : List α} (h : appendO a b = some r) : ∃ x y, a = some x ∧ b = some y ∧ r = x ++ y := by
  unfold appendO at h
  split at h
  · cases h; exact ⟨_, _, rfl, rfl, rfl⟩
  · cases h

/-- What is asked of a callee. -/
def FnOk (P : Program) (β : Base) (fn : FuncId → List AVal → Heap → Nat → Cs → Option (List Leaf)) : Prop := ∀ g args H nl cs ls ρ w xs, fn g args H nl cs = some ls → AVal.denL ρ args = some xs → HRel β ρ H nl w → CRel ρ cs → (∀ l ∈ ls, l.dead ρ) →
  Calls P g xs.toArray w (fun e w' => ∃ v, e = .returned v ∧ ∃ u H' nl' cs' ρ', Leaf.ret u H' nl' cs' ∈ ls ∧ ρ.Le ρ' ∧ u.den ρ' = some v ∧ HRel β ρ' H' nl' w' ∧ CRel ρ' cs')
/-- What is asked of an operation that is known. -/
def HookOk (P : Program) (β : Base) (hk : OpF) : Prop := ∀ (o : Oper) ev H nl cs ls ρ w (f : Operand → Value), hk o.op ev H nl cs = some ls → EvOk ρ ev f → HRel β ρ H nl w → CRel ρ cs → (∀ l ∈ ls, l.dead ρ) →
  ∃ x w', ((execOp f o).run P w = .ok (.value x) w' ∨ ((execOp f o).run P w = .ok .skip w' ∧ x = undef)) ∧ ∃ u H' nl' cs' ρ', Leaf.ret u H' nl' cs' ∈ ls ∧ ρ.Le ρ' ∧ u.den ρ' = some x ∧ HRel β ρ' H' nl' w' ∧ CRel ρ' cs'
theorem noOp_ok {P : Program} {β : Base} : HookOk P β noOp := fun _ _ _ _ _ _ _ _ _ h => by cases h
def CallOk (P : Program) (β : Base) (callF : CallF) : Prop := FnOk P β callF.fn ∧ HookOk P β callF.op

theorem SRel.mono {ρ' : Env} (_h : ρ.Le ρ') {S : St} {a : Act} (r : SRel β ρ S a w) (h' : HRel β ρ' S.H S.nl w) : SRel β ρ' S a w := ⟨r.d, r.n, r.t.mono _h, h', r.c.mono _h⟩

theorem lookB_ok : ∀ {cs : Cs} {t : BT} {b : Bool}, lookB cs t = some b → CRel ρ cs → t.den ρ = some b
  | [], t, b, h, _ => by cases h
  | (u, c) :: r, t, b, h, hc => by
    simp only [lookB] at h
    cases hb : BT.beq u t with
    | true =>
      rw [hb] at h; cases h
      rw [← BT.beq_eq hb]; exact hc _ List.mem_cons_self
    | false => rw [hb] at h; exact lookB_ok h fun p hp => hc p (List.mem_cons_of_mem _ hp)
theorem lookI_ok : ∀ {cs : Cs} {t : IT} {n : Nat} {z : Int}, lookI cs t = some n → CRel ρ cs → t.den ρ = some z → z = n
  | [], t, b, z, h, _, _ => by cases h
  | p :: r, t, n, z, h, hc, hz => by
    have hr : CRel ρ r := fun p hp => hc p (List.mem_cons_of_mem _ hp)
    unfold lookI at h
    split at h
    · cases h
    · rename_i u m r' heq
      cases heq
      cases hb : IT.beq u t with
      | true =>
        rw [hb] at h; cases h
        have := hc _ List.mem_cons_self
        rw [IT.beq_eq hb] at this
        simp only [BT.den, hz, IT.den, intCmp, Option.some.injEq, beq_iff_eq] at this
        exact this
      | false => rw [hb] at h; exact lookI_ok h hr hz
    · rename_i heq
      cases heq
      exact lookI_ok h hr hz
theorem normB_ok {cs : Cs} (hc : CRel ρ cs) : ∀ {t : BT} {b : Bool}, t.den ρ = some b → (normB cs t).den ρ = some b := by
  have look : ∀ {t : BT} {b c : Bool}, lookB cs t = some c → t.den ρ = some b → (BT.lit c).den ρ = some b := fun h hb => by
    have := lookB_ok h hc
    rw [hb] at this; cases this; rfl
  intro t
  induction t with
  | lit x => exact fun h => h
  | var i =>
    intro b h
    simp only [normB]
    split
    · rename_i c hl; exact look hl h
    · exact h
  | cmp op u v =>
    intro b h
    simp only [normB]
    split
    · rename_i c hl; exact look hl h
    · exact h
  | seq u v =>
    intro b h
    simp only [normB]
    split
    · rename_i c hl; exact look hl h
    · exact h
  | not a ih =>
    intro b h
    simp only [normB]
    split
    · rename_i c hl; exact look hl h
    · simp only [BT.den] at h
      obtain ⟨x, hx, rfl⟩ := Option.map_eq_some_iff.1 h
      exact mkNot_den (ih hx)
  | and a b iha ihb =>
    intro c h
    simp only [normB]
    split
    · rename_i d hl; exact look hl h
    · simp only [BT.den] at h
      split at h
      · rename_i x y hx hy
        cases h
        exact mkAnd_den (iha hx) (ihb hy)
      · cases h
theorem normV_ok {cs : Cs} {v : AVal} {x : Value} (hc : CRel ρ cs) (h : v.den ρ = some x) : (normV cs v).den ρ = some x := by
  unfold normV
  split
  · obtain ⟨b, rfl, hb⟩ := den_bool h
    simp only [AVal.den, normB_ok hc hb, Option.map_some]
  · rename_i k j t
    split
    · rename_i n hn
      obtain ⟨z, rfl, hz⟩ := den_int h
      obtain rfl := lookI_ok hn hc hz
      rfl
    · exact h
  · exact h
theorem noneOf_ok {t : IT} {z : Int} {n : Nat} (hz : t.den ρ = some z) (h : ∀ j : Nat, j < n → z ≠ j) : CRel ρ (noneOf t n) := by
  intro p hp
  obtain ⟨j, hj, rfl⟩ := List.mem_map.1 hp
  have := h j (List.mem_range.1 hj)
  simp only [BT.den, hz, IT.den, intCmp, Option.some.injEq, beq_eq_false_iff_ne, ne_eq]
  exact this
theorem enumOf_ok {o : Op} {t : Tr AVal} {d : Tmp} {k : IntKind} {u : IT} {n : Nat} (h : enumOf o t = some (d, k, u, n)) : t.get d = some (.int k u) := by
  unfold enumOf at h
  split at h
  · split at h
    · cases h
    · generalize Nat.blt _ 65 = b at h
      cases b with
      | true => cases h; assumption
      | false => cases h
    · cases h
  · cases h
theorem setI_ok {S : St} {a : Act} {k : IntKind} {t : IT} {d : Tmp} {j : Nat} (r : SRel β ρ S a w) (hd : S.tmps.get d = some (.int k t)) (hj : t.den ρ = some (j : Int)) : SRel β ρ (setI S d k t j) a w := by
  obtain ⟨x, hx, g⟩ := r.t d _ hd
  refine ⟨r.d, r.n, ?_, r.h, ?_⟩
  · intro i v hi
    rcases Tr.get_set hi with ⟨rfl, rfl⟩ | ⟨_, g1⟩
    · refine ⟨x, ?_, g⟩
      simp only [AVal.den, hj, Option.map_some] at hx
      rw [← hx]; rfl
    · exact r.t i v g1
  · intro p hp
    rcases List.mem_cons.1 hp with rfl | hp
    · simp [BT.den, hj, IT.den, intCmp]
    · exact r.c p hp

theorem outs_ok {S : St} {dst : Option Tmp} : ∀ {ls : List Leaf},
    (∀ cs, Leaf.stop cs ∈ ls → SO.stop cs ∈ outs S dst ls) ∧ (∀ S', Leaf.pause S' ∈ ls → SO.stop S'.cs ∈ outs S dst ls) ∧
    (∀ v H nl cs, Leaf.ret v H nl cs ∈ ls → SO.st { S with tmps := putT S.tmps S.nt dst (normV cs v), H := H, nl := nl, cs := cs } ∈ outs S dst ls)
  | [] => by simp
  | x :: r => by
    obtain ⟨h1, h2, h3⟩ := outs_ok (S := S) (dst := dst) (ls := r)
    cases x with
    | ret v H nl cs =>
      refine ⟨fun cs hc => ?_, fun S hc => ?_, fun v' H' nl' cs' hc => ?_⟩
      · rcases List.mem_cons.1 hc with hc | hc
        · cases hc
        · exact List.mem_cons_of_mem _ (h1 cs hc)
      · rcases List.mem_cons.1 hc with hc | hc
        · cases hc
        · exact List.mem_cons_of_mem _ (h2 S hc)
      · rcases List.mem_cons.1 hc with hc | hc
        · cases hc; exact List.mem_cons_self
        · exact List.mem_cons_of_mem _ (h3 _ _ _ _ hc)
    | stop cs =>
      refine ⟨fun cs hc => ?_, fun S hc => ?_, fun v' H' nl' cs' hc => ?_⟩
      · rcases List.mem_cons.1 hc with hc | hc
        · cases hc; exact List.mem_cons_self
        · exact List.mem_cons_of_mem _ (h1 cs hc)
      · rcases List.mem_cons.1 hc with hc | hc
        · cases hc
        · exact List.mem_cons_of_mem _ (h2 S hc)
      · rcases List.mem_cons.1 hc with hc | hc
        · cases hc
        · exact List.mem_cons_of_mem _ (h3 _ _ _ _ hc)
    | pause S0 =>
      refine ⟨fun cs hc => ?_, fun S hc => ?_, fun v' H' nl' cs' hc => ?_⟩
      · rcases List.mem_cons.1 hc with hc | hc
        · cases hc
        · exact List.mem_cons_of_mem _ (h1 cs hc)
      · rcases List.mem_cons.1 hc with hc | hc
        · cases hc; exact List.mem_cons_self
        · exact List.mem_cons_of_mem _ (h2 S hc)
      · rcases List.mem_cons.1 hc with hc | hc
        · cases hc
        · exact List.mem_cons_of_mem _ (h3 _ _ _ _ hc)

theorem sure_ok {c : BT} (h : sure c = true) : c.den ρ = some true := by
  unfold sure at h
  split at h
  · rename_i s n
    split at h
    · rename_i m hm
      rw [iLt_eq] at h
      simp at h
      have h1 := szB_ok ρ hm
      simp only [BT.den, IT.den, intCmp]
      simp; omega
    · cases h
  · cases h
theorem totI_div {op : BinOp} (ho : op = .quo ∨ op = .rem) {k : IntKind} {a b : IT} (h : totI (.bin op k a b) = true) : totI a = true ∧ ∃ n : Nat, b = .lit (.ofNat (n + 1)) := by
  rcases ho with rfl | rfl
  all_goals cases b with
    | lit z =>
      cases z with
      | ofNat m =>
        cases m with
        | zero => simp [totI] at h
        | succ m => exact ⟨by simpa [totI] using h, m, rfl⟩
      | negSucc m => simp [totI] at h
    | _ => simp [totI] at h
theorem totI_ok : ∀ {t : IT}, totI t = true → ∃ x, t.den ρ = some x := by
  intro t
  induction t with
  | lit n => exact fun _ => ⟨_, rfl⟩
  | var i => exact fun _ => ⟨_, rfl⟩
  | nv i => intro h; cases h
  | slen s => exact fun _ => ⟨_, rfl⟩
  | nsub i n => intro h; cases h
  | cv k a ih => intro h; obtain ⟨x, hx⟩ := ih h; exact ⟨_, by simp only [IT.den, hx]; rfl⟩
  | sel a s j i ih => intro h; obtain ⟨x, hx⟩ := ih h; exact ⟨_, by simp only [IT.den, hx]; rfl⟩
  | elem o s j i iho ih =>
    intro h; simp only [totI, Bool.and_eq_true] at h
    obtain ⟨x, hx⟩ := iho h.1; obtain ⟨y, hy⟩ := ih h.2; exact ⟨_, by simp only [IT.den, hx, hy]; rfl⟩
  | mx a b iha ihb =>
    intro h; simp only [totI, Bool.and_eq_true] at h
    obtain ⟨x, hx⟩ := iha h.1; obtain ⟨y, hy⟩ := ihb h.2; exact ⟨_, by simp only [IT.den, hx, hy]; rfl⟩
  | mn a b iha ihb =>
    intro h; simp only [totI, Bool.and_eq_true] at h
    obtain ⟨x, hx⟩ := iha h.1; obtain ⟨y, hy⟩ := ihb h.2; exact ⟨_, by simp only [IT.den, hx, hy]; rfl⟩
  | fn k a b iha ihb =>
    intro h; simp only [totI, Bool.and_eq_true] at h
    obtain ⟨x, hx⟩ := iha h.1; obtain ⟨y, hy⟩ := ihb h.2; exact ⟨_, by simp only [IT.den, hx, hy]; rfl⟩
  | un k a b iha ihb =>
    intro h; simp only [totI, Bool.and_eq_true] at h
    obtain ⟨x, hx⟩ := iha h.1; obtain ⟨y, hy⟩ := ihb h.2; exact ⟨_, by simp only [IT.den, hx, hy]; rfl⟩
  | scode s => exact fun _ => ⟨_, rfl⟩
  | bin op k a b iha ihb =>
    intro h
    by_cases ho : op = .quo ∨ op = .rem
    · obtain ⟨ha, n, rfl⟩ := totI_div ho h
      obtain ⟨x, hx⟩ := iha ha
      have hn : ¬ ((Int.ofNat (n + 1)) = 0) := by simp; omega
      rcases ho with rfl | rfl <;> exact ⟨_, by simp only [IT.den, hx, intBin, if_neg hn]; rfl⟩
    cases op <;> first
      | (exact absurd (.inl rfl) ho)
      | (exact absurd (.inr rfl) ho)
      | (simp [totI] at h; done)
      | (simp only [totI, Bool.and_eq_true] at h
         obtain ⟨x, hx⟩ := iha h.1; obtain ⟨y, hy⟩ := ihb h.2; exact ⟨_, by simp only [IT.den, hx, hy, intBin]; rfl⟩)
theorem tot_ok {c : BT} (h : tot c = true) : ∃ b, c.den ρ = some b := by
  unfold tot at h
  split at h
  all_goals first
    | (cases h; done)
    | (simp only [Bool.and_eq_true] at h
       obtain ⟨x, hx⟩ := totI_ok (ρ := ρ) h.1; obtain ⟨y, hy⟩ := totI_ok (ρ := ρ) h.2
       exact ⟨_, by simp only [BT.den, hx, hy, intCmp]; rfl⟩)
theorem sureC_ok {cs : Cs} {c : BT} (h : sureC cs c = true) (hc : CRel ρ cs) : c.den ρ = some true := by
  unfold sureC at h
  cases hs : sure c with
  | true => exact sure_ok hs
  | false =>
    rw [hs] at h
    simp only [Bool.false_or] at h
    split at h
    · rename_i b hl; subst h; exact lookB_ok hl hc
    · cases h

theorem stepOp_ok (hc : NoCount P) {E : Exts} (hE : ExtOk P E) {callF : CallF} (hcall : CallOk P β callF) {ops : Array Oper} {i : Nat} {o : Oper} (ho : ops[i]? = some o) {S : St} {a : Act} (hw : Region.wanted o (yielded ops a.tmps) = true)
    {l : List SO} (h : stepOp P E callF o S = some l) (r : SRel β ρ S a w) (hdead : ∀ x ∈ l, x.dead ρ) {K : Act → World → Prop}
    (hK : ∀ S', SO.st S' ∈ l → S'.todo = S.todo → ∀ ρ' a' w', ρ.Le ρ' → SRel β ρ' S' a' w' → K a' w') : OpG P ops i K a w := by
  have nostop : l = [.stop S.cs] → False := fun e => hdead (.stop S.cs) (by rw [e]; exact List.mem_cons_self) ρ (Env.Le.refl ρ) r.c
  unfold OpG
  simp only [ho]
  rw [if_pos hw]
  unfold stepOp at h
  have he := evOf_ok r.t
  split at h
  · rename_i ls hls
    cases h
    obtain ⟨h1, h2, h3⟩ := outs_ok (S := S) (dst := o.dst) (ls := ls)
    obtain ⟨x, w', hrun, u, H', nl', cs', ρ', hmem, hle, hu, hr', hcs⟩ := hcall.2 o _ S.H S.nl S.cs ls ρ w _ hls he r.h r.c (fun x hx => by
      cases x with
      | ret => trivial
      | pause S' => exact hdead _ (h2 S' hx)
      | stop cs => exact hdead _ (h1 cs hx))
    have k := hK _ (h3 _ _ _ _ hmem) rfl ρ' (a.put o.dst x) w' hle ⟨by rw [put_defers]; exact r.d, by rw [put_size]; exact r.n, putT_ok (r.t.mono hle) r.n (normV_ok hcs hu), hr', hcs⟩
    rcases hrun with hrun | ⟨hrun, rfl⟩
    · exact .inl ⟨x, w', hrun, k⟩
    · exact .inr (.inl ⟨w', hrun, k⟩)
  split at h
  · rename_i v H nl mu hop
    cases hmu : mu.all (fun c => sureC S.cs c || tot c) with
    | false => rw [hmu] at h; exact (nostop (Option.some.inj h).symm).elim
    | true =>
      rw [hmu] at h; simp only [cond_true, Option.some.injEq] at h; subst h
      have hok := aop_ok hc hE hop he r.h
      have hmust : ∀ c ∈ mu, c.den ρ = some true := by
        intro c hcm
        cases hsu : sureC S.cs c with
        | true => exact sureC_ok hsu r.c
        | false =>
          have hto := List.all_eq_true.1 hmu c hcm
          rw [hsu, Bool.false_or] at hto
          obtain ⟨b, hb⟩ := tot_ok (ρ := ρ) hto
          cases b with
          | true => exact hb
          | false =>
            exfalso
            have hd := hdead (.stop ((c, false) :: S.cs)) (List.mem_cons_of_mem _ (List.mem_map.2 ⟨c, List.mem_filter.2 ⟨hcm, by simp [hsu]⟩, rfl⟩))
            exact hd ρ (Env.Le.refl ρ) (fun p hp => by
              rcases List.mem_cons.1 hp with rfl | hp
              · exact hb
              · exact r.c p hp)
      obtain ⟨ρ', w', x, hle, hrun, hx, hr'⟩ := hok hmust
      refine .inl ⟨x, w', hrun, hK _ List.mem_cons_self rfl ρ' _ w' hle ⟨by rw [put_defers]; exact r.d, by rw [put_size]; exact r.n, putT_ok (r.t.mono hle) r.n (normV_ok (r.c.mono hle) hx), hr', ?_⟩⟩
      intro p hp
      rcases List.mem_append.1 hp with hp | hp
      · obtain ⟨c, hcm, rfl⟩ := List.mem_map.1 hp
        exact BT.den_mono hle (hmust c (List.mem_filter.1 hcm).1)
      · exact BT.den_mono hle (r.c p hp)
  · rename_i H nl hop
    cases h
    obtain ⟨ρ', w', hle, hrun, hr'⟩ := aop_ok hc hE hop he r.h
    exact .inr (.inl ⟨w', hrun, hK _ List.mem_cons_self rfl ρ' _ w' hle ⟨by rw [put_defers]; exact r.d, by rw [put_size]; exact r.n, putT_ok (r.t.mono hle) r.n undef_den, hr', r.c.mono hle⟩⟩)
  · rename_i H nl mu hop
    cases hmu : mu.all (fun c => sureC S.cs c || tot c) with
    | false => rw [hmu] at h; exact (nostop (Option.some.inj h).symm).elim
    | true =>
      rw [hmu] at h; simp only [cond_true, Option.some.injEq] at h; subst h
      have hok := aop_ok hc hE hop he r.h
      have hmust : ∀ c ∈ mu, c.den ρ = some true := by
        intro c hcm
        cases hsu : sureC S.cs c with
        | true => exact sureC_ok hsu r.c
        | false =>
          have hto := List.all_eq_true.1 hmu c hcm
          rw [hsu, Bool.false_or] at hto
          obtain ⟨b, hb⟩ := tot_ok (ρ := ρ) hto
          cases b with
          | true => exact hb
          | false =>
            exfalso
            have hd := hdead (.stop ((c, false) :: S.cs)) (List.mem_cons_of_mem _ (List.mem_map.2 ⟨c, List.mem_filter.2 ⟨hcm, by simp [hsu]⟩, rfl⟩))
            exact hd ρ (Env.Le.refl ρ) (fun p hp => by
              rcases List.mem_cons.1 hp with rfl | hp
              · exact hb
              · exact r.c p hp)
      obtain ⟨ρ', w', hle, hrun, hr'⟩ := hok hmust
      refine .inr (.inl ⟨w', hrun, hK _ List.mem_cons_self rfl ρ' _ w' hle ⟨by rw [put_defers]; exact r.d, by rw [put_size]; exact r.n, putT_ok (r.t.mono hle) r.n undef_den, hr', ?_⟩⟩)
      intro p hp
      rcases List.mem_append.1 hp with hp | hp
      · obtain ⟨c, hcm, rfl⟩ := List.mem_map.1 hp
        exact BT.den_mono hle (hmust c (List.mem_filter.1 hcm).1)
      · exact BT.den_mono hle (r.c p hp)
  · rename_i g args hop
    split at h
    · rename_i ls hls
      cases h
      obtain ⟨hb, xs, hrun, hxs⟩ := aop_ok hc hE hop he r.h
      obtain ⟨h1, h2, h3⟩ := outs_ok (S := S) (dst := o.dst) (ls := ls)
      have hc2 := hcall.1 g args S.H S.nl S.cs ls ρ w xs hls hxs r.h r.c (fun x hx => by
        cases x with
        | ret => trivial
        | pause S' => exact hdead _ (h2 S' hx)
        | stop cs => exact hdead _ (h1 cs hx))
      refine .inr (.inr ⟨g, xs.toArray, w, hrun, hc2.mono fun e w2 ⟨v, hv, u, H', nl', cs', ρ', hmem, hle, hu, hr', hcs⟩ => ⟨v, hv, ?_⟩⟩)
      exact hK _ (h3 _ _ _ _ hmem) rfl ρ' _ w2 hle ⟨by rw [put_defers]; exact r.d, by rw [put_size]; exact r.n, putT_ok (r.t.mono hle) r.n (normV_ok hcs hu), hr', hcs⟩
    · cases h
  · exact (nostop (Option.some.inj h).symm).elim

-- READS
theorem rOp_ok {o : Oper} {ev : Ev} {f : Operand → Value} {rk : RK} {u : AVal} {H : Heap} {nl : Nat} {cs : Cs} (h : rOp o.op ev = some rk) (he : EvOk ρ ev f) (hu : rk.ev P H cs = some u) (hr : HRel β ρ H nl w) (hcs : CRel ρ cs) :
    ∃ x, u.den ρ = some x ∧ (execOp f o).run P w = .ok (.value x) w := by
  unfold rOp at h
  split at h
  · rename_i t a ho
    obtain ⟨x, hx, rfl⟩ := map_some h
    simp only [RK.ev] at hu
    split at hu
    · rename_i v hv
      cases hu
      obtain ⟨y, hy, hd⟩ := aLoad_ok (P := P) hv (he a x hx) hr
      exact ⟨y, hd, by simp [execOp, ho, hy]⟩
    · split at hu
      · rename_i v mu hv
        cases hmu : mu.all (sureC cs) with
        | false => rw [hmu] at hu; cases hu
        | true =>
          rw [hmu] at hu; cases hu
          obtain ⟨y, hy, hd⟩ := aLoadE_ok (P := P) hv (he a x hx) (fun c hcm => sureC_ok (List.all_eq_true.1 hmu c hcm) hcs) hr
          exact ⟨y, hd, by simp [execOp, ho, hy]⟩
      · cases hu
  · rename_i t m k ok ho
    split at h
    · rename_i mv kv hm hk
      cases h
      obtain ⟨y, hd, hrun⟩ := aLookup_ok (P := P) hu (he m mv hm) (he k kv hk) hr
      exact ⟨y, hd, by simp [execOp, ho, hrun]⟩
    · cases h
  · rename_i args tys ho
    split at h
    · rename_i x t hargs htys
      obtain ⟨v, hv, rfl⟩ := map_some h
      obtain ⟨y, hd, hrun⟩ := aLen_ok (P := P) (ty := o.type) hu (he x v hv) hr
      have ha : args.map f = #[f x] := by apply Array.toList_inj.1; simp [hargs]
      have ht : tys = #[t] := by apply Array.toList_inj.1; simp [htys]
      subst ht
      exact ⟨y, hd, by simp [execOp, ho, resolve, invoke, builtin, ha, hrun]⟩
    · cases h
  · cases h

def Cert (P : Program) (β : Base) (ρ : Env) (X : List XF) (C : Array Bool → World → Prop) : Prop :=
  (∀ ρ' H' nl' w' L cs', ρ.Le ρ' → xOk P X L H' cs' = true → HRel β ρ' H' nl' w' → CRel ρ' cs' → C L w') ∧ (∀ i, xFree X i = true → ∀ L w, C (L.setIfInBounds i true) w → C L w) ∧ ∀ i L w, C L w → C (L.setIfInBounds i true) w
theorem Cert.mono {ρ' : Env} {X : List XF} {C : Array Bool → World → Prop} (h : ρ.Le ρ') (c : Cert P β ρ X C) : Cert P β ρ' X C := ⟨fun r H nl w L cs hr hx hh hc => c.1 r H nl w L cs (h.trans hr) hx hh hc, c.2⟩
theorem unl_iff {L : Array Bool} {D : List Nat} : unl L D = true ↔ ∀ d ∈ D, L.getD d false = false := by
  simp [unl]
theorem depOk_spec {ops : Array Oper} {i : Nat} {D : List Nat} (h : depOk ops i D = true) :
    i ∉ D ∧ ∀ d ∈ D, ∀ o, ops[d]? = some o → ∃ e ∈ o.after, Region.binds .any e = true ∧ (e.on = i ∨ e.on ∈ D) := by
  simp only [depOk, List.all_eq_true, Bool.and_eq_true] at h
  refine ⟨fun hi => ?_, fun d hd o ho => ?_⟩
  · have := (h i hi).1; simp at this
  · have h1 := (h d hd).2
    have ho' : ops.toList[d]? = some o := by simpa using ho
    rw [ho'] at h1
    simp only [Array.any_eq_true', Bool.and_eq_true, Bool.or_eq_true, List.any_eq_true] at h1
    obtain ⟨e, he, hb, h2⟩ := h1
    refine ⟨e, he, hb, ?_⟩
    rcases h2 with h2 | ⟨x, hx, h2⟩
    · exact .inl (Nat.eq_of_beq_eq_true h2)
    · exact .inr (Nat.eq_of_beq_eq_true h2 ▸ hx)
theorem EvOk.mono {ρ' : Env} (h : ρ.Le ρ') {ev : Ev} {f : Operand → Value} (e : EvOk ρ ev f) : EvOk ρ' ev f := fun x v hv => AVal.den_mono h v (e x v hv)

theorem setB_ok {S : St} {a : Act} {t : BT} {d : Tmp} (r : SRel β ρ S a w) (hd : S.tmps.get d = some (.bool t)) : ∃ b, SRel β ρ (setB S t d b) a w := by
  obtain ⟨x, hx, g⟩ := r.t d _ hd
  obtain ⟨b, rfl, hb⟩ := den_bool hx
  refine ⟨b, r.d, r.n, ?_, r.h, ?_⟩
  · intro i v hi
    rcases Tr.get_set hi with ⟨rfl, rfl⟩ | ⟨_, g1⟩
    · exact ⟨.bool b, rfl, g⟩
    · exact r.t i v g1
  · intro p hp
    rcases List.mem_cons.1 hp with rfl | hp
    · exact hb
    · exact r.c p hp

/-- What a choice of an operation to come first is good for. -/
theorem classify_ok {ops : Array Oper} {listed : Array Bool} {S : St} {X : List XF} {i : Nat} {a : Act} {C : Array Bool → World → Prop} (r : SRel β ρ S a w) (hCl : C listed w) (hC : Cert P β ρ X C) :
    (∀ t d, classify P ops listed S X i = .split t d → S.tmps.get d = some (.bool t)) ∧
    (∀ j t X', classify P ops listed S X i = .take j t X' → j = i ∧ Region.free .any ops listed i = true ∧ xFree X i = true ∧ ∃ (o : Oper) (v : Value) (C' : Array Bool → World → Prop) (F : World → Prop) (D : List Nat), ops[i]? = some o ∧ YC P ops F o v a ∧ (∀ L w, C' L w → C L w) ∧ C' (listed.setIfInBounds i true) w ∧
      (∀ L w, (∀ d ∈ D, L.getD d false = false) → C' L w → F w) ∧ i ∉ D ∧ (∀ d ∈ D, ∀ o : Oper, ops[d]? = some o → ∃ e ∈ o.after, Region.binds .any e = true ∧ (e.on = i ∨ e.on ∈ D)) ∧ (∀ d ∈ D, listed.getD d false = false) ∧
      SRel β ρ { S with tmps := t } (a.put o.dst v) w ∧ Cert P β ρ X' C') := by
  have hCw := hC.2.2 i _ _ hCl
  unfold classify
  split
  · exact ⟨(fun _ _ h => by cases h), (fun _ _ _ h => by cases h)⟩
  · rename_i o ho
    have ho' : ops[i]? = some o := by simpa using ho
    obtain ⟨g1, g2, g3⟩ := guard_ok (ops := ops) (o := o) r.t
    split
    · rename_i t d hg
      exact ⟨(fun _ _ h => by cases h; exact g3 _ _ hg), (fun _ _ _ h => by cases h)⟩
    · exact ⟨(fun _ _ h => by cases h), (fun _ _ _ h => by cases h)⟩
    · rename_i hg
      cases hf : (Region.free .any ops listed i && xFree X i) with
      | false => exact ⟨(fun _ _ h => by cases h), (fun _ _ _ h => by cases h)⟩
      | true =>
        refine ⟨(fun _ _ h => by cases h), (fun j t X' h => ?_)⟩
        simp only [Bool.and_eq_true] at hf
        simp only [cond_true, Pk.take.injEq] at h
        obtain ⟨rfl, rfl, rfl⟩ := h
        exact ⟨rfl, hf.1, hf.2, o, undef, C, fun _ => True, [], ho', .inr ⟨g2 hg, rfl⟩, fun _ _ h => h, hCw, fun _ _ _ _ => trivial, (fun h => by cases h), (fun _ h => by cases h), (fun _ h => by cases h),
          ⟨by rw [put_defers]; exact r.d, by rw [put_size]; exact r.n, putT_ok r.t r.n undef_den, r.h, r.c⟩, hC⟩
    · rename_i hg
      split
      · rename_i v mu hp
        cases hf : (mu.all (sureC S.cs) && (Region.free .any ops listed i && xFree X i)) with
        | false => exact ⟨(fun _ _ h => by cases h), (fun _ _ _ h => by cases h)⟩
        | true =>
          simp only [Bool.and_eq_true] at hf
          refine ⟨(fun _ _ h => by cases h), (fun j t X' h => ?_)⟩
          simp only [cond_true, Pk.take.injEq] at h
          obtain ⟨rfl, rfl, rfl⟩ := h
          obtain ⟨x, hxd, hrun⟩ := aPure_ok hp (evOf_ok r.t) (fun c h => sureC_ok (List.all_eq_true.1 hf.1 c h) r.c)
          exact ⟨rfl, hf.2.1, hf.2.2, o, x, C, fun _ => True, [], ho', .inl ⟨g1 hg, fun w _ => hrun w⟩, fun _ _ h => h, hCw, fun _ _ _ _ => trivial, (fun h => by cases h), (fun _ h => by cases h), (fun _ h => by cases h),
            ⟨by rw [put_defers]; exact r.d, by rw [put_size]; exact r.n, putT_ok r.t r.n (normV_ok r.c hxd), r.h, r.c⟩, hC⟩
      · split
        · rename_i rk hrk
          split
          · rename_i v hv
            generalize hDd : depsOf i 0 ops.toList [] = D
            simp only
            cases hf : ((Region.free .any ops listed i && xFree X i) && (depOk ops i D && unl listed D)) with
            | false => exact ⟨(fun _ _ h => by cases h), (fun _ _ _ h => by cases h)⟩
            | true =>
              simp only [Bool.and_eq_true] at hf
              refine ⟨(fun _ _ h => by cases h), (fun j t X' h => ?_)⟩
              simp only [cond_true, Pk.take.injEq] at h
              obtain ⟨rfl, rfl, rfl⟩ := h
              obtain ⟨x, hxd, hrun⟩ := rOp_ok (P := P) hrk (evOf_ok r.t) hv r.h r.c
              obtain ⟨hiD, hDs⟩ := depOk_spec hf.2.1
              generalize hW : D.filter _ = W
              have hWD : ∀ d ∈ W, d ∈ D := fun d hd => by rw [← hW] at hd; exact (List.mem_filter.1 hd).1
              have hcert : Cert P β ρ (⟨W, rk, v⟩ :: X) (fun L w' => C L w' ∧ ((∀ d ∈ W, L.getD d false = false) → (execOp a.eval o).run P w' = .ok (.value x) w')) := by
                refine ⟨fun ρ' H' nl' w' L cs' hle hx' hr' hcs' => ?_, fun k hk L w' h => ?_, fun k L w' h => ⟨hC.2.2 k L w' h.1, fun hLW => h.2 fun d hd => ?_⟩⟩
                · simp only [xOk, List.all_cons, Bool.and_eq_true] at hx'
                  refine ⟨hC.1 ρ' H' nl' w' L cs' hle hx'.2 hr' hcs', fun hLW => ?_⟩
                  have hx1 := hx'.1
                  rw [unl_iff.2 hLW, cond_true] at hx1
                  split at hx1
                  · rename_i u hu
                    have := AVal.beq_eq _ _ hx1
                    subst this
                    obtain ⟨y, hyd, hrun'⟩ := rOp_ok (P := P) hrk ((evOf_ok r.t).mono hle) hu hr' hcs'
                    have := AVal.den_mono hle _ hxd
                    rw [this] at hyd
                    cases hyd
                    exact hrun'
                  · cases hx1
                · simp only [xFree, List.all_cons, Bool.and_eq_true, List.all_eq_true] at hk
                  refine ⟨hC.2.1 k (by simp only [xFree, List.all_eq_true]; exact hk.2) L w' h.1, fun hLW => h.2 fun d hd => ?_⟩
                  have hdk := hk.1 d hd
                  simp at hdk
                  rw [getD_set_ne false (fun (e : k = d) => by subst e; simp at hdk)]; exact hLW d hd
                · cases hg : L.getD d false with
                  | false => rfl
                  | true => have := hLW d hd; rw [getD_set_true hg] at this; cases this
              exact ⟨rfl, hf.1.1, hf.1.2, o, x, _, fun w' => (execOp a.eval o).run P w' = .ok (.value x) w', D, ho', .inl ⟨g1 hg, fun w h => h⟩, fun _ _ h => h.1, ⟨hCw, fun _ => hrun⟩,
                fun L w' hL h => h.2 fun d hd => hL d (hWD d hd), hiD, hDs, unl_iff.1 hf.2.2,
                ⟨by rw [put_defers]; exact r.d, by rw [put_size]; exact r.n, putT_ok r.t r.n hxd, r.h, r.c⟩, hcert⟩
          · exact ⟨(fun _ _ h => by cases h), (fun _ _ _ h => by cases h)⟩
        · exact ⟨(fun _ _ h => by cases h), (fun _ _ _ h => by cases h)⟩

theorem pick_ok {ops : Array Oper} {listed : Array Bool} {S : St} {X : List XF} : ∀ {l : List Nat} {p : Pk}, pick P ops listed S X l = p → p = .none ∨ ∃ i ∈ l, classify P ops listed S X i = p
  | [], p, h => .inl h.symm
  | i :: r, p, h => by
    simp only [pick] at h
    split at h
    · rcases pick_ok h with h1 | ⟨j, hj, hc⟩
      · exact .inl h1
      · exact .inr ⟨j, List.mem_cons_of_mem _ hj, hc⟩
    · exact .inr ⟨i, List.mem_cons_self, h⟩

theorem regRun_ok (hc : NoCount P) {E : Exts} (hE : ExtOk P E) {callF : CallF} (hcall : CallOk P β callF) {ops : Array Oper} (hns : Region.noSelect ops = true) {Q : Act → World → Prop} :
    ∀ (m n : Nat) (listed : Array Bool) (S : St) (X : List XF) (l : List SO) (ρ : Env) (a : Act) (w : World) (C : Array Bool → World → Prop), regRun P E callF ops m n listed S X = some l →
      SRel β ρ S a w → C listed w → Cert P β ρ X C → (∀ x ∈ l, x.dead ρ) → (∀ S', SO.st S' ∈ l → ∀ ρ' a' w', ρ.Le ρ' → SRel β ρ' S' a' w' → Q a' w') → AnyG P .any ops Q C n listed a w := by
  intro m
  induction m with
  | zero => intro n listed S X l ρ a w C h; simp [regRun] at h
  | succ m ih =>
    intro n listed S X l ρ a w C h r hCw hC hdead hQ
    simp only [regRun] at h
    split at h
    · rename_i hr
      cases h
      have q := hQ S List.mem_cons_self ρ a w (Env.Le.refl ρ) r
      cases n with
      | zero => exact ⟨hr, q⟩
      | succ n => exact ⟨fun _ => q, fun i hi => by rw [hr] at hi; cases hi⟩
    · rename_i rs hne
      cases n with
      | zero => cases h
      | succ n =>
        simp only at h
        split at h
        · -- a guard that isn't known
          rename_i t d hp
          rcases pick_ok hp with h1 | ⟨i, hi, hcl⟩
          · cases h1
          · have hd := (classify_ok r hCw hC).1 t d hcl
            obtain ⟨b, hb⟩ := setB_ok r hd
            obtain ⟨x, y, hx, hy, rfl⟩ := appendO_some h
            cases b with
            | true => exact ih (n + 1) listed _ X x ρ a w C hx hb hCw hC (fun z hz => hdead z (List.mem_append.2 (.inl hz))) (fun S' hS' => hQ S' (List.mem_append.2 (.inl hS')))
            | false => exact ih (n + 1) listed _ X y ρ a w C hy hb hCw hC (fun z hz => hdead z (List.mem_append.2 (.inr hz))) (fun S' hS' => hQ S' (List.mem_append.2 (.inr hS')))
        · -- one that may come first
          rename_i i t X' hp
          rcases pick_ok hp with h1 | ⟨j, hj, hcl⟩
          · cases h1
          · obtain ⟨rfl, hf, hxf, o, v, C', F, D, ho, hy, hC1, hCw', hF, hiD, hDs, hDl, hr', hC'⟩ := (classify_ok r hCw hC).2 i t X' hcl
            have hrec := ih n _ _ X' l ρ _ w C' h hr' hCw' hC' hdead hQ
            exact AnyG.first hC1 ho (Region.noSelect_spec hns) (hC.2.1 _ hxf) hF hiD hDs n listed a w (Region.free_spec ho hf) hj hDl hy hCw' hrec
        · -- all of them
          refine ⟨fun e => absurd e hne, fun i hi => ?_⟩
          obtain ⟨ri, hri, hsub⟩ := eachO_some h i hi
          split at hri
          · cases hri
          · rename_i o ho
            have ho' : ops[i]? = some o := by simpa using ho
            obtain ⟨g1, g2, g3⟩ := guard_ok (ops := ops) (o := o) r.t
            split at hri
            · rename_i hg
              split at hri
              · rename_i so hso
                refine stepOp_ok hc hE hcall ho' (g1 hg) hso r (fun x hx => ?_) (fun S' hS' _ ρ' a' w' hle hr' => ?_)
                · obtain ⟨rx, hrx, hsub'⟩ := eachO_some hri x hx
                  cases x with
                  | st S' => trivial
                  | stop cs => cases hrx; exact hdead _ (hsub _ (hsub' _ List.mem_cons_self))
                · obtain ⟨rx, hrx, hsub'⟩ := eachO_some hri _ hS'
                  simp only at hrx
                  cases hxo : xOk P X (listed.setIfInBounds i true) S'.H S'.cs with
                  | false => rw [hxo] at hrx; cases hrx; exact (Dead.mono hle (hdead (.stop S'.cs) (hsub _ (hsub' _ List.mem_cons_self))) ρ' (Env.Le.refl ρ') hr'.c).elim
                  | true =>
                    rw [hxo] at hrx; simp only [cond_true] at hrx
                    have hCw' := hC.1 ρ' S'.H S'.nl w' _ _ hle hxo hr'.h hr'.c
                    refine ⟨hCw', ih n _ S' X rx ρ' a' w' C hrx hr' hCw' (hC.mono hle) (fun z hz => ?_) (fun S2 hS2 ρ2 a2 w2 hle2 => hQ S2 (hsub _ (hsub' _ hS2)) ρ2 a2 w2 (hle.trans hle2))⟩
                    have := hdead z (hsub _ (hsub' _ hz))
                    cases z with
                    | st => trivial
                    | stop cs => exact Dead.mono hle this
              · cases hri
            · rename_i hg
              unfold OpG
              simp only [ho']
              rw [if_neg (by rw [g2 hg]; simp)]
              refine ⟨hC.2.2 _ _ _ hCw, ih n _ _ X ri ρ _ w C hri ⟨by rw [put_defers]; exact r.d, by rw [put_size]; exact r.n, putT_ok r.t r.n undef_den, r.h, r.c⟩ (hC.2.2 _ _ _ hCw) hC (fun z hz => hdead z (hsub _ hz)) (fun S2 hS2 => hQ S2 (hsub _ hS2))⟩
            · cases hri; exact (hdead (.stop S.cs) (hsub _ List.mem_cons_self) ρ (Env.Le.refl ρ) r.c).elim

-- ENTRIES
theorem ofL_ok {ρ : Env} : ∀ {l : List AVal} {xs : List Value} {i : Nat} {t : Tr AVal} {tm : Array Value}, AVal.denL ρ l = some xs → (∀ j x, xs[j]? = some x → tm[i + j]? = some x) → TRel ρ t tm → TRel ρ (ofL l i t) tm
  | [], xs, i, t, tm, h, _, r => r
  | v :: l, xs, i, t, tm, h, hx, r => by
    simp only [AVal.denL] at h
    split at h
    · rename_i x l' hv hl
      cases h
      refine ofL_ok (i := i + 1) hl (fun j y hy => ?_) ?_
      · have := hx (j + 1) y (by simpa using hy)
        rw [show i + 1 + j = i + (j + 1) from by omega]; exact this
      · intro k u hk
        rcases Tr.get_set hk with ⟨rfl, rfl⟩ | ⟨_, g⟩
        · exact ⟨x, hv, by simpa using hx 0 x rfl⟩
        · exact r k u g
    · cases h
theorem entry_ok {fn : Func} {c : Code} {args : List AVal} {xs : List Value} {H : Heap} {nl : Nat} {cs : Cs} (hx : AVal.denL ρ args = some xs) (hr : HRel β ρ H nl w) (hcs : CRel ρ cs) :
    SRel β ρ (entry fn c args H nl cs) ⟨xs.toArray ++ Array.replicate (fn.ntmps - xs.toArray.size) undef, []⟩ w := by
  refine ⟨rfl, ?_, ?_, hr, hcs⟩
  · have := AVal.denL_length hx
    simp [entry, this]
  · refine ofL_ok hx (fun j x hj => ?_) (fun i v h => by simp [Tr.get] at h)
    have hlt : j < xs.length := (List.getElem?_eq_some_iff.1 hj).1
    simp only [Nat.zero_add]
    rw [Array.getElem?_append_left (by simpa using hlt)]
    simpa using hj

/-- What an end is good for. -/
def Good (P : Program) (β : Base) (ρ : Env) (f : FuncId) (R : Value → World → Prop) : Leaf → Prop
  | .ret v H nl cs => ∀ ρ' w' x, ρ.Le ρ' → v.den ρ' = some x → HRel β ρ' H nl w' → CRel ρ' cs → R x w'
  | .pause S => ∀ ρ' a' w', ρ.Le ρ' → SRel β ρ' S a' w' → Goes P f R S.todo a' w'
  | .stop cs => Dead ρ cs
theorem Good.mono {ρ' : Env} {f : FuncId} {R : Value → World → Prop} (h : ρ.Le ρ') {l : Leaf} (g : Good P β ρ f R l) : Good P β ρ' f R l := by
  cases l with
  | ret v H nl cs => exact fun r w x hle => g r w x (h.trans hle)
  | pause S => exact fun r a w hle => g r a w (h.trans hle)
  | stop cs => exact Dead.mono h g

theorem OpG.goes {f : FuncId} {R : Value → World → Prop} {ops : Array Oper} {i : Nat} {rest : List Nat} {k : List Item} {a : Act} {o : Oper} (ho : ops[i]? = some o)
    (g : OpG P ops i (fun a' w' => Goes P f R (.inRegion ops rest :: k) a' w') a w) : Goes P f R (.inRegion ops (i :: rest) :: k) a w := by
  unfold OpG at g
  simp only [ho] at g
  split at g
  · rename_i hw
    rcases g with ⟨v, w', hr, hk⟩ | ⟨w', hr, hk⟩ | ⟨gf, args, w', hr, hcl⟩
    · exact Goes.value ho hw hr hk
    · exact Goes.skip ho hw hr hk
    · exact Goes.call ho hw hr hcl (fun v w2 h => h)
  · rename_i hw
    exact Goes.unwanted ho (by simpa using hw) g

theorem Good.absurd {f : FuncId} {R : Value → World → Prop} {S : St} {ls : List Leaf} {a : Act} {ρ : Env} (h : ls = [.stop S.cs]) (r : SRel β ρ S a w) (hg : ∀ l ∈ ls, Good P β ρ f R l) : False :=
  hg (.stop S.cs) (by rw [h]; exact List.mem_cons_self) ρ (Env.Le.refl ρ) r.c
theorem retLeaf_ok {f : FuncId} {S : St} {ls : List Leaf} {a : Act} {R : Value → World → Prop} (h : retLeaf P f S = some ls) (r : SRel β ρ S a w) (hg : ∀ l ∈ ls, Good P β ρ f R l) (ht : S.todo = [] ∨ ∃ k, S.todo = .code .ret :: k) :
    Goes P f R S.todo a w := by
  unfold retLeaf at h
  split at h
  · rename_i fn hfn
    have hfn' : P.funcs[f]? = some fn := by simpa using hfn
    split at h
    · rename_i v hv
      cases h
      obtain ⟨x, hx, hrun⟩ := aResult_ok (P := P) hv r.t r.h
      exact Goes.done hfn' r.d hrun (hg _ List.mem_cons_self ρ w x (Env.Le.refl ρ) hx r.h r.c) ht
    · exact (Good.absurd (Option.some.inj h).symm r hg).elim
  · exact (Good.absurd (Option.some.inj h).symm r hg).elim

end
end Go.Vm
end

/-
  A machine for abstract states over the model (part 16): it runs, and so does the program.
-/
section
namespace Go.Vm

section
variable {P : Program} {β : Base}

theorem Goes.one {f : FuncId} {R : Value → World → Prop} {todo todo' : List Item} {a a' : Act} {w w' : World} (h : ∀ cs, Go.step P (lone ((base f).at a todo) cs w) = Stepped.next (lone ((base f).at a' todo') cs w')) (g : Goes P f R todo' a' w') : Goes P f R todo a w :=
  Goes.step (fun cs => Steps.one (h cs)) g

theorem CRel.cons {ρ : Env} {t : BT} {b : Bool} {cs : Cs} (h : t.den ρ = some b) (c : CRel ρ cs) : CRel ρ ((t, b) :: cs) := fun p hp => by
  rcases List.mem_cons.1 hp with rfl | hp
  · exact h
  · exact c p hp

/-- Each that was there is stood for. -/
def Stood (β : Base) (lo : Nat) (L : List SO) : SO → Prop
  | .stop cs => SO.stop cs ∈ L
  | .st S => ∃ Y, SO.st Y ∈ L ∧ Cov β lo S Y
theorem Stood.self {lo : Nat} {L : List SO} {x : SO} (h : x ∈ L) : Stood β lo L x := by
  cases x with
  | stop cs => exact h
  | st S => exact ⟨S, h, Cov.refl β lo S⟩
theorem Stood.trans {lo : Nat} {L M : List SO} (h : ∀ x ∈ L, Stood β lo M x) {x : SO} (g : Stood β lo L x) : Stood β lo M x := by
  cases x with
  | stop cs => exact h _ g
  | st S =>
    obtain ⟨Y, hY, hc⟩ := g
    obtain ⟨Z, hZ, hc'⟩ := h _ hY
    exact ⟨Z, hZ, hc.trans hc'⟩
theorem Stood.mono {lo : Nat} {L M : List SO} (h : ∀ x ∈ L, x ∈ M) {x : SO} (g : Stood β lo L x) : Stood β lo M x := Stood.trans (fun x hx => Stood.self (h x hx)) g
theorem mergeIn_ok {lo : Nat} {S : St} : ∀ {L M : List SO}, mergeIn lo S L = some M → Stood β lo M (.st S) ∧ ∀ x ∈ L, Stood β lo M x
  | [], M, h => by cases h
  | .st X :: r, M, h => by
    simp only [mergeIn] at h
    split at h
    · rename_i Y hY
      cases h
      obtain ⟨h1, h2⟩ := mergeSt_ok (β := β) hY
      refine ⟨⟨Y, List.mem_cons_self, h1⟩, fun x hx => ?_⟩
      rcases List.mem_cons.1 hx with rfl | hx
      · exact ⟨Y, List.mem_cons_self, h2⟩
      · exact Stood.self (List.mem_cons_of_mem _ hx)
    · obtain ⟨M', hM, rfl⟩ := Option.map_eq_some_iff.1 h
      obtain ⟨h1, h2⟩ := mergeIn_ok hM
      refine ⟨h1.mono fun x hx => List.mem_cons_of_mem _ hx, fun x hx => ?_⟩
      rcases List.mem_cons.1 hx with rfl | hx
      · exact Stood.self List.mem_cons_self
      · exact (h2 x hx).mono fun x hx => List.mem_cons_of_mem _ hx
  | .stop cs :: r, M, h => by
    simp only [mergeIn] at h
    obtain ⟨M', hM, rfl⟩ := Option.map_eq_some_iff.1 h
    obtain ⟨h1, h2⟩ := mergeIn_ok hM
    refine ⟨h1.mono fun x hx => List.mem_cons_of_mem _ hx, fun x hx => ?_⟩
    rcases List.mem_cons.1 hx with rfl | hx
    · exact Stood.self List.mem_cons_self
    · exact (h2 x hx).mono fun x hx => List.mem_cons_of_mem _ hx
theorem dedupe_ok {lo : Nat} : ∀ {L acc : List SO}, ∀ x, x ∈ L ∨ x ∈ acc → Stood β lo (dedupe lo L acc) x
  | [], acc, x, h => by
    rcases h with h | h
    · cases h
    · exact Stood.self h
  | .stop cs :: r, acc, x, h => by
    simp only [dedupe]
    refine dedupe_ok (L := r) x ?_
    rcases h with h | h
    · rcases List.mem_cons.1 h with rfl | h
      · exact .inr List.mem_cons_self
      · exact .inl h
    · exact .inr (List.mem_cons_of_mem _ h)
  | .st S :: r, acc, x, h => by
    simp only [dedupe]
    split
    · rename_i acc' hm
      obtain ⟨h1, h2⟩ := mergeIn_ok (β := β) hm
      have key : ∀ y ∈ acc', Stood β lo (dedupe lo r acc') y := fun y hy => dedupe_ok (L := r) y (.inr hy)
      rcases h with h | h
      · rcases List.mem_cons.1 h with rfl | h
        · exact Stood.trans key h1
        · exact dedupe_ok (L := r) x (.inl h)
      · exact Stood.trans key (h2 x h)
    · refine dedupe_ok (L := r) x ?_
      rcases h with h | h
      · rcases List.mem_cons.1 h with rfl | h
        · exact .inr List.mem_cons_self
        · exact .inl h
      · exact .inr (List.mem_cons_of_mem _ h)

theorem run_sound (hc : NoCount P) {E : Exts} (hE : ExtOk P E) {sp : CallF} (hsp : CallOk P β sp) (hm : P.follows .mixedOrders = true) : ∀ (n : Nat) (pl : PL) (f : FuncId) (S : St) (ls : List Leaf) (ρ : Env) (a : Act) (w : World) (R : Value → World → Prop),
    run P E sp n pl f S = some ls → SRel β ρ S a w → (∀ l ∈ ls, Good P β ρ f R l) → Goes P f R S.todo a w := by
  intro n
  induction n with
  | zero => intro pl f S ls ρ a w R h; simp [run] at h
  | succ n ih =>
    intro pl f S ls ρ a w R h r hg
    have hcall : CallOk P β ⟨fun g args H nl cs => (match sp.fn g args H nl cs with
      | some ls => some ls
      | none => match P.funcs.toList[g]? with
        | some fn => match fn.body with
          | some c => run P E sp n false g (entry fn c args H nl cs)
          | none => none
        | none => none), sp.op⟩ := by
      refine ⟨?_, hsp.2⟩
      intro g args H nl cs ls' ρ' w' xs hrun hxs hr hcs hdead
      simp only at hrun
      split at hrun
      · rename_i ls0 hs0
        cases hrun
        exact hsp.1 g args H nl cs ls' ρ' w' xs hs0 hxs hr hcs hdead
      split at hrun
      · rename_i fn hfn
        split at hrun
        · rename_i c hb
          have hfn' : P.funcs[g]? = some fn := by simpa using hfn
          refine (calls_of_goes hfn' hb (R := fun v w2 => ∃ u H' nl' cs' ρ'', Leaf.ret u H' nl' cs' ∈ ls' ∧ ρ'.Le ρ'' ∧ u.den ρ'' = some v ∧ HRel β ρ'' H' nl' w2 ∧ CRel ρ'' cs') ?_)
          refine ih false g (entry fn c args H nl cs) ls' ρ' _ w' _ hrun (entry_ok hxs hr hcs) (fun l hl => ?_)
          have hd := hdead l hl
          cases l with
          | ret v H' nl' cs' => exact fun ρ'' w2 x hle hx hr' hcs' => ⟨v, H', nl', cs', ρ'', hl, hle, hx, hr', hcs'⟩
          | pause S' => exact fun ρ'' a2 w2 hle hr' => (hd ρ'' hle hr'.c).elim
          | stop cs' => exact hd
        · cases hrun
      · cases hrun
    have absurd : ls = [.stop S.cs] → False := fun e => Good.absurd e r hg
    have next : ∀ (todo : List Item), (∀ cs, step P (lone ((base f).at a S.todo) cs w) = .next (lone ((base f).at a todo) cs w)) → ∀ ls', run P E sp n pl f { S with todo := todo } = some ls' → (∀ l ∈ ls', l ∈ ls) → Goes P f R S.todo a w := by
      intro todo hs ls' hrun hsub
      exact Goes.one hs (ih pl f { S with todo := todo } ls' ρ a w R hrun ⟨r.d, r.n, r.t, r.h, r.c⟩ (fun l hl => hg l (hsub l hl)))
    have loop : ∀ (b : Code) (k : List Item), (∀ cs, step P (lone ((base f).at a S.todo) cs w) = .next (lone ((base f).at a (.code b :: .inLoop b :: k)) cs w)) →
        cond (pl.stops b) (some [Leaf.pause S]) (run P E sp n pl f { S with todo := .code b :: .inLoop b :: k }) = some ls → Goes P f R S.todo a w := by
      intro b k hs hrun
      cases hpl : pl.stops b with
      | true =>
        rw [hpl] at hrun
        simp only [cond_true, Option.some.injEq] at hrun
        subst hrun
        exact hg (.pause S) List.mem_cons_self ρ a w (Env.Le.refl ρ) r
      | false =>
        rw [hpl] at hrun
        exact next _ hs ls hrun (fun l hl => hl)
    simp only [run] at h
    split at h
    · rename_i ht; exact retLeaf_ok h r hg (.inl ht)
    · rename_i k ht; exact retLeaf_ok h r hg (.inr ⟨k, ht⟩)
    · rename_i k ht; exact next k (fun cs => by rw [ht]; exact step_skip) ls h (fun l hl => hl)
    · rename_i l0 k ht; exact next k (fun cs => by rw [ht]; exact step_label) ls h (fun l hl => hl)
    · rename_i x y k ht; exact next _ (fun cs => by rw [ht]; exact step_seq) ls h (fun l hl => hl)
    · rename_i c x y k ht
      split at h
      · rename_i b hb
        have he := den_litb (evOf_ok r.t c _ hb)
        refine next _ (fun cs => ?_) ls h (fun l hl => hl)
        rw [ht, step_cond he]
        cases b <;> rfl
      · rename_i t _ hb
        obtain ⟨b, hev, hbt⟩ := den_bool (evOf_ok r.t c _ hb)
        split at h
        · rename_i b' hl
          have hbb := lookB_ok hl r.c
          rw [hbt] at hbb; cases hbb
          refine next _ (fun cs => ?_) ls h (fun l hl => hl)
          rw [ht, step_cond hev]
          cases b <;> rfl
        obtain ⟨lx, ly, hx, hy, rfl⟩ := appendO_some h
        cases b with
        | true =>
          refine Goes.one (fun cs => ?_) (ih pl f { S with todo := .code x :: k, cs := (t, true) :: S.cs } lx ρ a w R hx ⟨r.d, r.n, r.t, r.h, r.c.cons hbt⟩ (fun l hl => hg l (List.mem_append.2 (.inl hl))))
          rw [ht, step_cond hev]; rfl
        | false =>
          refine Goes.one (fun cs => ?_) (ih pl f { S with todo := .code y :: k, cs := (t, false) :: S.cs } ly ρ a w R hy ⟨r.d, r.n, r.t, r.h, r.c.cons hbt⟩ (fun l hl => hg l (List.mem_append.2 (.inr hl))))
          rw [ht, step_cond hev]; rfl
      · exact (absurd (Option.some.inj h).symm).elim
    · rename_i id b k ht; exact next _ (fun cs => by rw [ht]; exact step_block) ls h (fun l hl => hl)
    · rename_i b k ht; exact next _ (fun cs => by rw [ht]; exact step_lone_go (by simp [stepG, stepG.exec, Frame.at])) ls h (fun l hl => hl)
    · rename_i b k ht; exact loop b k (fun cs => by rw [ht]; exact step_loop) h
    · rename_i b k ht; exact loop b k (fun cs => by rw [ht]; exact step_inLoop) h
    · rename_i id k ht
      split at h
      · rename_i k' hk; exact next _ (fun cs => by rw [ht]; exact step_exit hk) ls h (fun l hl => hl)
      · cases h
    · rename_i id k ht
      split at h
      · rename_i k' hk; exact next _ (fun cs => by rw [ht]; exact step_goto hk) ls h (fun l hl => hl)
      · cases h
    · rename_i id k ht; exact next _ (fun cs => by rw [ht]; exact step_inBlock) ls h (fun l hl => hl)
    · rename_i b k ht; exact next _ (fun cs => by rw [ht]; exact step_lone_go (by simp [stepG, stepG.exec, Frame.at])) ls h (fun l hl => hl)
    · rename_i id ops k ht; exact next _ (fun cs => by rw [ht]; exact step_region) ls h (fun l hl => hl)
    · rename_i id ops k ht
      split at h
      · rename_i so hso
        cases hns : Region.noSelect ops with
        | false => rw [hns] at h; cases h
        | true =>
          rw [hns] at h; simp only [cond_true] at h
          rw [ht]
          refine Goes.code (wp_region_any hm (AnyG.wp (C := fun _ _ => True) _ _ _ _ ?_))
          refine regRun_ok hc hE hcall hns n ops.size _ S [] so ρ a _ (fun _ _ => True) hso ⟨r.d, r.n, r.t, r.h.drew, r.c⟩ trivial ⟨fun _ _ _ _ _ _ _ _ _ _ => trivial, fun _ _ _ _ _ => trivial, fun _ _ _ _ => trivial⟩ (fun x hx => ?_) (fun S' hS' ρ' a' w' hle hr' => ?_)
          · have hst := dedupe_ok (β := β) (lo := S.nl) (L := so) (acc := []) x (.inl hx)
            cases x with
            | st S' => trivial
            | stop cs =>
              obtain ⟨rx, hrx, hsub⟩ := eachO_some h _ hst
              cases hrx; exact hg _ (hsub _ List.mem_cons_self)
          · obtain ⟨Y, hY, hcov⟩ := dedupe_ok (β := β) (lo := S.nl) (L := so) (acc := []) _ (.inl hS')
            obtain ⟨ρ2, hle2, hr2⟩ := hcov ρ ρ' a' w' r.h.fresh r.h.ownN hle hr'
            obtain ⟨rx, hrx, hsub⟩ := eachO_some h _ hY
            exact ih pl f { Y with todo := k } rx ρ2 a' w' R hrx ⟨hr2.d, hr2.n, hr2.t, hr2.h, hr2.c⟩ (fun l hl => (hg l (hsub l hl)).mono hle2)
      · cases h
    · rename_i ops k ht; exact next _ (fun cs => by rw [ht]; exact step_region_end) ls h (fun l hl => hl)
    · rename_i ops i rest k ht
      split at h
      · cases h
      · rename_i o ho
        have ho' : ops[i]? = some o := by simpa using ho
        obtain ⟨g1, g2, g3⟩ := guard_ok (ops := ops) (o := o) r.t
        split at h
        · rename_i hgd
          cases hpo : pl.ops o.op with
          | true =>
            rw [hpo] at h
            simp only [cond_true, Option.some.injEq] at h
            subst h
            exact hg (.pause S) List.mem_cons_self ρ a w (Env.Le.refl ρ) r
          | false =>
          rw [hpo] at h
          simp only [cond_false] at h
          split at h
          · rename_i d k0 u m hen
            have hd := enumOf_ok hen
            obtain ⟨x, hx, _⟩ := r.t d _ hd
            simp only [AVal.den] at hx
            obtain ⟨z, hz, _⟩ := map_some hx
            split at h
            · rename_i j hj
              have hzj := lookI_ok hj r.c hz
              subst hzj
              exact ih pl f (setI S d k0 u j) ls ρ a w R h (setI_ok r hd hz) hg
            · obtain ⟨lx, ly, hx, hy, rfl⟩ := appendO_some h
              by_cases hj : ∃ j : Nat, j < m ∧ z = j
              · obtain ⟨j, hjm, rfl⟩ := hj
                obtain ⟨rx, hrx, hsub⟩ := eachO_some hx j (List.mem_range.2 hjm)
                exact ih pl f (setI S d k0 u j) rx ρ a w R hrx (setI_ok r hd hz) (fun l hl => hg l (List.mem_append.2 (.inl (hsub l hl))))
              · cases hy
                refine (hg (.stop (noneOf u m ++ S.cs)) (List.mem_append.2 (.inr List.mem_cons_self)) ρ (Env.Le.refl ρ) (fun p hp => ?_)).elim
                rcases List.mem_append.1 hp with hp | hp
                · exact noneOf_ok hz (fun j hjm e => hj ⟨j, hjm, e⟩) p hp
                · exact r.c p hp
          split at h
          · rename_i so hso
            rw [ht]
            refine OpG.goes ho' (stepOp_ok hc hE hcall ho' (g1 hgd) hso r (fun x hx => ?_) (fun S' hS' _ ρ' a' w' hle hr' => ?_))
            · obtain ⟨rx, hrx, hsub⟩ := eachO_some h x hx
              cases x with
              | st S' => trivial
              | stop cs => cases hrx; exact hg _ (hsub _ List.mem_cons_self)
            · obtain ⟨rx, hrx, hsub⟩ := eachO_some h _ hS'
              exact ih pl f { S' with todo := .inRegion ops rest :: k } rx ρ' a' w' R hrx ⟨hr'.d, hr'.n, hr'.t, hr'.h, hr'.c⟩ (fun l hl => (hg l (hsub l hl)).mono hle)
          · cases h
        · rename_i hgd
          rw [ht]
          refine Goes.unwanted ho' (g2 hgd) ?_
          exact ih pl f _ ls ρ _ w R h ⟨by rw [put_defers]; exact r.d, by rw [put_size]; exact r.n, putT_ok r.t r.n undef_den, r.h, r.c⟩ hg
        · rename_i t d hgd
          obtain ⟨b, hb⟩ := setB_ok r (g3 t d hgd)
          split at h
          · rename_i b' hl
            have hbb := lookB_ok hl r.c
            obtain ⟨y, hy, _⟩ := r.t d _ (g3 t d hgd)
            have hb' : SRel β ρ (setB S t d b') a w := by
              have := hb.c _ List.mem_cons_self
              rw [hbb] at this; cases this; exact hb
            exact ih pl f (setB S t d b') ls ρ a w R h hb' hg
          obtain ⟨lx, ly, hx, hy, rfl⟩ := appendO_some h
          cases b with
          | true => exact ih pl f (setB S t d true) lx ρ a w R hx hb (fun l hl => hg l (List.mem_append.2 (.inl hl)))
          | false => exact ih pl f (setB S t d false) ly ρ a w R hy hb (fun l hl => hg l (List.mem_append.2 (.inr hl)))
        · exact (absurd (Option.some.inj h).symm).elim
    · exact (absurd (Option.some.inj h).symm).elim

/-- A call of a function, gone through by the machine. -/
theorem run_calls (hc : NoCount P) {E : Exts} (hE : ExtOk P E) {sp : CallF} (hsp : CallOk P β sp) (hm : P.follows .mixedOrders = true) {n : Nat} {f : FuncId} {fn : Func} {c : Code} {args : List AVal} {xs : List Value} {H : Heap} {nl : Nat} {cs : Cs} {ls : List Leaf} {ρ : Env} {w : World} {R : Value → World → Prop}
    (hf : P.funcs[f]? = some fn) (hb : fn.body = some c) (hrun : run P E sp n false f (entry fn c args H nl cs) = some ls) (hx : AVal.denL ρ args = some xs) (hr : HRel β ρ H nl w) (hcs : CRel ρ cs) (hg : ∀ l ∈ ls, Good P β ρ f R l) :
    Calls P f xs.toArray w (fun e w' => ∃ v, e = .returned v ∧ R v w') :=
  calls_of_goes hf hb (run_sound hc hE hsp hm n false f _ ls ρ _ w R hrun (entry_ok hx hr hcs) hg)

def noSp : CallF := { fn := fun _ _ _ _ _ => none }
theorem noSp_ok : CallOk P β noSp := ⟨(fun _ _ _ _ _ _ _ _ _ h => by cases h), noOp_ok⟩
theorem noExt : ExtOk P [] := fun _ _ h => by cases h

/-- Nothing is known of memory. -/
theorem HRel.start (w : World) (ρ : Env) (h : ∀ i, ρ.N i = none) : HRel (.plain w) ρ .leaf 0 w :=
  ⟨(fun l k hl => by simp [Tr.get] at hl), (fun l l' k k' hl => by simp [Tr.get] at hl), (fun l k b hl => by simp [Tr.get] at hl), fun i _ => h i, (fun l hl => by cases hl), Nat.le_refl _, fun _ _ _ => rfl, rfl, rfl, rfl, trivial, BigAt.none fun l k hl => by simp [Tr.get] at hl⟩
theorem HRel.startG (w : World) (ρ : Env) {G : (Nat → Int) → (Nat → Bool) → (Nat → ByteArray) → (Nat → Value) → (Nat → Int → Int → Int) → Prop} (h : ∀ i, ρ.N i = none) (hG : G ρ.I ρ.B ρ.S ρ.V ρ.F) : HRel ⟨w, [], G⟩ ρ .leaf 0 w :=
  ⟨(fun l k hl => by simp [Tr.get] at hl), (fun l l' k k' hl => by simp [Tr.get] at hl), (fun l k b hl => by simp [Tr.get] at hl), fun i _ => h i, (fun l hl => by cases hl), Nat.le_refl _, fun _ _ _ => rfl, rfl, rfl, rfl, hG, BigAt.none fun l k hl => by simp [Tr.get] at hl⟩

end
end Go.Vm
end

/-
  A machine for abstract states over the model (part 17): what is known of functions; what follows from conditions.
-/
section
namespace Go.Vm

-- MEMORY OF OTHERS
structure Framed (w w' : World) : Prop where
  size : w.heap.size ≤ w'.heap.size
  frame : ∀ b, b < w.heap.size → w'.heap[b]? = w.heap[b]?
  tape : w'.tape = w.tape
  os : w'.os = w.os
  out : w'.output = w.output
theorem Framed.refl (w : World) : Framed w w := ⟨Nat.le_refl _, fun _ _ => rfl, rfl, rfl, rfl⟩
theorem Framed.of {ρ : Env} {w w' : World} {H : Heap} {nl : Nat} {G : (Nat → Int) → (Nat → Bool) → (Nat → ByteArray) → (Nat → Value) → (Nat → Int → Int → Int) → Prop} (h : HRel ⟨w, [], G⟩ ρ H nl w') : Framed w w' :=
  ⟨h.size, fun b hb => h.frame b hb (fun l hl => by cases hl), h.tape, h.os, h.out⟩
theorem HRel.framed {β : Base} {ρ : Env} {H : Heap} {nl : Nat} {w w' : World} (h : HRel β ρ H nl w) (f : Framed w w') : HRel β ρ H nl w' := by
  refine ⟨fun l k hl => ?_, h.inj, h.own, h.fresh, h.ownN, Nat.le_trans h.size f.size, fun b hb hn => ?_, f.tape.trans h.tape, f.os.trans h.os, f.out.trans h.out, h.g, h.big.imp fun _ hB => hB.agree fun y hy => f.frame y hy⟩
  · obtain ⟨b, o, h1, h2, h3⟩ := h.blk l k hl
    have hlt : b < w.heap.size := (Array.getElem?_eq_some_iff.1 h2).1
    exact ⟨b, o, h1, by rw [f.frame b hlt]; exact h2, h3⟩
  · rw [f.frame b (Nat.lt_of_lt_of_le hb h.size)]; exact h.frame b hb hn

-- WHAT IS KNOWN OF FUNCTIONS
abbrev SpecF := List AVal → Option (List (AVal × Cs))
def SpecOk (P : Program) (f : FuncId) (F : SpecF) : Prop := ∀ args alts ρ w xs, F args = some alts → AVal.denL ρ args = some xs →
  Calls P f xs.toArray w (fun e w' => ∃ v, e = .returned v ∧ Framed w w' ∧ ∃ u ∈ alts, u.1.den ρ = some v ∧ CRel ρ u.2)
abbrev Specs := List (FuncId × SpecF)
def spOf (L : Specs) : CallF := { fn := fun g args H nl cs => match L.find? (fun p => Nat.beq p.1 g) with
  | some p => (p.2 args).map fun alts => alts.map fun u => Leaf.ret u.1 H nl (u.2 ++ cs)
  | none => none }
theorem spOf_ok {P : Program} {β : Base} {L : Specs} (h : ∀ p ∈ L, SpecOk P p.1 p.2) : CallOk P β (spOf L) := by
  refine ⟨?_, noOp_ok⟩
  intro g args H nl cs ls ρ w xs hr hx hh hc _
  simp only [spOf] at hr
  split at hr
  · rename_i p hp
    have hg0 : (fun p : FuncId × SpecF => Nat.beq p.1 g) p = true := List.find?_some (p := fun p : FuncId × SpecF => Nat.beq p.1 g) hp
    have hg : p.1 = g := Nat.eq_of_beq_eq_true hg0
    obtain ⟨alts, ha, rfl⟩ := Option.map_eq_some_iff.1 hr
    have hs := h p (List.mem_of_find?_eq_some hp) args alts ρ w xs ha hx
    rw [hg] at hs
    refine hs.mono fun e w' ⟨v, hv, hf, u, hu, hd, hcu⟩ => ⟨v, hv, u.1, H, nl, u.2 ++ cs, ρ, List.mem_map.2 ⟨u, hu, rfl⟩, Env.Le.refl ρ, hd, hh.framed hf, fun q hq => ?_⟩
    rcases List.mem_append.1 hq with hq | hq
    · exact hcu q hq
    · exact hc q hq
  · cases hr

-- WHAT FOLLOWS
abbrev Bnd := Option Int × Option Int
def loB (a : Option Int) (n : Int) : Option Int := match a with
  | none => some n
  | some m => some (cond (iLt m n) n m)
def hiB (a : Option Int) (n : Int) : Option Int := match a with
  | none => some n
  | some m => some (cond (iLt n m) n m)
def isI (a : Option Int) (n : Int) : Bool := match a with
  | none => false
  | some m => iEq m n
def bndF (op : BinOp) (c : Int) (b : Bool) (r : Bnd) : Bnd :=
  match op, b with
  | .lss, true | .geq, false => (r.1, hiB r.2 (c - 1))
  | .lss, false | .geq, true => (loB r.1 c, r.2)
  | .leq, true | .gtr, false => (r.1, hiB r.2 c)
  | .leq, false | .gtr, true => (loB r.1 (c + 1), r.2)
  | .eql, true | .neq, false => (loB r.1 c, hiB r.2 c)
  | .eql, false | .neq, true => (cond (isI r.1 c) (some (c + 1)) r.1, cond (isI r.2 c) (some (c - 1)) r.2)
  | _, _ => r
def bnd (t : IT) : Cs → Bnd
  | [] => (none, none)
  | (.cmp op u (.lit c), b) :: r => cond (IT.beq u t) (bndF op c b (bnd t r)) (bnd t r)
  | _ :: r => bnd t r
def InB (r : Bnd) (z : Int) : Prop := (∀ l, r.1 = some l → l ≤ z) ∧ ∀ h, r.2 = some h → z ≤ h
theorem loB_ok {a : Option Int} {n z : Int} (ha : ∀ l, a = some l → l ≤ z) (h : n ≤ z) : ∀ l, loB a n = some l → l ≤ z := by
  intro l hl
  cases a with
  | none => cases hl; exact h
  | some m =>
    simp only [loB, Option.some.injEq] at hl
    subst hl
    cases iLt m n with
    | true => exact h
    | false => exact ha m rfl
theorem hiB_ok {a : Option Int} {n z : Int} (ha : ∀ l, a = some l → z ≤ l) (h : z ≤ n) : ∀ l, hiB a n = some l → z ≤ l := by
  intro l hl
  cases a with
  | none => cases hl; exact h
  | some m =>
    simp only [hiB, Option.some.injEq] at hl
    subst hl
    cases iLt n m with
    | true => exact h
    | false => exact ha m rfl
theorem isI_ok {a : Option Int} {n : Int} (h : isI a n = true) : a = some n := by
  cases a with
  | none => cases h
  | some m => simp only [isI, iEq_eq, decide_eq_true_eq] at h; rw [h]
theorem bndF_ok {op : BinOp} {c z : Int} {b : Bool} {r : Bnd} (h : intCmp op z c = some b) (hr : InB r z) : InB (bndF op c b r) z := by
  obtain ⟨h1, h2⟩ := hr
  have ne : z ≠ c → InB (cond (isI r.1 c) (some (c + 1)) r.1, cond (isI r.2 c) (some (c - 1)) r.2) z := by
    intro hne
    refine ⟨fun l hl => ?_, fun l hl => ?_⟩
    · cases hi : isI r.1 c with
      | true => rw [hi] at hl; cases hl; have := h1 c (isI_ok hi); omega
      | false => rw [hi] at hl; exact h1 l hl
    · cases hi : isI r.2 c with
      | true => rw [hi] at hl; cases hl; have := h2 c (isI_ok hi); omega
      | false => rw [hi] at hl; exact h2 l hl
  cases op <;> cases b <;> first | (cases h; done) | skip
  all_goals (simp only [intCmp, Option.some.injEq, decide_eq_true_eq, decide_eq_false_iff_not, beq_iff_eq, beq_eq_false_iff_ne, bne_iff_ne, bne_eq_false_iff_eq, ne_eq] at h)
  all_goals (simp only [bndF])
  all_goals first
    | exact ne h
    | exact ⟨loB_ok h1 (by omega), hiB_ok h2 (by omega)⟩
    | exact ⟨h1, hiB_ok h2 (by omega)⟩
    | exact ⟨loB_ok h1 (by omega), h2⟩
theorem bnd_ok {ρ : Env} {t : IT} {z : Int} (hz : t.den ρ = some z) : ∀ {cs : Cs}, CRel ρ cs → InB (bnd t cs) z
  | [], _ => ⟨(fun l h => by cases h), (fun l h => by cases h)⟩
  | p :: r, hc => by
    have hr := bnd_ok hz (cs := r) fun p hp => hc p (List.mem_cons_of_mem _ hp)
    unfold bnd
    split
    · rename_i heq; cases heq
    · rename_i op u c b r' heq
      cases heq
      cases hb : IT.beq u t with
      | true =>
        have h1 := hc _ List.mem_cons_self
        rw [IT.beq_eq hb] at h1
        simp only [BT.den, hz, IT.den] at h1
        exact bndF_ok h1 hr
      | false => exact hr
    · rename_i heq
      cases heq
      exact hr

def cmpB (op : BinOp) (r : Bnd) (c : Int) : Option Bool :=
  match op with
  | .lss => match r with
    | (_, some h) => cond (iLt h c) (some true) (match r.1 with
      | some l => cond (iLt l c) none (some false)
      | none => none)
    | (some l, none) => cond (iLt l c) none (some false)
    | _ => none
  | .eql => match r with
    | (some l, some h) => cond (iEq l c && iEq h c) (some true) (cond (iLt c l || iLt h c) (some false) none)
    | (some l, none) => cond (iLt c l) (some false) none
    | (none, some h) => cond (iLt h c) (some false) none
    | _ => none
  | _ => none
theorem cmpB_ok {op : BinOp} {r : Bnd} {c z : Int} {b : Bool} (h : cmpB op r c = some b) (hr : InB r z) : intCmp op z c = some b := by
  obtain ⟨h1, h2⟩ := hr
  obtain ⟨lo, hi⟩ := r
  simp only at h1 h2
  cases op <;> first | (cases h; done) | skip
  · cases lo with
    | none => cases hi with
      | none => cases h
      | some hv =>
        have := h2 hv rfl
        simp only [cmpB, iLt_eq] at h
        by_cases hh : hv < c
        · simp [hh] at h; subst h; simp only [intCmp, Option.some.injEq, beq_eq_false_iff_ne]; omega
        · simp [hh] at h
    | some lv => cases hi with
      | none =>
        have := h1 lv rfl
        simp only [cmpB, iLt_eq] at h
        by_cases hh : c < lv
        · simp [hh] at h; subst h; simp only [intCmp, Option.some.injEq, beq_eq_false_iff_ne]; omega
        · simp [hh] at h
      | some hv =>
        have a1 := h1 lv rfl
        have a2 := h2 hv rfl
        simp only [cmpB, iLt_eq, iEq_eq] at h
        by_cases hh : lv = c ∧ hv = c
        · simp [hh.1, hh.2] at h; subst h; simp only [intCmp, Option.some.injEq, beq_iff_eq]; omega
        · have hf : (decide (lv = c) && decide (hv = c)) = false := by
            cases hq : (decide (lv = c) && decide (hv = c)) with
            | false => rfl
            | true => simp at hq; exact (hh hq).elim
          rw [hf] at h
          simp only [cond_false] at h
          by_cases h3 : c < lv ∨ hv < c
          · have hf : (decide (c < lv) || decide (hv < c)) = true := by simpa using h3
            rw [hf] at h; cases h
            simp only [intCmp, Option.some.injEq, beq_eq_false_iff_ne]; omega
          · have hf : (decide (c < lv) || decide (hv < c)) = false := by simpa using h3
            rw [hf] at h; cases h
  · cases hi with
    | none => cases lo with
      | none => cases h
      | some lv =>
        have := h1 lv rfl
        simp only [cmpB, iLt_eq] at h
        by_cases hh : lv < c
        · simp [hh] at h
        · simp [hh] at h; subst h; simp only [intCmp, Option.some.injEq, decide_eq_false_iff_not]; omega
    | some hv =>
      have a2 := h2 hv rfl
      simp only [cmpB, iLt_eq] at h
      by_cases hh : hv < c
      · simp [hh] at h; subst h; simp only [intCmp, Option.some.injEq, decide_eq_true_eq]; omega
      · simp only [hh, decide_false, cond_false] at h
        cases lo with
        | none => cases h
        | some lv =>
          have := h1 lv rfl
          simp only at h
          by_cases hh : lv < c
          · simp [hh] at h
          · simp [hh] at h; subst h; simp only [intCmp, Option.some.injEq, decide_eq_false_iff_not]; omega

/-- What a condition is under others; only some comparisons are looked into. -/
def evalB (cs : Cs) : BT → Option Bool
  | .lit b => some b
  | .not b => match lookB cs (.not b) with
    | some c => some c
    | none => (evalB cs b).map (!·)
  | .and a b => match lookB cs (.and a b) with
    | some c => some c
    | none => match evalB cs a, evalB cs b with
      | some true, some c => some c
      | some false, some _ => some false
      | _, _ => none
  | .cmp op u (.lit c) => match lookB cs (.cmp op u (.lit c)) with
    | some c => some c
    | none => match op with
      | .lss | .eql => cmpB op (bnd u cs) c
      | .geq => (cmpB .lss (bnd u cs) c).map (!·)
      | .leq => cmpB .lss (bnd u cs) (c + 1)
      | .gtr => (cmpB .lss (bnd u cs) (c + 1)).map (!·)
      | .neq => (cmpB .eql (bnd u cs) c).map (!·)
      | _ => none
  | t => lookB cs t
theorem evalB_ok {ρ : Env} {cs : Cs} (hc : CRel ρ cs) : ∀ {t : BT} {b y : Bool}, evalB cs t = some b → t.den ρ = some y → y = b := by
  intro t
  have look : ∀ {t : BT} {b y : Bool}, lookB cs t = some b → t.den ρ = some y → y = b := fun h hy => by
    have := lookB_ok h hc; rw [hy] at this; exact Option.some.inj this
  induction t with
  | lit x => intro b y h hy; cases h; cases hy; rfl
  | var i => intro b y h hy; exact look h hy
  | seq s t => intro b y h hy; exact look h hy
  | not t ih =>
    intro b y h hy
    simp only [evalB] at h
    split at h
    · rename_i c hl; cases h; exact look hl hy
    · obtain ⟨x, hx, rfl⟩ := Option.map_eq_some_iff.1 h
      simp only [BT.den] at hy
      obtain ⟨z, hz, rfl⟩ := Option.map_eq_some_iff.1 hy
      rw [ih hx hz]
  | and s t ihs iht =>
    intro b y h hy
    simp only [evalB] at h
    split at h
    · rename_i c hl; cases h; exact look hl hy
    · simp only [BT.den] at hy
      split at hy
      · rename_i xs xt hs ht
        cases hy
        split at h
        · rename_i c h1 h2; cases h; rw [ihs h1 hs, iht h2 ht]; rfl
        · rename_i h1 h2; cases h; rw [ihs h1 hs]; rfl
        · cases h
      · cases hy
  | cmp op u v =>
    intro b y h hy
    have key : ∀ (c : Int) (op' : BinOp) (b' : Bool) (z : Int), u.den ρ = some z → cmpB op' (bnd u cs) c = some b' → intCmp op' z c = some b' := fun c op' b' z hz hb => cmpB_ok hb (bnd_ok hz hc)
    unfold evalB at h
    split at h
    · rename_i heq; cases heq
    · rename_i heq; cases heq
    · rename_i heq; cases heq
    · rename_i op0 u0 c heq
      cases heq
      split at h
      · rename_i c hl; cases h; exact look hl hy
      · cases hz : u.den ρ with
        | none => simp [BT.den, hz] at hy
        | some z =>
          simp only [BT.den, hz, IT.den] at hy
          split at h
          · have := key _ _ _ _ hz h
            rw [hy] at this; exact Option.some.inj this
          · have := key _ _ _ _ hz h
            rw [hy] at this; exact Option.some.inj this
          · obtain ⟨x, hx, rfl⟩ := Option.map_eq_some_iff.1 h
            have := key _ _ _ _ hz hx
            simp only [intCmp, Option.some.injEq] at this hy
            rw [← this, ← hy]; by_cases hh : z < c <;> simp [hh] <;> omega
          · have := key _ _ _ _ hz h
            simp only [intCmp, Option.some.injEq] at this hy
            rw [← this, ← hy]; by_cases hh : z < c + 1 <;> simp [hh] <;> omega
          · obtain ⟨x, hx, rfl⟩ := Option.map_eq_some_iff.1 h
            have := key _ _ _ _ hz hx
            simp only [intCmp, Option.some.injEq] at this hy
            rw [← this, ← hy]; by_cases hh : z < c + 1 <;> simp [hh] <;> omega
          · obtain ⟨x, hx, rfl⟩ := Option.map_eq_some_iff.1 h
            have := key _ _ _ _ hz hx
            simp only [intCmp, Option.some.injEq] at this hy
            rw [← this, ← hy]; rfl
          · cases h
    · exact look h hy

/-- Conditions that cannot all be. -/
def noneB (r : Bnd) : Bool := match r with
  | (some l, some h) => iLt h l
  | _ => false
def badIn (all : Cs) : Cs → Bool
  | [] => false
  | (p, b) :: r => (match evalB r p with
    | some c => !(c == b)
    | none => false) || (match p with
    | .cmp _ u (.lit _) => noneB (bnd u all)
    | _ => false) || badIn all r
def bad (cs : Cs) : Bool := badIn cs cs
theorem badIn_ok {ρ : Env} {all : Cs} (ha : CRel ρ all) : ∀ {cs : Cs}, badIn all cs = true → CRel ρ cs → False
  | [], h, _ => by cases h
  | (p, b) :: r, h, hc => by
    have hr : CRel ρ r := fun p hp => hc p (List.mem_cons_of_mem _ hp)
    have hp := hc _ List.mem_cons_self
    simp only [badIn, Bool.or_eq_true] at h
    rcases h with (h | h) | h
    · split at h
      · rename_i c he
        have := evalB_ok hr he hp
        subst this; simp at h
      · cases h
    · split at h
      · rename_i op u c
        simp only [BT.den] at hp
        split at hp
        · rename_i z _ hz _
          have hb := bnd_ok hz ha
          unfold noneB at h
          split at h
          · rename_i l hh heq
            rw [iLt_eq, decide_eq_true_eq] at h
            have h1 := hb.1 l (by rw [heq])
            have h2 := hb.2 hh (by rw [heq])
            omega
          · cases h
        · cases hp
      · cases h
    · exact badIn_ok ha h hr
theorem bad_dead {ρ : Env} {cs : Cs} (h : bad cs = true) : Dead ρ cs := fun _ _ hc => badIn_ok hc h hc

end Go.Vm
end

/-
  A machine for abstract states over the model (part 18): conditions that cannot all be; laws and what is known of functions, by a run.
-/
section
namespace Go.Vm

/-- The first is at most so much more than the second. -/
structure DC where
  x : IT
  y : IT
  c : Int
def DC.ok (ρ : Env) (d : DC) : Prop := ∃ a b, d.x.den ρ = some a ∧ d.y.den ρ = some b ∧ a - b ≤ d.c
def mkDC (u v : IT) (c : Int) : DC :=
  match u, v with
  | .lit n, .lit m => ⟨.lit 0, .lit 0, c - n + m⟩
  | .lit n, v => ⟨.lit 0, v, c - n⟩
  | u, .lit m => ⟨u, .lit 0, c + m⟩
  | u, v => ⟨u, v, c⟩
theorem mkDC_ok {ρ : Env} {u v : IT} {a b c : Int} (hu : u.den ρ = some a) (hv : v.den ρ = some b) (h : a - b ≤ c) : (mkDC u v c).ok ρ := by
  unfold mkDC
  split
  · cases hu; cases hv; exact ⟨0, 0, rfl, rfl, by simp only; omega⟩
  · cases hu; exact ⟨0, b, rfl, hv, by simp only; omega⟩
  · cases hv; exact ⟨a, 0, hu, rfl, by simp only; omega⟩
  · exact ⟨a, b, hu, hv, h⟩
def insD (d : DC) : List DC → List DC
  | [] => [d]
  | e :: r => cond (IT.beq e.x d.x && IT.beq e.y d.y) (cond (iLt d.c e.c) (d :: r) (e :: r)) (e :: insD d r)
theorem insD_ok {ρ : Env} {d : DC} (hd : d.ok ρ) : ∀ {L : List DC}, (∀ e ∈ L, e.ok ρ) → ∀ e ∈ insD d L, e.ok ρ
  | [], _, e, he => by
    rcases List.mem_cons.1 he with rfl | h
    · exact hd
    · cases h
  | f :: r, h, e, he => by
    simp only [insD] at he
    have hr : ∀ e ∈ r, e.ok ρ := fun e he => h e (List.mem_cons_of_mem _ he)
    cases hb : (IT.beq f.x d.x && IT.beq f.y d.y) with
    | true =>
      rw [hb] at he; simp only [cond_true] at he
      cases hc : iLt d.c f.c with
      | true =>
        rw [hc] at he
        rcases List.mem_cons.1 he with rfl | h1
        · exact hd
        · exact hr e h1
      | false => rw [hc] at he; exact h e he
    | false =>
      rw [hb] at he; simp only [cond_false] at he
      rcases List.mem_cons.1 he with rfl | h1
      · exact h e List.mem_cons_self
      · exact insD_ok hd hr e h1
/-- Those that end where one begins, put before it; and so behind it. -/
def pre (d : DC) : List DC → List DC
  | [] => [d]
  | e :: r => cond (IT.beq e.y d.x) (⟨e.x, d.y, e.c + d.c⟩ :: pre d r) (pre d r)
def post (d : DC) : List DC → List DC
  | [] => [d]
  | e :: r => cond (IT.beq d.y e.x) (⟨d.x, e.y, d.c + e.c⟩ :: post d r) (post d r)
theorem pre_ok {ρ : Env} {d : DC} (hd : d.ok ρ) : ∀ {L : List DC}, (∀ e ∈ L, e.ok ρ) → ∀ e ∈ pre d L, e.ok ρ
  | [], _, e, he => by
    rcases List.mem_cons.1 he with rfl | h
    · exact hd
    · cases h
  | f :: r, h, e, he => by
    have hr : ∀ e ∈ r, e.ok ρ := fun e he => h e (List.mem_cons_of_mem _ he)
    simp only [pre] at he
    cases hb : IT.beq f.y d.x with
    | true =>
      rw [hb] at he
      rcases List.mem_cons.1 he with rfl | h1
      · obtain ⟨a, b, h1, h2, h3⟩ := h f List.mem_cons_self
        obtain ⟨a', b', h1', h2', h3'⟩ := hd
        rw [IT.beq_eq hb, h1'] at h2; cases h2
        exact ⟨a, b', h1, h2', by simp only; omega⟩
      · exact pre_ok hd hr e h1
    | false => rw [hb] at he; exact pre_ok hd hr e he
theorem post_ok {ρ : Env} {d : DC} (hd : d.ok ρ) : ∀ {L : List DC}, (∀ e ∈ L, e.ok ρ) → ∀ e ∈ post d L, e.ok ρ
  | [], _, e, he => by
    rcases List.mem_cons.1 he with rfl | h
    · exact hd
    · cases h
  | f :: r, h, e, he => by
    have hr : ∀ e ∈ r, e.ok ρ := fun e he => h e (List.mem_cons_of_mem _ he)
    simp only [post] at he
    cases hb : IT.beq d.y f.x with
    | true =>
      rw [hb] at he
      rcases List.mem_cons.1 he with rfl | h1
      · obtain ⟨a, b, h1, h2, h3⟩ := h f List.mem_cons_self
        obtain ⟨a', b', h1', h2', h3'⟩ := hd
        rw [← IT.beq_eq hb, h2'] at h1; cases h1
        exact ⟨a', b, h1', h2, by simp only; omega⟩
      · exact post_ok hd hr e h1
    | false => rw [hb] at he; exact post_ok hd hr e he
def insAll (l L : List DC) : List DC := l.foldl (fun L d => insD d L) L
theorem insAll_ok {ρ : Env} : ∀ {l L : List DC}, (∀ e ∈ l, e.ok ρ) → (∀ e ∈ L, e.ok ρ) → ∀ e ∈ insAll l L, e.ok ρ
  | [], _, _, h => h
  | d :: l, _, hl, h => insAll_ok (l := l) (fun e he => hl e (List.mem_cons_of_mem _ he)) (insD_ok (hl d List.mem_cons_self) h)
def addD (d : DC) (L : List DC) : List DC := insAll ((pre d L).flatMap fun e => post e L) L
theorem addD_ok {ρ : Env} {d : DC} (hd : d.ok ρ) {L : List DC} (h : ∀ e ∈ L, e.ok ρ) : ∀ e ∈ addD d L, e.ok ρ :=
  insAll_ok (fun e he => by
    obtain ⟨f, hf, he⟩ := List.mem_flatMap.1 he
    exact post_ok (pre_ok hd h f hf) h e he) h
def contra (L : List DC) : Bool := L.any fun d => IT.beq d.x d.y && iLt d.c 0
theorem contra_ok {ρ : Env} {L : List DC} (h : ∀ e ∈ L, e.ok ρ) : contra L = false := by
  cases hc : contra L with
  | false => rfl
  | true =>
    obtain ⟨d, hd, hb⟩ := List.any_eq_true.1 hc
    simp only [Bool.and_eq_true, iLt_eq, decide_eq_true_eq] at hb
    obtain ⟨a, b, h1, h2, h3⟩ := h d hd
    rw [IT.beq_eq hb.1, h2] at h1; cases h1
    omega

/-- What a comparison is good for: one of these. -/
def altsD (op : BinOp) (b : Bool) (u v : IT) : Option (List (List DC)) :=
  match op, b with
  | .lss, true | .geq, false => some [[mkDC u v (-1)]]
  | .lss, false | .geq, true => some [[mkDC v u 0]]
  | .leq, true | .gtr, false => some [[mkDC u v 0]]
  | .leq, false | .gtr, true => some [[mkDC v u (-1)]]
  | .eql, true | .neq, false => some [[mkDC u v 0, mkDC v u 0]]
  | .eql, false | .neq, true => some [[mkDC u v (-1)], [mkDC v u (-1)]]
  | _, _ => none
theorem altsD_ok {ρ : Env} {op : BinOp} {b : Bool} {u v : IT} {l : List (List DC)} (h : altsD op b u v = some l) (hd : (BT.cmp op u v).den ρ = some b) : ∃ ds ∈ l, ∀ d ∈ ds, d.ok ρ := by
  simp only [BT.den] at hd
  split at hd
  · rename_i x y hx hy
    have one : ∀ {d : DC}, d.ok ρ → ∀ e ∈ [d], e.ok ρ := fun hd e he => by
      rcases List.mem_cons.1 he with rfl | h
      · exact hd
      · cases h
    cases op <;> cases b <;> first | (cases h; done) | skip
    all_goals (simp only [intCmp, Option.some.injEq, decide_eq_true_eq, decide_eq_false_iff_not, beq_iff_eq, beq_eq_false_iff_ne, bne_iff_ne, bne_eq_false_iff_eq, ne_eq] at hd)
    all_goals (simp only [altsD, Option.some.injEq] at h; subst h)
    all_goals first
      | exact ⟨_, List.mem_cons_self, one (mkDC_ok hx hy (by omega))⟩
      | exact ⟨_, List.mem_cons_self, one (mkDC_ok hy hx (by omega))⟩
      | exact ⟨_, List.mem_cons_self, fun e he => by
          rcases List.mem_cons.1 he with rfl | he
          · exact mkDC_ok hx hy (by omega)
          · exact one (mkDC_ok hy hx (by omega)) e he⟩
      | (rcases (show x < y ∨ y < x by omega) with h1 | h1
         · exact ⟨_, List.mem_cons_self, one (mkDC_ok hx hy (by omega))⟩
         · exact ⟨_, List.mem_cons_of_mem _ List.mem_cons_self, one (mkDC_ok hy hx (by omega))⟩)
  · cases hd

def addAll (ds L : List DC) : List DC := ds.foldl (fun L d => addD d L) L
theorem addAll_ok {ρ : Env} : ∀ {ds L : List DC}, (∀ e ∈ ds, e.ok ρ) → (∀ e ∈ L, e.ok ρ) → ∀ e ∈ addAll ds L, e.ok ρ
  | [], _, _, h => h
  | d :: l, _, hl, h => addAll_ok (ds := l) (fun e he => hl e (List.mem_cons_of_mem _ he)) (addD_ok (hl d List.mem_cons_self) h)

/-- Can't all of these be? -/
def refute : Nat → Cs → Cs → List DC → Bool
  | 0, _, _, _ => false
  | n + 1, todo, late, L => match todo with
    | (.lit x, b) :: r => cond (x == b) (refute n r late L) true
    | (.not t, b) :: r => refute n ((t, !b) :: r) late L
    | (.and s t, true) :: r => refute n ((s, true) :: (t, true) :: r) late L
    | (.and s t, false) :: r => refute n r (late ++ [(.and s t, false)]) L
    | (.cmp op u v, b) :: r => match altsD op b u v with
      | some [ds] => let L' := addAll ds L; contra L' || refute n r late L'
      | some _ => refute n r (late ++ [(.cmp op u v, b)]) L
      | none => refute n r late L
    | _ :: r => refute n r late L
    | [] => match late with
      | (.and s t, false) :: r => refute n [(s, false)] r L && refute n [(t, false)] r L
      | (.cmp op u v, b) :: r => match altsD op b u v with
        | some l => l.all fun ds => let L' := addAll ds L; contra L' || refute n [] r L'
        | none => refute n [] r L
      | _ :: r => refute n [] r L
      | [] => false
theorem CRel.snoc {ρ : Env} {t : BT} {b : Bool} {cs : Cs} (c : CRel ρ cs) (h : t.den ρ = some b) : CRel ρ (cs ++ [(t, b)]) := fun p hp => by
  rcases List.mem_append.1 hp with hp | hp
  · exact c p hp
  · rcases List.mem_cons.1 hp with rfl | hp
    · exact h
    · cases hp
theorem refute_ok {ρ : Env} : ∀ (n : Nat) (todo late : Cs) (L : List DC), refute n todo late L = true → CRel ρ todo → CRel ρ late → (∀ e ∈ L, e.ok ρ) → False := by
  intro n
  induction n with
  | zero => intro todo late L h; simp [refute] at h
  | succ n ih =>
    intro todo late L h ht hl hL
    have one : ∀ {t : BT} {b : Bool}, t.den ρ = some b → CRel ρ [(t, b)] := fun h p hp => by
      rcases List.mem_cons.1 hp with rfl | hp
      · exact h
      · cases hp
    unfold refute at h
    split at h
    · rename_i x b r
      have h0 : (BT.lit x).den ρ = some b := ht _ List.mem_cons_self
      have hr : CRel ρ r := fun p hp => ht p (List.mem_cons_of_mem _ hp)
      obtain rfl : x = b := Option.some.inj h0
      simp only [beq_self_eq_true, cond_true] at h
      exact ih r late L h hr hl hL
    · rename_i t b r
      have h0 := ht _ List.mem_cons_self
      have hr : CRel ρ r := fun p hp => ht p (List.mem_cons_of_mem _ hp)
      simp only [BT.den] at h0
      obtain ⟨x, hx, rfl⟩ := Option.map_eq_some_iff.1 h0
      exact ih _ late L h (hr.cons (by simpa using hx)) hl hL
    · rename_i s t r
      have h0 := ht _ List.mem_cons_self
      have hr : CRel ρ r := fun p hp => ht p (List.mem_cons_of_mem _ hp)
      simp only [BT.den] at h0
      split at h0
      · rename_i x y hx hy
        simp only [Option.some.injEq, Bool.and_eq_true] at h0
        obtain ⟨rfl, rfl⟩ := h0
        exact ih _ late L h ((hr.cons hy).cons hx) hl hL
      · cases h0
    · rename_i s t r
      have h0 := ht _ List.mem_cons_self
      have hr : CRel ρ r := fun p hp => ht p (List.mem_cons_of_mem _ hp)
      exact ih _ _ L h hr (hl.snoc h0) hL
    · rename_i op u v b r
      have h0 := ht _ List.mem_cons_self
      have hr : CRel ρ r := fun p hp => ht p (List.mem_cons_of_mem _ hp)
      split at h
      · rename_i ds ha
        obtain ⟨ds', hm, hok⟩ := altsD_ok ha h0
        obtain rfl := List.mem_singleton.1 hm
        have hL' := addAll_ok hok hL
        simp only [contra_ok hL', Bool.false_or] at h
        exact ih _ _ _ h hr hl hL'
      · exact ih _ _ L h hr (hl.snoc h0) hL
      · exact ih _ _ L h hr hl hL
    · rename_i p r _ _ _ _ _
      exact ih _ _ L h (fun p hp => ht p (List.mem_cons_of_mem _ hp)) hl hL
    · split at h
      · rename_i s t r
        have h0 := hl _ List.mem_cons_self
        have hr : CRel ρ r := fun p hp => hl p (List.mem_cons_of_mem _ hp)
        simp only [Bool.and_eq_true] at h
        simp only [BT.den] at h0
        split at h0
        · rename_i x y hx hy
          simp only [Option.some.injEq] at h0
          cases x with
          | false => exact ih _ _ L h.1 (one hx) hr hL
          | true =>
            simp only [Bool.true_and] at h0
            subst h0
            exact ih _ _ L h.2 (one hy) hr hL
        · cases h0
      · rename_i op u v b r
        have h0 := hl _ List.mem_cons_self
        have hr : CRel ρ r := fun p hp => hl p (List.mem_cons_of_mem _ hp)
        split at h
        · rename_i l ha
          obtain ⟨ds, hm, hok⟩ := altsD_ok ha h0
          have hL' := addAll_ok hok hL
          have h1 := List.all_eq_true.1 h ds hm
          simp only [contra_ok hL', Bool.false_or] at h1
          exact ih _ _ _ h1 ht hr hL'
        · exact ih _ _ L h ht hr hL
      · rename_i p r _ _
        exact ih _ _ L h ht (fun p hp => hl p (List.mem_cons_of_mem _ hp)) hL
      · cases h
def dead (cs : Cs) : Bool := refute 2000 cs [] []
theorem dead_ok {ρ : Env} {cs : Cs} (h : dead cs = true) : Dead ρ cs := fun _ _ hc => refute_ok 2000 cs [] [] h hc (fun _ hp => by cases hp) (fun _ he => by cases he)

-- BY A RUN
/-- Every end answers a truth value that is this condition. -/
def leafB (T : BT) : Leaf → Bool
  | .ret (.bool (.lit b)) _ _ cs => dead ((T, !b) :: cs)
  | .ret (.bool t) _ _ cs => dead ((T, true) :: (t, false) :: cs) && dead ((T, false) :: (t, true) :: cs)
  | .ret _ _ _ cs => dead cs
  | .pause S => dead S.cs
  | .stop cs => dead cs
theorem calls_bool {P : Program} (hc : NoCount P) {E : Exts} (hE : ExtOk P E) {L : Specs} (hL : ∀ p ∈ L, SpecOk P p.1 p.2) (hm : P.follows .mixedOrders = true) {n : Nat} {f : FuncId} {fn : Func} {c : Code} {args : List AVal} {xs : List Value} {cs : Cs} {ρ : Env} {w : World} {T : BT} {b : Bool}
    (hf : P.funcs[f]? = some fn) (hb : fn.body = some c) (hrun : (run P E (spOf L) n false f (entry fn c args .leaf 0 cs)).map (·.all (leafB T)) = some true) (hx : AVal.denL ρ args = some xs) (hN : ∀ i, ρ.N i = none) (hcs : CRel ρ cs) (hT : T.den ρ = some b) :
    Calls P f xs.toArray w (fun e w' => e = .returned (.bool b) ∧ Framed w w') := by
  obtain ⟨ls, hls, hall⟩ := Option.map_eq_some_iff.1 hrun
  refine (run_calls (β := .plain w) hc hE (spOf_ok hL) hm hf hb hls hx (HRel.start w ρ hN) hcs (R := fun v w' => v = .bool b ∧ Framed w w') (fun l hl => ?_)).mono fun e w' ⟨v, he, hv, hfr⟩ => ⟨by rw [he, hv], hfr⟩
  have h1 := List.all_eq_true.1 hall l hl
  cases l with
  | stop cs' => exact dead_ok h1
  | pause S => exact fun ρ' a' w' hle hr => (dead_ok (ρ := ρ) h1 ρ' hle hr.c).elim
  | ret v H nl cs' =>
    intro ρ' w' x hle hxd hr hc'
    refine ⟨?_, Framed.of hr⟩
    unfold leafB at h1
    split at h1
    · rename_i b' _ _ cs'' heq
      cases heq
      have := den_litb hxd
      subst this
      cases hbb : (b' == b) with
      | true => simp at hbb; rw [hbb]
      | false =>
        have hb' : b = !b' := by cases b <;> cases b' <;> simp_all
        exact (dead_ok (ρ := ρ') h1 ρ' (Env.Le.refl ρ') (hc'.cons (by rw [BT.den_mono hle hT, hb']))).elim
    · rename_i t _ _ cs'' _ heq
      cases heq
      obtain ⟨b', rfl, hb'⟩ := den_bool hxd
      have hT' := BT.den_mono hle hT
      simp only [Bool.and_eq_true] at h1
      cases b <;> cases b' <;> first
        | rfl
        | exact (dead_ok (ρ := ρ') h1.1 ρ' (Env.Le.refl ρ') ((hc'.cons hb').cons hT')).elim
        | exact (dead_ok (ρ := ρ') h1.2 ρ' (Env.Le.refl ρ') ((hc'.cons hb').cons hT')).elim
    · rename_i heq
      cases heq
      exact (dead_ok (ρ := ρ) h1 ρ' hle hc').elim
    · rename_i heq; cases heq
    · rename_i heq; cases heq

end Go.Vm
end

/-
  A machine for abstract states over the model (part 19): what is known of functions with any results, by a run.
-/
section
namespace Go.Vm

/-- Every end is one of these. -/
def leafA (alts : List (AVal × Cs)) : Leaf → Bool
  | .ret v _ _ cs => alts.any (fun p => AVal.beq v p.1 && p.2.all fun q => dead ((q.1, !q.2) :: cs)) || dead cs
  | .pause S => dead S.cs
  | .stop cs => dead cs
theorem calls_alts {P : Program} (hc : NoCount P) {E : Exts} (hE : ExtOk P E) {L : Specs} (hL : ∀ p ∈ L, SpecOk P p.1 p.2) (hm : P.follows .mixedOrders = true) {n : Nat} {f : FuncId} {fn : Func} {c : Code} {args : List AVal} {xs : List Value} {cs : Cs} {ρ : Env} {w : World} {alts : List (AVal × Cs)}
    (hf : P.funcs[f]? = some fn) (hb : fn.body = some c) (hrun : (run P E (spOf L) n false f (entry fn c args .leaf 0 cs)).map (·.all (leafA alts)) = some true) (hx : AVal.denL ρ args = some xs) (hN : ∀ i, ρ.N i = none) (hcs : CRel ρ cs)
    (hA : ∀ u ∈ alts, (u.1.den ρ).isSome = true ∧ ∀ q ∈ u.2, (q.1.den ρ).isSome = true) :
    Calls P f xs.toArray w (fun e w' => ∃ v, e = .returned v ∧ Framed w w' ∧ ∃ u ∈ alts, u.1.den ρ = some v ∧ CRel ρ u.2) := by
  obtain ⟨ls, hls, hall⟩ := Option.map_eq_some_iff.1 hrun
  refine (run_calls (β := .plain w) hc hE (spOf_ok hL) hm hf hb hls hx (HRel.start w ρ hN) hcs (R := fun v w' => Framed w w' ∧ ∃ u ∈ alts, u.1.den ρ = some v ∧ CRel ρ u.2) (fun l hl => ?_)).mono fun e w' ⟨v, he, hfr, hu⟩ => ⟨v, he, hfr, hu⟩
  have h1 := List.all_eq_true.1 hall l hl
  cases l with
  | stop cs' => exact dead_ok h1
  | pause S => exact fun ρ' a' w' hle hr => (dead_ok (ρ := ρ) h1 ρ' hle hr.c).elim
  | ret v H nl cs' =>
    intro ρ' w' x hle hxd hr hc'
    refine ⟨Framed.of hr, ?_⟩
    simp only [leafA, Bool.or_eq_true] at h1
    rcases h1 with h1 | h1
    · obtain ⟨p, hp, hb⟩ := List.any_eq_true.1 h1
      simp only [Bool.and_eq_true] at hb
      obtain ⟨hs, hq⟩ := hA p hp
      have := AVal.beq_eq _ _ hb.1
      subst this
      obtain ⟨y, hy⟩ := Option.isSome_iff_exists.1 hs
      have := AVal.den_mono hle _ hy
      rw [hxd] at this; cases this
      refine ⟨p, hp, hy, fun q hqm => ?_⟩
      obtain ⟨b, hbq⟩ := Option.isSome_iff_exists.1 (hq q hqm)
      cases hbb : (b == q.2) with
      | true => simp at hbb; rw [hbq, hbb]
      | false =>
        have hb' : b = !q.2 := by cases b <;> cases hq2 : q.2 <;> simp_all
        have hdq := List.all_eq_true.1 hb.2 q hqm
        exact (dead_ok (ρ := ρ') hdq ρ' (Env.Le.refl ρ') (hc'.cons (by rw [BT.den_mono hle hbq, hb']))).elim
    · exact (dead_ok (ρ := ρ) h1 ρ' hle hc').elim

/-- An answer that hangs on nothing. -/
theorem spec_of_alts {P : Program} (hc : NoCount P) {E : Exts} (hE : ExtOk P E) {L : Specs} (hL : ∀ p ∈ L, SpecOk P p.1 p.2) (hm : P.follows .mixedOrders = true) {n : Nat} {f : FuncId} {fn : Func} {c : Code} {args : List AVal} {alts : List (AVal × Cs)} {F : SpecF}
    (hf : P.funcs[f]? = some fn) (hb : fn.body = some c) (hrun : (run P E (spOf L) n false f (entry fn c args .leaf 0 [])).map (·.all (leafA alts)) = some true)
    (hF : ∀ l al, F l = some al → l = args ∧ al = alts) (hA : ∀ ρ : Env, ∀ u ∈ alts, (u.1.den ρ).isSome = true ∧ ∀ q ∈ u.2, (q.1.den ρ).isSome = true)
    (hI : ∀ (ρ ρ' : Env), ρ'.I = ρ.I → ρ'.B = ρ.B → ρ'.S = ρ.S → ρ'.V = ρ.V → AVal.denL ρ' args = AVal.denL ρ args ∧ ∀ u ∈ alts, u.1.den ρ' = u.1.den ρ ∧ ∀ q ∈ u.2, q.1.den ρ' = q.1.den ρ) : SpecOk P f F := by
  intro l al ρ w xs h hx
  obtain ⟨rfl, rfl⟩ := hF l al h
  obtain ⟨h1, h2⟩ := hI { ρ with N := fun _ => none } ρ rfl rfl rfl rfl
  rw [h1] at hx
  refine (calls_alts (w := w) hc hE hL hm hf hb hrun hx (fun _ => rfl) (fun _ hp => by cases hp) (hA _)).mono fun e w' ⟨v, he, hfr, u, hu, hd, hcr⟩ => ⟨v, he, hfr, u, hu, ?_, fun q hq => ?_⟩
  · rw [(h2 u hu).1]; exact hd
  · rw [(h2 u hu).2 q hq]; exact hcr q hq

end Go.Vm
end
