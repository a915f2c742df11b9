/- A machine for abstract states over the model (part 15): the machine tells the truth. -/
import Derived.Test.YtighjgmgpphohaaVm14
namespace Go.Vm
section
variable {P : Program} {β : Base} {ρ : Env} {w : World}
theorem undef_den : (AVal.tuple []).den ρ = some undef := rfl
theorem guard_ok {ops : Array Oper} {o : Oper} {t : Tr AVal} {a : Act} (r : TRel ρ t a.tmps) :
 (guardOf ops o t = .yes -> Region.wanted o (yielded ops a.tmps) = true) /\ (guardOf ops o t = .no -> Region.wanted o (yielded ops a.tmps) = false) ∧
 (∀ u d, guardOf ops o t = .unk u d -> t.get d = some (.bool u)) := by
 unfold guardOf Region.wanted
 split
 · rename_i hg
   exact ⟨fun _ => by rw [hg], (fun h => by cases h), (fun _ _ h => by cases h)⟩
 · rename_i j want hg
   simp only [hg]
   split
   · rename_i d hd
     have hd' : (ops[j]?).bind (·.dst) = some d := by simpa using hd
     split
     · rename_i b hb
       obtain ⟨x, hx, g⟩ := r d _ hb
       have := den_litb hx
       subst this
       have hy : yielded ops a.tmps j = some b := by simp [yielded, hd', g]
       refine ⟨fun h => ?_, fun h => ?_, (fun _ _ h => ?_)⟩
       · cases hbw : (b == want) with
         | true => rw [hy]; simpa using hbw
         | false => rw [hbw] at h; cases h
       · cases hbw : (b == want) with
         | false => rw [hy]; simpa using hbw
         | true => rw [hbw] at h; cases h
       · cases hbw : (b == want) <;> rw [hbw] at h <;> cases h
     · rename_i u hb hu
       exact ⟨(fun h => by cases h), (fun h => by cases h), (fun _ _ h => by cases h; exact hu)⟩
     · rename_i hu
       obtain ⟨x, hx, g⟩ := r d _ hu
       have hx' : x = undef := (Option.some.inj (hx.symm.trans (undef_den (ρ := ρ))))
       subst hx'
       have hy : yielded ops a.tmps j = none := by simp [yielded, hd', g, undef]
       exact ⟨(fun h => by cases h), (fun _ => by rw [hy]; rfl), (fun _ _ h => by cases h)⟩
     · exact ⟨(fun h => by cases h), (fun h => by cases h), (fun _ _ h => by cases h)⟩
   · exact ⟨(fun h => by cases h), (fun h => by cases h), (fun _ _ h => by cases h)⟩
theorem eachO_some {α γ : Type} {f : α -> Option (List γ)} : ∀ {l : List α} {r : List γ}, eachO f l = some r -> ∀ x ∈ l, ∃ rx, f x = some rx /\ ∀ y ∈ rx, y ∈ r
 | [], r, h, x, hx => by cases hx
 | a :: l, r, h, x, hx => by
  simp only [eachO] at h
  unfold appendO at h
  split at h
  · rename_i ra rl hra hrl
    cases h
    rcases List.mem_cons.1 hx with rfl | hx
    · exact ⟨ra, hra, fun y hy => List.mem_append.2 (.inl hy)⟩
    · obtain ⟨rx, h1, h2⟩ := eachO_some hrl x hx
      exact ⟨rx, h1, fun y hy => List.mem_append.2 (.inr (h2 y hy))⟩
  · cases h
theorem appendO_some {α : Type} {a b : Option (List α)} {r : List α} (h : appendO a b = some r) : ∃ x y, a = some x /\ b = some y /\ r = x ++ y := by
 unfold appendO at h
 split at h
 · cases h; exact ⟨_, _, rfl, rfl, rfl⟩
 · cases h
def FnOk (P : Program) (β : Base) (fn : FuncId -> List AVal -> Heap -> Nat -> Cs -> Option (List Leaf)) : Prop := ∀ g args H nl cs ls ρ w xs, fn g args H nl cs = some ls -> AVal.denL ρ args = some xs -> HRel β ρ H nl w -> CRel ρ cs -> (∀ l ∈ ls, l.dead ρ) ->
 Calls P g xs.toArray w (fun e w' => ∃ v, e = .returned v /\ ∃ u H' nl' cs' ρ', Leaf.ret u H' nl' cs' ∈ ls /\ ρ.Le ρ' /\ u.den ρ' = some v /\ HRel β ρ' H' nl' w' /\ CRel ρ' cs')
def HookOk (P : Program) (β : Base) (hk : OpF) : Prop := ∀ (o : Oper) ev H nl cs ls ρ w (f : Operand -> Value), hk o.op ev H nl cs = some ls -> EvOk ρ ev f -> HRel β ρ H nl w -> CRel ρ cs -> (∀ l ∈ ls, l.dead ρ) ->
 ∃ x w', ((execOp f o).run P w = .ok (.value x) w' ∨ ((execOp f o).run P w = .ok .skip w' /\ x = undef)) /\ ∃ u H' nl' cs' ρ', Leaf.ret u H' nl' cs' ∈ ls /\ ρ.Le ρ' /\ u.den ρ' = some x /\ HRel β ρ' H' nl' w' /\ CRel ρ' cs'
theorem noOp_ok {P : Program} {β : Base} : HookOk P β noOp := fun _ _ _ _ _ _ _ _ _ h => by cases h
def CallOk (P : Program) (β : Base) (callF : CallF) : Prop := FnOk P β callF.fn /\ HookOk P β callF.op
theorem lookB_ok : ∀ {cs : Cs} {t : BT} {b : Bool}, lookB cs t = some b -> CRel ρ cs -> t.den ρ = some b
 | [], t, b, h, _ => by cases h
 | (u, c) :: r, t, b, h, hc => by
  simp only [lookB] at h
  cases hb : BT.beq u t with
  | true =>
   rw [hb] at h; cases h
   rw [<- BT.beq_eq hb]; exact hc _ List.mem_cons_self
  | false => rw [hb] at h; exact lookB_ok h fun p hp => hc p (List.mem_cons_of_mem _ hp)
theorem lookI_ok : ∀ {cs : Cs} {t : IT} {n : Nat} {z : Int}, lookI cs t = some n -> CRel ρ cs -> t.den ρ = some z -> z = n
 | [], t, b, z, h, _, _ => by cases h
 | p :: r, t, n, z, h, hc, hz => by
  have hr : CRel ρ r := fun p hp => hc p (List.mem_cons_of_mem _ hp)
  unfold lookI at h
  split at h
  · cases h
  · rename_i u m r' heq
    cases heq
    cases hb : IT.beq u t with
    | true =>
     rw [hb] at h; cases h
     have := hc _ List.mem_cons_self
     rw [IT.beq_eq hb] at this
     simp only [BT.den, hz, IT.den, intCmp, Option.some.injEq, beq_iff_eq] at this
     exact this
    | false => rw [hb] at h; exact lookI_ok h hr hz
  · rename_i heq
    cases heq
    exact lookI_ok h hr hz
theorem normB_ok {cs : Cs} (hc : CRel ρ cs) : ∀ {t : BT} {b : Bool}, t.den ρ = some b -> (normB cs t).den ρ = some b := by
 have look : ∀ {t : BT} {b c : Bool}, lookB cs t = some c -> t.den ρ = some b -> (BT.lit c).den ρ = some b := fun h hb => by
  have := lookB_ok h hc
  rw [hb] at this; cases this; rfl
 intro t
 induction t with
 | lit x => exact fun h => h
 | var i =>
  intro b h
  simp only [normB]
  split
  · rename_i c hl; exact look hl h
  · exact h
 | cmp op u v =>
  intro b h
  simp only [normB]
  split
  · rename_i c hl; exact look hl h
  · exact h
 | seq u v =>
  intro b h
  simp only [normB]
  split
  · rename_i c hl; exact look hl h
  · exact h
 | not a ih =>
  intro b h
  simp only [normB]
  split
  · rename_i c hl; exact look hl h
  · simp only [BT.den] at h
    obtain ⟨x, hx, rfl⟩ := Option.map_eq_some_iff.1 h
    exact mkNot_den (ih hx)
 | and a b iha ihb =>
  intro c h
  simp only [normB]
  split
  · rename_i d hl; exact look hl h
  · simp only [BT.den] at h
    split at h
    · rename_i x y hx hy
      cases h
      exact mkAnd_den (iha hx) (ihb hy)
    · cases h
theorem normV_ok {cs : Cs} {v : AVal} {x : Value} (hc : CRel ρ cs) (h : v.den ρ = some x) : (normV cs v).den ρ = some x := by
 unfold normV
 split
 · obtain ⟨b, rfl, hb⟩ := den_bool h
   simp only [AVal.den, normB_ok hc hb, Option.map_some]
 · rename_i k j t
   split
   · rename_i n hn
     obtain ⟨z, rfl, hz⟩ := den_int h
     obtain rfl := lookI_ok hn hc hz
     rfl
   · exact h
 · exact h
theorem noneOf_ok {t : IT} {z : Int} {n : Nat} (hz : t.den ρ = some z) (h : ∀ j : Nat, j < n -> z ≠ j) : CRel ρ (noneOf t n) := by
 intro p hp
 obtain ⟨j, hj, rfl⟩ := List.mem_map.1 hp
 have := h j (List.mem_range.1 hj)
 simp only [BT.den, hz, IT.den, intCmp, Option.some.injEq, beq_eq_false_iff_ne, ne_eq]
 exact this
theorem enumOf_ok {o : Op} {t : Tr AVal} {d : Tmp} {k : IntKind} {u : IT} {n : Nat} (h : enumOf o t = some (d, k, u, n)) : t.get d = some (.int k u) := by
 unfold enumOf at h
 split at h
 · split at h
   · cases h
   · generalize Nat.blt _ 65 = b at h
     cases b with
     | true => cases h; assumption
     | false => cases h
   · cases h
 · cases h
theorem setI_ok {S : St} {a : Act} {k : IntKind} {t : IT} {d : Tmp} {j : Nat} (r : SRel β ρ S a w) (hd : S.tmps.get d = some (.int k t)) (hj : t.den ρ = some (j : Int)) : SRel β ρ (setI S d k t j) a w := by
 obtain ⟨x, hx, g⟩ := r.t d _ hd
 refine ⟨r.d, r.n, ?_, r.h, ?_⟩
 · intro i v hi
   rcases Tr.get_set hi with ⟨rfl, rfl⟩ | ⟨_, g1⟩
   · refine ⟨x, ?_, g⟩
     simp only [AVal.den, hj, Option.map_some] at hx
     rw [<- hx]; rfl
   · exact r.t i v g1
 · intro p hp
   rcases List.mem_cons.1 hp with rfl | hp
   · simp [BT.den, hj, IT.den, intCmp]
   · exact r.c p hp
theorem outs_ok {S : St} {dst : Option Tmp} : ∀ {ls : List Leaf},
 (∀ cs, Leaf.stop cs ∈ ls -> SO.stop cs ∈ outs S dst ls) /\ (∀ S', Leaf.pause S' ∈ ls -> SO.stop S'.cs ∈ outs S dst ls) ∧
 (∀ v H nl cs, Leaf.ret v H nl cs ∈ ls -> SO.st { S with tmps := putT S.tmps S.nt dst (normV cs v), H := H, nl := nl, cs := cs } ∈ outs S dst ls)
 | [] => by simp
 | x :: r => by
  obtain ⟨h1, h2, h3⟩ := outs_ok (S := S) (dst := dst) (ls := r)
  cases x with
  | ret v H nl cs =>
   refine ⟨fun cs hc => ?_, fun S hc => ?_, fun v' H' nl' cs' hc => ?_⟩
   · rcases List.mem_cons.1 hc with hc | hc
     · cases hc
     · exact List.mem_cons_of_mem _ (h1 cs hc)
   · rcases List.mem_cons.1 hc with hc | hc
     · cases hc
     · exact List.mem_cons_of_mem _ (h2 S hc)
   · rcases List.mem_cons.1 hc with hc | hc
     · cases hc; exact List.mem_cons_self
     · exact List.mem_cons_of_mem _ (h3 _ _ _ _ hc)
  | stop cs =>
   refine ⟨fun cs hc => ?_, fun S hc => ?_, fun v' H' nl' cs' hc => ?_⟩
   · rcases List.mem_cons.1 hc with hc | hc
     · cases hc; exact List.mem_cons_self
     · exact List.mem_cons_of_mem _ (h1 cs hc)
   · rcases List.mem_cons.1 hc with hc | hc
     · cases hc
     · exact List.mem_cons_of_mem _ (h2 S hc)
   · rcases List.mem_cons.1 hc with hc | hc
     · cases hc
     · exact List.mem_cons_of_mem _ (h3 _ _ _ _ hc)
  | pause S0 =>
   refine ⟨fun cs hc => ?_, fun S hc => ?_, fun v' H' nl' cs' hc => ?_⟩
   · rcases List.mem_cons.1 hc with hc | hc
     · cases hc
     · exact List.mem_cons_of_mem _ (h1 cs hc)
   · rcases List.mem_cons.1 hc with hc | hc
     · cases hc; exact List.mem_cons_self
     · exact List.mem_cons_of_mem _ (h2 S hc)
   · rcases List.mem_cons.1 hc with hc | hc
     · cases hc
     · exact List.mem_cons_of_mem _ (h3 _ _ _ _ hc)
theorem sure_ok {c : BT} (h : sure c = true) : c.den ρ = some true := by
 unfold sure at h
 split at h
 · rename_i s n
   split at h
   · rename_i m hm
     rw [iLt_eq] at h
     simp at h
     have h1 := szB_ok ρ hm
     simp only [BT.den, IT.den, intCmp]
     simp; omega
   · cases h
 · cases h
theorem totI_div {op : BinOp} (ho : op = .quo ∨ op = .rem) {k : IntKind} {a b : IT} (h : totI (.bin op k a b) = true) : totI a = true /\ ∃ n : Nat, b = .lit (.ofNat (n + 1)) := by
 rcases ho with rfl | rfl
 all_goals cases b with
  | lit z =>
   cases z with
   | ofNat m =>
    cases m with
    | zero => simp [totI] at h
    | succ m => exact ⟨by simpa [totI] using h, m, rfl⟩
   | negSucc m => simp [totI] at h
  | _ => simp [totI] at h
theorem totI_ok : ∀ {t : IT}, totI t = true -> ∃ x, t.den ρ = some x := by
 intro t
 induction t with
 | lit n => exact fun _ => ⟨_, rfl⟩
 | var i => exact fun _ => ⟨_, rfl⟩
 | nv i => intro h; cases h
 | slen s => exact fun _ => ⟨_, rfl⟩
 | nsub i n => intro h; cases h
 | cv k a ih => intro h; obtain ⟨x, hx⟩ := ih h; exact ⟨_, by simp only [IT.den, hx]; rfl⟩
 | sel a s j i ih => intro h; obtain ⟨x, hx⟩ := ih h; exact ⟨_, by simp only [IT.den, hx]; rfl⟩
 | elem o s j i iho ih =>
  intro h; simp only [totI, Bool.and_eq_true] at h
  obtain ⟨x, hx⟩ := iho h.1; obtain ⟨y, hy⟩ := ih h.2; exact ⟨_, by simp only [IT.den, hx, hy]; rfl⟩
 | mx a b iha ihb =>
  intro h; simp only [totI, Bool.and_eq_true] at h
  obtain ⟨x, hx⟩ := iha h.1; obtain ⟨y, hy⟩ := ihb h.2; exact ⟨_, by simp only [IT.den, hx, hy]; rfl⟩
 | mn a b iha ihb =>
  intro h; simp only [totI, Bool.and_eq_true] at h
  obtain ⟨x, hx⟩ := iha h.1; obtain ⟨y, hy⟩ := ihb h.2; exact ⟨_, by simp only [IT.den, hx, hy]; rfl⟩
 | fn k a b iha ihb =>
  intro h; simp only [totI, Bool.and_eq_true] at h
  obtain ⟨x, hx⟩ := iha h.1; obtain ⟨y, hy⟩ := ihb h.2; exact ⟨_, by simp only [IT.den, hx, hy]; rfl⟩
 | un k a b iha ihb =>
  intro h; simp only [totI, Bool.and_eq_true] at h
  obtain ⟨x, hx⟩ := iha h.1; obtain ⟨y, hy⟩ := ihb h.2; exact ⟨_, by simp only [IT.den, hx, hy]; rfl⟩
 | scode s => exact fun _ => ⟨_, rfl⟩
 | bin op k a b iha ihb =>
  intro h
  by_cases ho : op = .quo ∨ op = .rem
  · obtain ⟨ha, n, rfl⟩ := totI_div ho h
    obtain ⟨x, hx⟩ := iha ha
    have hn : ¬ ((Int.ofNat (n + 1)) = 0) := by simp; omega
    rcases ho with rfl | rfl <;> exact ⟨_, by simp only [IT.den, hx, intBin, if_neg hn]; rfl⟩
  cases op <;> first
   | (exact absurd (.inl rfl) ho)
   | (exact absurd (.inr rfl) ho)
   | (simp [totI] at h; done)
   | (simp only [totI, Bool.and_eq_true] at h
      obtain ⟨x, hx⟩ := iha h.1; obtain ⟨y, hy⟩ := ihb h.2; exact ⟨_, by simp only [IT.den, hx, hy, intBin]; rfl⟩)
theorem tot_ok {c : BT} (h : tot c = true) : ∃ b, c.den ρ = some b := by
 unfold tot at h
 split at h
 all_goals first
  | (cases h; done)
  | (simp only [Bool.and_eq_true] at h
     obtain ⟨x, hx⟩ := totI_ok (ρ := ρ) h.1; obtain ⟨y, hy⟩ := totI_ok (ρ := ρ) h.2
     exact ⟨_, by simp only [BT.den, hx, hy, intCmp]; rfl⟩)
theorem sureC_ok {cs : Cs} {c : BT} (h : sureC cs c = true) (hc : CRel ρ cs) : c.den ρ = some true := by
 unfold sureC at h
 cases hs : sure c with
 | true => exact sure_ok hs
 | false =>
  rw [hs] at h
  simp only [Bool.false_or] at h
  split at h
  · rename_i b hl; subst h; exact lookB_ok hl hc
  · cases h
theorem stepOp_ok (hc : NoCount P) {E : Exts} (hE : ExtOk P E) {callF : CallF} (hcall : CallOk P β callF) {ops : Array Oper} {i : Nat} {o : Oper} (ho : ops[i]? = some o) {S : St} {a : Act} (hw : Region.wanted o (yielded ops a.tmps) = true)
 {l : List SO} (h : stepOp P E callF o S = some l) (r : SRel β ρ S a w) (hdead : ∀ x ∈ l, x.dead ρ) {K : Act -> World -> Prop}
 (hK : ∀ S', SO.st S' ∈ l -> S'.todo = S.todo -> ∀ ρ' a' w', ρ.Le ρ' -> SRel β ρ' S' a' w' -> K a' w') : OpG P ops i K a w := by
 have nostop : l = [.stop S.cs] -> False := fun e => hdead (.stop S.cs) (by rw [e]; exact List.mem_cons_self) ρ (Env.Le.refl ρ) r.c
 unfold OpG
 simp only [ho]
 rw [if_pos hw]
 unfold stepOp at h
 have he := evOf_ok r.t
 split at h
 · rename_i ls hls
   cases h
   obtain ⟨h1, h2, h3⟩ := outs_ok (S := S) (dst := o.dst) (ls := ls)
   obtain ⟨x, w', hrun, u, H', nl', cs', ρ', hmem, hle, hu, hr', hcs⟩ := hcall.2 o _ S.H S.nl S.cs ls ρ w _ hls he r.h r.c (fun x hx => by
    cases x with
    | ret => trivial
    | pause S' => exact hdead _ (h2 S' hx)
    | stop cs => exact hdead _ (h1 cs hx))
   have k := hK _ (h3 _ _ _ _ hmem) rfl ρ' (a.put o.dst x) w' hle ⟨by rw [put_defers]; exact r.d, by rw [put_size]; exact r.n, putT_ok (r.t.mono hle) r.n (normV_ok hcs hu), hr', hcs⟩
   rcases hrun with hrun | ⟨hrun, rfl⟩
   · exact .inl ⟨x, w', hrun, k⟩
   · exact .inr (.inl ⟨w', hrun, k⟩)
 split at h
 · rename_i v H nl mu hop
   cases hmu : mu.all (fun c => sureC S.cs c || tot c) with
   | false => rw [hmu] at h; exact (nostop (Option.some.inj h).symm).elim
   | true =>
    rw [hmu] at h; simp only [cond_true, Option.some.injEq] at h; subst h
    have hok := aop_ok hc hE hop he r.h
    have hmust : ∀ c ∈ mu, c.den ρ = some true := by
     intro c hcm
     cases hsu : sureC S.cs c with
     | true => exact sureC_ok hsu r.c
     | false =>
      have hto := List.all_eq_true.1 hmu c hcm
      rw [hsu, Bool.false_or] at hto
      obtain ⟨b, hb⟩ := tot_ok (ρ := ρ) hto
      cases b with
      | true => exact hb
      | false =>
       exfalso
       have hd := hdead (.stop ((c, false) :: S.cs)) (List.mem_cons_of_mem _ (List.mem_map.2 ⟨c, List.mem_filter.2 ⟨hcm, by simp [hsu]⟩, rfl⟩))
       exact hd ρ (Env.Le.refl ρ) (fun p hp => by
        rcases List.mem_cons.1 hp with rfl | hp
        · exact hb
        · exact r.c p hp)
    obtain ⟨ρ', w', x, hle, hrun, hx, hr'⟩ := hok hmust
    refine .inl ⟨x, w', hrun, hK _ List.mem_cons_self rfl ρ' _ w' hle ⟨by rw [put_defers]; exact r.d, by rw [put_size]; exact r.n, putT_ok (r.t.mono hle) r.n (normV_ok (r.c.mono hle) hx), hr', ?_⟩⟩
    intro p hp
    rcases List.mem_append.1 hp with hp | hp
    · obtain ⟨c, hcm, rfl⟩ := List.mem_map.1 hp
      exact BT.den_mono hle (hmust c (List.mem_filter.1 hcm).1)
    · exact BT.den_mono hle (r.c p hp)
 · rename_i H nl hop
   cases h
   obtain ⟨ρ', w', hle, hrun, hr'⟩ := aop_ok hc hE hop he r.h
   exact .inr (.inl ⟨w', hrun, hK _ List.mem_cons_self rfl ρ' _ w' hle ⟨by rw [put_defers]; exact r.d, by rw [put_size]; exact r.n, putT_ok (r.t.mono hle) r.n undef_den, hr', r.c.mono hle⟩⟩)
 · rename_i H nl mu hop
   cases hmu : mu.all (fun c => sureC S.cs c || tot c) with
   | false => rw [hmu] at h; exact (nostop (Option.some.inj h).symm).elim
   | true =>
    rw [hmu] at h; simp only [cond_true, Option.some.injEq] at h; subst h
    have hok := aop_ok hc hE hop he r.h
    have hmust : ∀ c ∈ mu, c.den ρ = some true := by
     intro c hcm
     cases hsu : sureC S.cs c with
     | true => exact sureC_ok hsu r.c
     | false =>
      have hto := List.all_eq_true.1 hmu c hcm
      rw [hsu, Bool.false_or] at hto
      obtain ⟨b, hb⟩ := tot_ok (ρ := ρ) hto
      cases b with
      | true => exact hb
      | false =>
       exfalso
       have hd := hdead (.stop ((c, false) :: S.cs)) (List.mem_cons_of_mem _ (List.mem_map.2 ⟨c, List.mem_filter.2 ⟨hcm, by simp [hsu]⟩, rfl⟩))
       exact hd ρ (Env.Le.refl ρ) (fun p hp => by
        rcases List.mem_cons.1 hp with rfl | hp
        · exact hb
        · exact r.c p hp)
    obtain ⟨ρ', w', hle, hrun, hr'⟩ := hok hmust
    refine .inr (.inl ⟨w', hrun, hK _ List.mem_cons_self rfl ρ' _ w' hle ⟨by rw [put_defers]; exact r.d, by rw [put_size]; exact r.n, putT_ok (r.t.mono hle) r.n undef_den, hr', ?_⟩⟩)
    intro p hp
    rcases List.mem_append.1 hp with hp | hp
    · obtain ⟨c, hcm, rfl⟩ := List.mem_map.1 hp
      exact BT.den_mono hle (hmust c (List.mem_filter.1 hcm).1)
    · exact BT.den_mono hle (r.c p hp)
 · rename_i g args hop
   split at h
   · rename_i ls hls
     cases h
     obtain ⟨hb, xs, hrun, hxs⟩ := aop_ok hc hE hop he r.h
     obtain ⟨h1, h2, h3⟩ := outs_ok (S := S) (dst := o.dst) (ls := ls)
     have hc2 := hcall.1 g args S.H S.nl S.cs ls ρ w xs hls hxs r.h r.c (fun x hx => by
      cases x with
      | ret => trivial
      | pause S' => exact hdead _ (h2 S' hx)
      | stop cs => exact hdead _ (h1 cs hx))
     refine .inr (.inr ⟨g, xs.toArray, w, hrun, hc2.mono fun e w2 ⟨v, hv, u, H', nl', cs', ρ', hmem, hle, hu, hr', hcs⟩ => ⟨v, hv, ?_⟩⟩)
     exact hK _ (h3 _ _ _ _ hmem) rfl ρ' _ w2 hle ⟨by rw [put_defers]; exact r.d, by rw [put_size]; exact r.n, putT_ok (r.t.mono hle) r.n (normV_ok hcs hu), hr', hcs⟩
   · cases h
 · exact (nostop (Option.some.inj h).symm).elim
theorem rOp_ok {o : Oper} {ev : Ev} {f : Operand -> Value} {rk : RK} {u : AVal} {H : Heap} {nl : Nat} {cs : Cs} (h : rOp o.op ev = some rk) (he : EvOk ρ ev f) (hu : rk.ev P H cs = some u) (hr : HRel β ρ H nl w) (hcs : CRel ρ cs) :
 ∃ x, u.den ρ = some x /\ (execOp f o).run P w = .ok (.value x) w := by
 unfold rOp at h
 split at h
 · rename_i t a ho
   obtain ⟨x, hx, rfl⟩ := map_some h
   simp only [RK.ev] at hu
   split at hu
   · rename_i v hv
     cases hu
     obtain ⟨y, hy, hd⟩ := aLoad_ok (P := P) hv (he a x hx) hr
     exact ⟨y, hd, by simp [execOp, ho, hy]⟩
   · split at hu
     · rename_i v mu hv
       cases hmu : mu.all (sureC cs) with
       | false => rw [hmu] at hu; cases hu
       | true =>
        rw [hmu] at hu; cases hu
        obtain ⟨y, hy, hd⟩ := aLoadE_ok (P := P) hv (he a x hx) (fun c hcm => sureC_ok (List.all_eq_true.1 hmu c hcm) hcs) hr
        exact ⟨y, hd, by simp [execOp, ho, hy]⟩
     · cases hu
 · rename_i t m k ok ho
   split at h
   · rename_i mv kv hm hk
     cases h
     obtain ⟨y, hd, hrun⟩ := aLookup_ok (P := P) hu (he m mv hm) (he k kv hk) hr
     exact ⟨y, hd, by simp [execOp, ho, hrun]⟩
   · cases h
 · rename_i args tys ho
   split at h
   · rename_i x t hargs htys
     obtain ⟨v, hv, rfl⟩ := map_some h
     obtain ⟨y, hd, hrun⟩ := aLen_ok (P := P) (ty := o.type) hu (he x v hv) hr
     have ha : args.map f = #[f x] := by apply Array.toList_inj.1; simp [hargs]
     have ht : tys = #[t] := by apply Array.toList_inj.1; simp [htys]
     subst ht
     exact ⟨y, hd, by simp [execOp, ho, resolve, invoke, builtin, ha, hrun]⟩
   · cases h
 · cases h
def Cert (P : Program) (β : Base) (ρ : Env) (X : List XF) (C : Array Bool -> World -> Prop) : Prop :=
 (∀ ρ' H' nl' w' L cs', ρ.Le ρ' -> xOk P X L H' cs' = true -> HRel β ρ' H' nl' w' -> CRel ρ' cs' -> C L w') /\ (∀ i, xFree X i = true -> ∀ L w, C (L.setIfInBounds i true) w -> C L w) /\ ∀ i L w, C L w -> C (L.setIfInBounds i true) w
theorem Cert.mono {ρ' : Env} {X : List XF} {C : Array Bool -> World -> Prop} (h : ρ.Le ρ') (c : Cert P β ρ X C) : Cert P β ρ' X C := ⟨fun r H nl w L cs hr hx hh hc => c.1 r H nl w L cs (h.trans hr) hx hh hc, c.2⟩
theorem unl_iff {L : Array Bool} {D : List Nat} : unl L D = true ↔ ∀ d ∈ D, L.getD d false = false := by
 simp [unl]
theorem depOk_spec {ops : Array Oper} {i : Nat} {D : List Nat} (h : depOk ops i D = true) :
 i ∉ D /\ ∀ d ∈ D, ∀ o, ops[d]? = some o -> ∃ e ∈ o.after, Region.binds .any e = true /\ (e.on = i ∨ e.on ∈ D) := by
 simp only [depOk, List.all_eq_true, Bool.and_eq_true] at h
 refine ⟨fun hi => ?_, fun d hd o ho => ?_⟩
 · have := (h i hi).1; simp at this
 · have h1 := (h d hd).2
   have ho' : ops.toList[d]? = some o := by simpa using ho
   rw [ho'] at h1
   simp only [Array.any_eq_true', Bool.and_eq_true, Bool.or_eq_true, List.any_eq_true] at h1
   obtain ⟨e, he, hb, h2⟩ := h1
   refine ⟨e, he, hb, ?_⟩
   rcases h2 with h2 | ⟨x, hx, h2⟩
   · exact .inl (Nat.eq_of_beq_eq_true h2)
   · exact .inr (Nat.eq_of_beq_eq_true h2 ▸ hx)
theorem EvOk.mono {ρ' : Env} (h : ρ.Le ρ') {ev : Ev} {f : Operand -> Value} (e : EvOk ρ ev f) : EvOk ρ' ev f := fun x v hv => AVal.den_mono h v (e x v hv)
theorem setB_ok {S : St} {a : Act} {t : BT} {d : Tmp} (r : SRel β ρ S a w) (hd : S.tmps.get d = some (.bool t)) : ∃ b, SRel β ρ (setB S t d b) a w := by
 obtain ⟨x, hx, g⟩ := r.t d _ hd
 obtain ⟨b, rfl, hb⟩ := den_bool hx
 refine ⟨b, r.d, r.n, ?_, r.h, ?_⟩
 · intro i v hi
   rcases Tr.get_set hi with ⟨rfl, rfl⟩ | ⟨_, g1⟩
   · exact ⟨.bool b, rfl, g⟩
   · exact r.t i v g1
 · intro p hp
   rcases List.mem_cons.1 hp with rfl | hp
   · exact hb
   · exact r.c p hp
theorem classify_ok {ops : Array Oper} {listed : Array Bool} {S : St} {X : List XF} {i : Nat} {a : Act} {C : Array Bool -> World -> Prop} (r : SRel β ρ S a w) (hCl : C listed w) (hC : Cert P β ρ X C) :
 (∀ t d, classify P ops listed S X i = .split t d -> S.tmps.get d = some (.bool t)) ∧
 (∀ j t X', classify P ops listed S X i = .take j t X' -> j = i /\ Region.free .any ops listed i = true /\ xFree X i = true /\ ∃ (o : Oper) (v : Value) (C' : Array Bool -> World -> Prop) (F : World -> Prop) (D : List Nat), ops[i]? = some o /\ YC P ops F o v a /\ (∀ L w, C' L w -> C L w) /\ C' (listed.setIfInBounds i true) w ∧
  (∀ L w, (∀ d ∈ D, L.getD d false = false) -> C' L w -> F w) /\ i ∉ D /\ (∀ d ∈ D, ∀ o : Oper, ops[d]? = some o -> ∃ e ∈ o.after, Region.binds .any e = true /\ (e.on = i ∨ e.on ∈ D)) /\ (∀ d ∈ D, listed.getD d false = false) ∧
  SRel β ρ { S with tmps := t } (a.put o.dst v) w /\ Cert P β ρ X' C') := by
 have hCw := hC.2.2 i _ _ hCl
 unfold classify
 split
 · exact ⟨(fun _ _ h => by cases h), (fun _ _ _ h => by cases h)⟩
 · rename_i o ho
   have ho' : ops[i]? = some o := by simpa using ho
   obtain ⟨g1, g2, g3⟩ := guard_ok (ops := ops) (o := o) r.t
   split
   · rename_i t d hg
     exact ⟨(fun _ _ h => by cases h; exact g3 _ _ hg), (fun _ _ _ h => by cases h)⟩
   · exact ⟨(fun _ _ h => by cases h), (fun _ _ _ h => by cases h)⟩
   · rename_i hg
     cases hf : (Region.free .any ops listed i && xFree X i) with
     | false => exact ⟨(fun _ _ h => by cases h), (fun _ _ _ h => by cases h)⟩
     | true =>
      refine ⟨(fun _ _ h => by cases h), (fun j t X' h => ?_)⟩
      simp only [Bool.and_eq_true] at hf
      simp only [cond_true, Pk.take.injEq] at h
      obtain ⟨rfl, rfl, rfl⟩ := h
      exact ⟨rfl, hf.1, hf.2, o, undef, C, fun _ => True, [], ho', .inr ⟨g2 hg, rfl⟩, fun _ _ h => h, hCw, fun _ _ _ _ => trivial, (fun h => by cases h), (fun _ h => by cases h), (fun _ h => by cases h),
       ⟨by rw [put_defers]; exact r.d, by rw [put_size]; exact r.n, putT_ok r.t r.n undef_den, r.h, r.c⟩, hC⟩
   · rename_i hg
     split
     · rename_i v mu hp
       cases hf : (mu.all (sureC S.cs) && (Region.free .any ops listed i && xFree X i)) with
       | false => exact ⟨(fun _ _ h => by cases h), (fun _ _ _ h => by cases h)⟩
       | true =>
        simp only [Bool.and_eq_true] at hf
        refine ⟨(fun _ _ h => by cases h), (fun j t X' h => ?_)⟩
        simp only [cond_true, Pk.take.injEq] at h
        obtain ⟨rfl, rfl, rfl⟩ := h
        obtain ⟨x, hxd, hrun⟩ := aPure_ok hp (evOf_ok r.t) (fun c h => sureC_ok (List.all_eq_true.1 hf.1 c h) r.c)
        exact ⟨rfl, hf.2.1, hf.2.2, o, x, C, fun _ => True, [], ho', .inl ⟨g1 hg, fun w _ => hrun w⟩, fun _ _ h => h, hCw, fun _ _ _ _ => trivial, (fun h => by cases h), (fun _ h => by cases h), (fun _ h => by cases h),
         ⟨by rw [put_defers]; exact r.d, by rw [put_size]; exact r.n, putT_ok r.t r.n (normV_ok r.c hxd), r.h, r.c⟩, hC⟩
     · split
       · rename_i rk hrk
         split
         · rename_i v hv
           generalize hDd : depsOf i 0 ops.toList [] = D
           simp only
           cases hf : ((Region.free .any ops listed i && xFree X i) && (depOk ops i D && unl listed D)) with
           | false => exact ⟨(fun _ _ h => by cases h), (fun _ _ _ h => by cases h)⟩
           | true =>
            simp only [Bool.and_eq_true] at hf
            refine ⟨(fun _ _ h => by cases h), (fun j t X' h => ?_)⟩
            simp only [cond_true, Pk.take.injEq] at h
            obtain ⟨rfl, rfl, rfl⟩ := h
            obtain ⟨x, hxd, hrun⟩ := rOp_ok (P := P) hrk (evOf_ok r.t) hv r.h r.c
            obtain ⟨hiD, hDs⟩ := depOk_spec hf.2.1
            generalize hW : D.filter _ = W
            have hWD : ∀ d ∈ W, d ∈ D := fun d hd => by rw [<- hW] at hd; exact (List.mem_filter.1 hd).1
            have hcert : Cert P β ρ (⟨W, rk, v⟩ :: X) (fun L w' => C L w' /\ ((∀ d ∈ W, L.getD d false = false) -> (execOp a.eval o).run P w' = .ok (.value x) w')) := by
             refine ⟨fun ρ' H' nl' w' L cs' hle hx' hr' hcs' => ?_, fun k hk L w' h => ?_, fun k L w' h => ⟨hC.2.2 k L w' h.1, fun hLW => h.2 fun d hd => ?_⟩⟩
             · simp only [xOk, List.all_cons, Bool.and_eq_true] at hx'
               refine ⟨hC.1 ρ' H' nl' w' L cs' hle hx'.2 hr' hcs', fun hLW => ?_⟩
               have hx1 := hx'.1
               rw [unl_iff.2 hLW, cond_true] at hx1
               split at hx1
               · rename_i u hu
                 have := AVal.beq_eq _ _ hx1
                 subst this
                 obtain ⟨y, hyd, hrun'⟩ := rOp_ok (P := P) hrk ((evOf_ok r.t).mono hle) hu hr' hcs'
                 have := AVal.den_mono hle _ hxd
                 rw [this] at hyd
                 cases hyd
                 exact hrun'
               · cases hx1
             · simp only [xFree, List.all_cons, Bool.and_eq_true, List.all_eq_true] at hk
               refine ⟨hC.2.1 k (by simp only [xFree, List.all_eq_true]; exact hk.2) L w' h.1, fun hLW => h.2 fun d hd => ?_⟩
               have hdk := hk.1 d hd
               simp at hdk
               rw [getD_set_ne false (fun (e : k = d) => by subst e; simp at hdk)]; exact hLW d hd
             · cases hg : L.getD d false with
               | false => rfl
               | true => have := hLW d hd; rw [getD_set_true hg] at this; cases this
            exact ⟨rfl, hf.1.1, hf.1.2, o, x, _, fun w' => (execOp a.eval o).run P w' = .ok (.value x) w', D, ho', .inl ⟨g1 hg, fun w h => h⟩, fun _ _ h => h.1, ⟨hCw, fun _ => hrun⟩,
             fun L w' hL h => h.2 fun d hd => hL d (hWD d hd), hiD, hDs, unl_iff.1 hf.2.2,
             ⟨by rw [put_defers]; exact r.d, by rw [put_size]; exact r.n, putT_ok r.t r.n hxd, r.h, r.c⟩, hcert⟩
         · exact ⟨(fun _ _ h => by cases h), (fun _ _ _ h => by cases h)⟩
       · exact ⟨(fun _ _ h => by cases h), (fun _ _ _ h => by cases h)⟩
theorem pick_ok {ops : Array Oper} {listed : Array Bool} {S : St} {X : List XF} : ∀ {l : List Nat} {p : Pk}, pick P ops listed S X l = p -> p = .none ∨ ∃ i ∈ l, classify P ops listed S X i = p
 | [], p, h => .inl h.symm
 | i :: r, p, h => by
  simp only [pick] at h
  split at h
  · rcases pick_ok h with h1 | ⟨j, hj, hc⟩
    · exact .inl h1
    · exact .inr ⟨j, List.mem_cons_of_mem _ hj, hc⟩
  · exact .inr ⟨i, List.mem_cons_self, h⟩
theorem regRun_ok (hc : NoCount P) {E : Exts} (hE : ExtOk P E) {callF : CallF} (hcall : CallOk P β callF) {ops : Array Oper} (hns : Region.noSelect ops = true) {Q : Act -> World -> Prop} :
 ∀ (m n : Nat) (listed : Array Bool) (S : St) (X : List XF) (l : List SO) (ρ : Env) (a : Act) (w : World) (C : Array Bool -> World -> Prop), regRun P E callF ops m n listed S X = some l ->
  SRel β ρ S a w -> C listed w -> Cert P β ρ X C -> (∀ x ∈ l, x.dead ρ) -> (∀ S', SO.st S' ∈ l -> ∀ ρ' a' w', ρ.Le ρ' -> SRel β ρ' S' a' w' -> Q a' w') -> AnyG P .any ops Q C n listed a w := by
 intro m
 induction m with
 | zero => intro n listed S X l ρ a w C h; simp [regRun] at h
 | succ m ih =>
  intro n listed S X l ρ a w C h r hCw hC hdead hQ
  simp only [regRun] at h
  split at h
  · rename_i hr
    cases h
    have q := hQ S List.mem_cons_self ρ a w (Env.Le.refl ρ) r
    cases n with
    | zero => exact ⟨hr, q⟩
    | succ n => exact ⟨fun _ => q, fun i hi => by rw [hr] at hi; cases hi⟩
  · rename_i rs hne
    cases n with
    | zero => cases h
    | succ n =>
     simp only at h
     split at h
     · -- a guard that isn't known
       rename_i t d hp
       rcases pick_ok hp with h1 | ⟨i, hi, hcl⟩
       · cases h1
       · have hd := (classify_ok r hCw hC).1 t d hcl
         obtain ⟨b, hb⟩ := setB_ok r hd
         obtain ⟨x, y, hx, hy, rfl⟩ := appendO_some h
         cases b with
         | true => exact ih (n + 1) listed _ X x ρ a w C hx hb hCw hC (fun z hz => hdead z (List.mem_append.2 (.inl hz))) (fun S' hS' => hQ S' (List.mem_append.2 (.inl hS')))
         | false => exact ih (n + 1) listed _ X y ρ a w C hy hb hCw hC (fun z hz => hdead z (List.mem_append.2 (.inr hz))) (fun S' hS' => hQ S' (List.mem_append.2 (.inr hS')))
     · -- one that may come first
       rename_i i t X' hp
       rcases pick_ok hp with h1 | ⟨j, hj, hcl⟩
       · cases h1
       · obtain ⟨rfl, hf, hxf, o, v, C', F, D, ho, hy, hC1, hCw', hF, hiD, hDs, hDl, hr', hC'⟩ := (classify_ok r hCw hC).2 i t X' hcl
         have hrec := ih n _ _ X' l ρ _ w C' h hr' hCw' hC' hdead hQ
         exact AnyG.first hC1 ho (Region.noSelect_spec hns) (hC.2.1 _ hxf) hF hiD hDs n listed a w (Region.free_spec ho hf) hj hDl hy hCw' hrec
     · -- all of them
       refine ⟨fun e => absurd e hne, fun i hi => ?_⟩
       obtain ⟨ri, hri, hsub⟩ := eachO_some h i hi
       split at hri
       · cases hri
       · rename_i o ho
         have ho' : ops[i]? = some o := by simpa using ho
         obtain ⟨g1, g2, g3⟩ := guard_ok (ops := ops) (o := o) r.t
         split at hri
         · rename_i hg
           split at hri
           · rename_i so hso
             refine stepOp_ok hc hE hcall ho' (g1 hg) hso r (fun x hx => ?_) (fun S' hS' _ ρ' a' w' hle hr' => ?_)
             · obtain ⟨rx, hrx, hsub'⟩ := eachO_some hri x hx
               cases x with
               | st S' => trivial
               | stop cs => cases hrx; exact hdead _ (hsub _ (hsub' _ List.mem_cons_self))
             · obtain ⟨rx, hrx, hsub'⟩ := eachO_some hri _ hS'
               simp only at hrx
               cases hxo : xOk P X (listed.setIfInBounds i true) S'.H S'.cs with
               | false => rw [hxo] at hrx; cases hrx; exact (Dead.mono hle (hdead (.stop S'.cs) (hsub _ (hsub' _ List.mem_cons_self))) ρ' (Env.Le.refl ρ') hr'.c).elim
               | true =>
                rw [hxo] at hrx; simp only [cond_true] at hrx
                have hCw' := hC.1 ρ' S'.H S'.nl w' _ _ hle hxo hr'.h hr'.c
                refine ⟨hCw', ih n _ S' X rx ρ' a' w' C hrx hr' hCw' (hC.mono hle) (fun z hz => ?_) (fun S2 hS2 ρ2 a2 w2 hle2 => hQ S2 (hsub _ (hsub' _ hS2)) ρ2 a2 w2 (hle.trans hle2))⟩
                have := hdead z (hsub _ (hsub' _ hz))
                cases z with
                | st => trivial
                | stop cs => exact Dead.mono hle this
           · cases hri
         · rename_i hg
           unfold OpG
           simp only [ho']
           rw [if_neg (by rw [g2 hg]; simp)]
           refine ⟨hC.2.2 _ _ _ hCw, ih n _ _ X ri ρ _ w C hri ⟨by rw [put_defers]; exact r.d, by rw [put_size]; exact r.n, putT_ok r.t r.n undef_den, r.h, r.c⟩ (hC.2.2 _ _ _ hCw) hC (fun z hz => hdead z (hsub _ hz)) (fun S2 hS2 => hQ S2 (hsub _ hS2))⟩
         · cases hri; exact (hdead (.stop S.cs) (hsub _ List.mem_cons_self) ρ (Env.Le.refl ρ) r.c).elim
theorem ofL_ok {ρ : Env} : ∀ {l : List AVal} {xs : List Value} {i : Nat} {t : Tr AVal} {tm : Array Value}, AVal.denL ρ l = some xs -> (∀ j x, xs[j]? = some x -> tm[i + j]? = some x) -> TRel ρ t tm -> TRel ρ (ofL l i t) tm
 | [], xs, i, t, tm, h, _, r => r
 | v :: l, xs, i, t, tm, h, hx, r => by
  simp only [AVal.denL] at h
  split at h
  · rename_i x l' hv hl
    cases h
    refine ofL_ok (i := i + 1) hl (fun j y hy => ?_) ?_
    · have := hx (j + 1) y (by simpa using hy)
      rw [show i + 1 + j = i + (j + 1) from by omega]; exact this
    · intro k u hk
      rcases Tr.get_set hk with ⟨rfl, rfl⟩ | ⟨_, g⟩
      · exact ⟨x, hv, by simpa using hx 0 x rfl⟩
      · exact r k u g
  · cases h
theorem entry_ok {fn : Func} {c : Code} {args : List AVal} {xs : List Value} {H : Heap} {nl : Nat} {cs : Cs} (hx : AVal.denL ρ args = some xs) (hr : HRel β ρ H nl w) (hcs : CRel ρ cs) :
 SRel β ρ (entry fn c args H nl cs) ⟨xs.toArray ++ Array.replicate (fn.ntmps - xs.toArray.size) undef, []⟩ w := by
 refine ⟨rfl, ?_, ?_, hr, hcs⟩
 · have := AVal.denL_length hx
   simp [entry, this]
 · refine ofL_ok hx (fun j x hj => ?_) (fun i v h => by simp [Tr.get] at h)
   have hlt : j < xs.length := (List.getElem?_eq_some_iff.1 hj).1
   simp only [Nat.zero_add]
   rw [Array.getElem?_append_left (by simpa using hlt)]
   simpa using hj
def Good (P : Program) (β : Base) (ρ : Env) (f : FuncId) (R : Value -> World -> Prop) : Leaf -> Prop
 | .ret v H nl cs => ∀ ρ' w' x, ρ.Le ρ' -> v.den ρ' = some x -> HRel β ρ' H nl w' -> CRel ρ' cs -> R x w'
 | .pause S => ∀ ρ' a' w', ρ.Le ρ' -> SRel β ρ' S a' w' -> Goes P f R S.todo a' w'
 | .stop cs => Dead ρ cs
theorem Good.mono {ρ' : Env} {f : FuncId} {R : Value -> World -> Prop} (h : ρ.Le ρ') {l : Leaf} (g : Good P β ρ f R l) : Good P β ρ' f R l := by
 cases l with
 | ret v H nl cs => exact fun r w x hle => g r w x (h.trans hle)
 | pause S => exact fun r a w hle => g r a w (h.trans hle)
 | stop cs => exact Dead.mono h g
theorem OpG.goes {f : FuncId} {R : Value -> World -> Prop} {ops : Array Oper} {i : Nat} {rest : List Nat} {k : List Item} {a : Act} {o : Oper} (ho : ops[i]? = some o)
 (g : OpG P ops i (fun a' w' => Goes P f R (.inRegion ops rest :: k) a' w') a w) : Goes P f R (.inRegion ops (i :: rest) :: k) a w := by
 unfold OpG at g
 simp only [ho] at g
 split at g
 · rename_i hw
   rcases g with ⟨v, w', hr, hk⟩ | ⟨w', hr, hk⟩ | ⟨gf, args, w', hr, hcl⟩
   · exact Goes.value ho hw hr hk
   · exact Goes.skip ho hw hr hk
   · exact Goes.call ho hw hr hcl (fun v w2 h => h)
 · rename_i hw
   exact Goes.unwanted ho (by simpa using hw) g
theorem Good.absurd {f : FuncId} {R : Value -> World -> Prop} {S : St} {ls : List Leaf} {a : Act} {ρ : Env} (h : ls = [.stop S.cs]) (r : SRel β ρ S a w) (hg : ∀ l ∈ ls, Good P β ρ f R l) : False :=
 hg (.stop S.cs) (by rw [h]; exact List.mem_cons_self) ρ (Env.Le.refl ρ) r.c
theorem retLeaf_ok {f : FuncId} {S : St} {ls : List Leaf} {a : Act} {R : Value -> World -> Prop} (h : retLeaf P f S = some ls) (r : SRel β ρ S a w) (hg : ∀ l ∈ ls, Good P β ρ f R l) (ht : S.todo = [] ∨ ∃ k, S.todo = .code .ret :: k) :
 Goes P f R S.todo a w := by
 unfold retLeaf at h
 split at h
 · rename_i fn hfn
   have hfn' : P.funcs[f]? = some fn := by simpa using hfn
   split at h
   · rename_i v hv
     cases h
     obtain ⟨x, hx, hrun⟩ := aResult_ok (P := P) hv r.t r.h
     exact Goes.done hfn' r.d hrun (hg _ List.mem_cons_self ρ w x (Env.Le.refl ρ) hx r.h r.c) ht
   · exact (Good.absurd (Option.some.inj h).symm r hg).elim
 · exact (Good.absurd (Option.some.inj h).symm r hg).elim
end
end Go.Vm
