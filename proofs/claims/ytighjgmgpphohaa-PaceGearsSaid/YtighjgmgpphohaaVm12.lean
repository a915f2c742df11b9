/-
  A machine for abstract states over the model (part 12): frames, what it is that one goes on to its end.
-/
import Derived.Test.YtighjgmgpphohaaVm11
namespace Go.Vm

abbrev Cs := List (BT × Bool)
def CRel (ρ : Env) (cs : Cs) : Prop := ∀ p ∈ cs, p.1.den ρ = some p.2
theorem CRel.mono {ρ ρ' : Env} (h : ρ.Le ρ') {cs : Cs} (c : CRel ρ cs) : CRel ρ' cs := fun p hp => BT.den_mono h (c p hp)

structure St where
  todo : List Item
  tmps : Tr AVal
  nt : Nat
  H : Heap
  nl : Nat
  cs : Cs

def TRel (ρ : Env) (t : Tr AVal) (tm : Array Value) : Prop := ∀ i v, t.get i = some v → ∃ x, v.den ρ = some x ∧ tm[i]? = some x
theorem TRel.mono {ρ ρ' : Env} (h : ρ.Le ρ') {t : Tr AVal} {tm : Array Value} (r : TRel ρ t tm) : TRel ρ' t tm := fun i v e =>
  let ⟨x, hx, g⟩ := r i v e; ⟨x, AVal.den_mono h v hx, g⟩

structure SRel (β : Base) (ρ : Env) (S : St) (a : Act) (w : World) : Prop where
  d : a.defers = []
  n : a.tmps.size = S.nt
  t : TRel ρ S.tmps a.tmps
  h : HRel β ρ S.H S.nl w
  c : CRel ρ S.cs

def evOf (t : Tr AVal) : Ev
  | .tmp i => t.get i
  | .const v => AVal.ofVal v
  | .global _ => none
  | .func f => some (.func (.func f) [] [])
theorem evOf_ok {ρ : Env} {t : Tr AVal} {a : Act} (r : TRel ρ t a.tmps) : EvOk ρ (evOf t) a.eval := by
  intro x v h
  cases x with
  | tmp i =>
    obtain ⟨y, hy, g⟩ := r i v h
    simp only [Act.eval]
    rw [hy, Array.getD_eq_getD_getElem?, g]; rfl
  | const u => exact AVal.ofVal_den h
  | global g => cases h
  | func f => cases h; rfl

def putT (t : Tr AVal) (nt : Nat) (dst : Option Tmp) (v : AVal) : Tr AVal :=
  match dst with
  | none => t
  | some d => cond (Nat.blt d nt) (t.set d v) (t.del d)
def unputT (t : Tr AVal) (dst : Option Tmp) : Tr AVal :=
  match dst with
  | none => t
  | some d => t.del d
theorem putT_ok {ρ : Env} {t : Tr AVal} {a : Act} {dst : Option Tmp} {v : AVal} {x : Value} {nt : Nat} (r : TRel ρ t a.tmps) (hn : a.tmps.size = nt) (hv : v.den ρ = some x) : TRel ρ (putT t nt dst v) (a.put dst x).tmps := by
  cases dst with
  | none => exact r
  | some d =>
    intro i u h
    simp only [putT] at h
    simp only [Act.put]
    cases hd : Nat.blt d nt with
    | true =>
      rw [hd] at h
      have hlt := nat_blt_lt hd
      rcases Tr.get_set h with ⟨rfl, rfl⟩ | ⟨hne, g⟩
      · exact ⟨x, hv, by rw [Array.getElem?_setIfInBounds]; simp; omega⟩
      · obtain ⟨y, hy, g'⟩ := r i u g
        exact ⟨y, hy, by rw [Array.getElem?_setIfInBounds_ne (Ne.symm hne)]; exact g'⟩
    | false =>
      rw [hd] at h
      obtain ⟨hne, g⟩ := Tr.get_del h
      obtain ⟨y, hy, g'⟩ := r i u g
      exact ⟨y, hy, by rw [Array.getElem?_setIfInBounds_ne (Ne.symm hne)]; exact g'⟩
theorem unputT_ok {ρ : Env} {t : Tr AVal} {a : Act} {dst : Option Tmp} (r : TRel ρ t a.tmps) (x : Value) : TRel ρ (unputT t dst) (a.put dst x).tmps := by
  cases dst with
  | none => exact r
  | some d =>
    intro i u h
    obtain ⟨hne, g⟩ := Tr.get_del h
    obtain ⟨y, hy, g'⟩ := r i u g
    exact ⟨y, hy, by simp only [Act.put]; rw [Array.getElem?_setIfInBounds_ne (Ne.symm hne)]; exact g'⟩
theorem put_size (a : Act) (dst : Option Tmp) (x : Value) : (a.put dst x).tmps.size = a.tmps.size := by cases dst <;> simp [Act.put]
theorem put_defers (a : Act) (dst : Option Tmp) (x : Value) : (a.put dst x).defers = a.defers := by cases dst <;> rfl

-- GOING ON TO THE END
def base (f : FuncId) : Frame := { (default : Frame) with fn := f, kind := .normal }
def Goes (P : Program) (f : FuncId) (R : Value → World → Prop) (todo : List Item) (a : Act) (w : World) : Prop :=
  ∀ cs, ∃ v w' fr, R v w' ∧ Steps P (lone ((base f).at a todo) cs w) (lone fr cs w') ∧ fr.fn = f ∧ fr.leaving P w' (.returned v)

section
variable {P : Program} {f : FuncId} {R : Value → World → Prop}
theorem Goes.step {todo todo' : List Item} {a a' : Act} {w w' : World} (h : ∀ cs, Steps P (lone ((base f).at a todo) cs w) (lone ((base f).at a' todo') cs w')) (g : Goes P f R todo' a' w') : Goes P f R todo a w :=
  fun cs => let ⟨v, w2, fr, r, s, e, l⟩ := g cs; ⟨v, w2, fr, r, (h cs).trans s, e, l⟩
theorem Goes.mono {todo : List Item} {a : Act} {w : World} {R' : Value → World → Prop} (g : Goes P f R todo a w) (h : ∀ v w, R v w → R' v w) : Goes P f R' todo a w :=
  fun cs => let ⟨v, w2, fr, r, s⟩ := g cs; ⟨v, w2, fr, h _ _ r, s⟩

theorem calls_of_goes {fn : Func} {c : Code} {args : Array Value} {w : World} (hf : P.funcs[f]? = some fn) (hb : fn.body = some c)
    (g : Goes P f R [.code c] ⟨args ++ Array.replicate (fn.ntmps - args.size) undef, []⟩ w) : Calls P f args w (fun e w' => ∃ v, e = .returned v ∧ R v w') := by
  intro cs
  have henter : Frame.enter P f args .normal = (base f).at ⟨args ++ Array.replicate (fn.ntmps - args.size) undef, []⟩ [.code c] := by
    simp [Frame.enter, Frame.at, hf, hb, base]
  obtain ⟨v, w', fr, r, s, e, l⟩ := g cs
  rw [henter]
  exact ⟨.returned v, w', fr, ⟨v, rfl, r⟩, s, e, l⟩

/-- The end of a body. -/
theorem Goes.done {fn : Func} {todo : List Item} {a : Act} {w : World} {v : Value} (hf : P.funcs[f]? = some fn) (hd : a.defers = []) (hr : (results fn a.tmps).run P w = .ok v w) (hR : R v w)
    (ht : todo = [] ∨ ∃ k, todo = .code .ret :: k) : Goes P f R todo a w := by
  intro cs
  rcases ht with rfl | ⟨k, rfl⟩
  · exact ⟨v, w, _, hR, .one step_end, rfl, rfl, hd, rfl, fn, hf, hr⟩
  · exact ⟨v, w, _, hR, .one step_ret, rfl, rfl, hd, rfl, fn, hf, hr⟩

/-- A piece of code that comes to its end. -/
theorem Goes.code {c : Code} {k : List Item} {a : Act} {w : World} (h : c.wp P (fun e a' w' => e = .normal ∧ Goes P f R k a' w') a w) : Goes P f R (.code c :: k) a w := by
  intro cs
  obtain ⟨e, a', w', ⟨rfl, g⟩, harr⟩ := h (base f) k cs
  obtain ⟨v, w2, fr, r, s, e, l⟩ := g cs
  exact ⟨v, w2, fr, r, Steps.trans harr s, e, l⟩

section ops
variable {ops : Array Oper} {i : Nat} {rest : List Nat} {k : List Item} {a : Act} {w w' : World} {o : Oper}
theorem Goes.value (ho : ops[i]? = some o) (hw : Region.wanted o (yielded ops a.tmps) = true) {v : Value} (hr : (execOp a.eval o).run P w = .ok (.value v) w')
    (g : Goes P f R (.inRegion ops rest :: k) (a.put o.dst v) w') : Goes P f R (.inRegion ops (i :: rest) :: k) a w := by
  refine Goes.step (fun cs => .one (step_lone_go ?_)) g
  have hg := stepG_op (P := P) (b := base f) (k := k) (cs := cs) (w := w) (rest := rest) ho hw
  have hfin : ∀ v, ((base f).at a (.inRegion ops (i :: rest) :: k)).finish v = (base f).at (a.put o.dst v) (.inRegion ops rest :: k) := by
    intro v; rw [Frame.finish_at, ho]; rfl
  rw [hg, ← hfin]; simp [stepG.apply, hr]
theorem Goes.skip (ho : ops[i]? = some o) (hw : Region.wanted o (yielded ops a.tmps) = true) (hr : (execOp a.eval o).run P w = .ok .skip w')
    (g : Goes P f R (.inRegion ops rest :: k) (a.put o.dst undef) w') : Goes P f R (.inRegion ops (i :: rest) :: k) a w := by
  refine Goes.step (fun cs => .one (step_lone_go ?_)) g
  have hg := stepG_op (P := P) (b := base f) (k := k) (cs := cs) (w := w) (rest := rest) ho hw
  have hfin : ∀ v, ((base f).at a (.inRegion ops (i :: rest) :: k)).finish v = (base f).at (a.put o.dst v) (.inRegion ops rest :: k) := by
    intro v; rw [Frame.finish_at, ho]; rfl
  rw [hg, ← hfin]; simp [stepG.apply, hr]
theorem Goes.unwanted (ho : ops[i]? = some o) (hw : Region.wanted o (yielded ops a.tmps) = false)
    (g : Goes P f R (.inRegion ops rest :: k) (a.put o.dst undef) w) : Goes P f R (.inRegion ops (i :: rest) :: k) a w := by
  refine Goes.step (fun cs => .one ?_) g
  have hs := step_op_skip (P := P) (b := base f) (a := a) (k := k) (cs := cs) (w := w) (ops := ops) (i := i) (rest := rest) (by simp [ho, hw])
  simpa [ho] using hs
theorem Goes.call (ho : ops[i]? = some o) (hw : Region.wanted o (yielded ops a.tmps) = true) {g : FuncId} {args : Array Value} (hr : (execOp a.eval o).run P w = .ok (.enter g args) w')
    {K : Value → World → Prop} (hc : Calls P g args w' (fun e w2 => ∃ v, e = .returned v ∧ K v w2)) (hk : ∀ v w2, K v w2 → Goes P f R (.inRegion ops rest :: k) (a.put o.dst v) w2) :
    Goes P f R (.inRegion ops (i :: rest) :: k) a w := by
  intro cs
  have hg := stepG_op (P := P) (b := base f) (k := k) (cs := cs) (w := w) (rest := rest) ho hw
  have hfin : ∀ v, ((base f).at a (.inRegion ops (i :: rest) :: k)).finish v = (base f).at (a.put o.dst v) (.inRegion ops rest :: k) := by
    intro v; rw [Frame.finish_at, ho]; rfl
  obtain ⟨e, w2, fr, ⟨v, rfl, hK⟩, hsteps, _, hleave⟩ := hc ((base f).at a (.inRegion ops (i :: rest) :: k) :: cs)
  have henter : Go.step P (lone ((base f).at a (.inRegion ops (i :: rest) :: k)) cs w) = Stepped.next (lone (Frame.enter P g args .normal) ((base f).at a (.inRegion ops (i :: rest) :: k) :: cs) w') :=
    step_lone_go (by rw [hg]; simp [stepG.apply, hr, Frame.at])
  obtain ⟨v', w3, fr', r, s, e, l⟩ := hk v w2 hK cs
  refine ⟨v', w3, fr', r, Steps.head henter (Steps.trans hsteps (Steps.head ?_ s)), e, l⟩
  rw [← hfin]; exact step_leave_returned hleave
end ops
end

-- WHAT A BODY HANDS BACK
def aResults (P : Program) (t : Tr AVal) (H : Heap) : List ResultVar → Option (List AVal)
  | [] => some []
  | .tmp i :: r => match t.get i, aResults P t H r with
    | some v, some l => some (v :: l)
    | _, _ => none
  | .cell i ty :: r => match t.get i, aResults P t H r with
    | some (.ptr l o), some l' => (aLoad P ty (.ptr l o) H).map fun v => v :: l'
    | _, _ => none
def aResult (P : Program) (fn : Func) (t : Tr AVal) (H : Heap) : Option AVal :=
  match aResults P t H fn.results.toList with
  | some [v] => some v
  | some l => some (.tuple l)
  | none => none
def resSem (tm : Array Value) : ResultVar → Sem Value
  | .tmp t => pure (tm.getD t undef)
  | .cell a t => do loadVar t (← asAddr (tm.getD a undef))
theorem results_eq (fn : Func) (tm : Array Value) : results fn tm = (do
    let vs ← fn.results.mapM (resSem tm)
    pure (if h : vs.size = 1 then vs[0] else .tuple vs) : Sem Value) := rfl
theorem asAddr_ptr (a : Addr) : asAddr (.pointer (some a)) = pure a := rfl
theorem aResults_ok {P : Program} {β : Base} {ρ : Env} {H : Heap} {nl : Nat} {w : World} {t : Tr AVal} {tm : Array Value} (r : TRel ρ t tm) (hr : HRel β ρ H nl w) : ∀ {l : List ResultVar} {vs : List AVal}, aResults P t H l = some vs →
    ∃ xs, AVal.denL ρ vs = some xs ∧ (l.mapM (resSem tm)).run P w = .ok xs w
  | [], vs, h => by cases h; exact ⟨[], rfl, rfl⟩
  | .tmp i :: rest, vs, h => by
    simp only [aResults] at h
    split at h
    · rename_i v l hv hl
      cases h
      obtain ⟨xs, hx, hrun⟩ := aResults_ok r hr hl
      obtain ⟨y, hy, g⟩ := r i v hv
      refine ⟨y :: xs, by simp only [AVal.denL, hy, hx], ?_⟩
      have e0 : tm.getD i undef = y := by rw [Array.getD_eq_getD_getElem?, g]; rfl
      simp only [List.mapM_cons, resSem, Sem.run_bind, Sem.run_pure, Result.andThen_ok, e0]
      rw [hrun]; rfl
    · cases h
  | .cell i ty :: rest, vs, h => by
    simp only [aResults] at h
    split at h
    · rename_i l o l' hv hl
      obtain ⟨u, hu, rfl⟩ := map_some h
      obtain ⟨xs, hx, hrun⟩ := aResults_ok r hr hl
      obtain ⟨y, hy, g⟩ := r i _ hv
      obtain ⟨z, hz, hzd⟩ := aLoad_ok (P := P) hu hy hr
      obtain ⟨b, o', rfl, _, _⟩ := den_ptr hy
      refine ⟨z :: xs, by simp only [AVal.denL, hzd, hx], ?_⟩
      have e0 : tm.getD i undef = .pointer (some ⟨b, o', none⟩) := by rw [Array.getD_eq_getD_getElem?, g]; rfl
      have hz' : (loadVar ty ⟨b, o', none⟩).run P w = .ok z w := by simpa [Instr.loadAt, Instr.sureAddr] using hz
      simp only [List.mapM_cons, resSem, Sem.run_bind, e0, asAddr_ptr, Sem.run_pure, Result.andThen_ok, hz']
      rw [hrun]; rfl
    · cases h
theorem aResult_ok {P : Program} {β : Base} {ρ : Env} {H : Heap} {nl : Nat} {w : World} {t : Tr AVal} {tm : Array Value} {fn : Func} {v : AVal} (h : aResult P fn t H = some v) (r : TRel ρ t tm) (hr : HRel β ρ H nl w) :
    ∃ x, v.den ρ = some x ∧ (results fn tm).run P w = .ok x w := by
  unfold aResult at h
  have key : ∀ vs, aResults P t H fn.results.toList = some vs → ∃ xs, AVal.denL ρ vs = some xs ∧ (results fn tm).run P w = .ok (if h : xs.toArray.size = 1 then xs.toArray[0] else .tuple xs.toArray) w := by
    intro vs hvs
    obtain ⟨xs, hx, hrun⟩ := aResults_ok (P := P) r hr hvs
    refine ⟨xs, hx, ?_⟩
    rw [results_eq, Array.mapM_eq_mapM_toList]
    simp only [Sem.run_bind, Sem.run_map, hrun]
    rfl
  split at h
  · rename_i u hvs
    cases h
    obtain ⟨xs, hx, hrun⟩ := key _ hvs
    simp only [AVal.denL] at hx
    split at hx
    · rename_i y l hy hl
      cases hl; cases hx
      exact ⟨y, hy, by rw [hrun]; rfl⟩
    · cases hx
  · rename_i l hne hvs
    cases h
    obtain ⟨xs, hx, hrun⟩ := key _ hvs
    refine ⟨.tuple xs.toArray, by simp [AVal.den, hx], ?_⟩
    rw [hrun]
    have hlen := AVal.denL_length hx
    have : ¬ (xs.toArray.size = 1) := by
      intro e
      simp at e
      rw [hlen] at e
      match l, e with
      | [u], _ => exact hne u rfl
    rw [dif_neg this]
  · cases h

end Go.Vm
