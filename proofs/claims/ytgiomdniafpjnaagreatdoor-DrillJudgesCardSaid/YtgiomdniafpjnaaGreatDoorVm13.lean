/-
  A machine for abstract states over the model (part 12): frames, what it is that one goes on to its end.
-/
import Derived.Test.YtgiomdniafpjnaaGreatDoorVm11
import Derived.OrdersIn
import Derived.RangeFuncRecord
section
namespace Go.Vm

abbrev Cs := List (BT × Bool)
def CRel (ρ : Env) (cs : Cs) : Prop := ∀ p ∈ cs, p.1.den ρ = some p.2
theorem CRel.mono {ρ ρ' : Env} (h : ρ.Le ρ') {cs : Cs} (c : CRel ρ cs) : CRel ρ' cs := fun p hp => BT.den_mono h (c p hp)

structure St where
  todo : List Item
  tmps : Tr AVal
  nt : Nat
  H : Heap
  nl : Nat
  cs : Cs
  /-- the blocks of loops over functions that are done when the function is left -/
  df : List Nat := []

def TRel (ρ : Env) (t : Tr AVal) (tm : Array Value) : Prop := ∀ i v, t.get i = some v → ∃ x, v.den ρ = some x ∧ tm[i]? = some x
theorem TRel.mono {ρ ρ' : Env} (h : ρ.Le ρ') {t : Tr AVal} {tm : Array Value} (r : TRel ρ t tm) : TRel ρ' t tm := fun i v e =>
  let ⟨x, hx, g⟩ := r i v e; ⟨x, AVal.den_mono h v hx, g⟩

def DRel (ρ : Env) : List Nat → List Deferred → Prop
  | [], ds => ds = []
  | d :: l, ds => ∃ b r, ρ.N d = some b ∧ ds = { target := .collected b, args := #[] } :: r ∧ DRel ρ l r
theorem DRel.mono {ρ ρ' : Env} (h : ρ.Le ρ') : ∀ {l : List Nat} {ds : List Deferred}, DRel ρ l ds → DRel ρ' l ds
  | [], _, e => e
  | _ :: _, _, ⟨b, r, hb, e, g⟩ => ⟨b, r, h.n _ _ hb, e, DRel.mono h g⟩
theorem DRel.congr {ρ ρ' : Env} : ∀ {l : List Nat} {ds : List Deferred}, (∀ d ∈ l, ρ'.N d = ρ.N d) → DRel ρ l ds → DRel ρ' l ds
  | [], _, _, e => e
  | d :: _, _, h, ⟨b, r, hb, e, g⟩ => ⟨b, r, (h d List.mem_cons_self).trans hb, e, DRel.congr (fun x hx => h x (List.mem_cons_of_mem _ hx)) g⟩

structure SRel (β : Base) (ρ : Env) (S : St) (a : Act) (w : World) : Prop where
  d : DRel ρ S.df a.defers
  n : a.tmps.size = S.nt
  t : TRel ρ S.tmps a.tmps
  h : HRel β ρ S.H S.nl w
  c : CRel ρ S.cs

def evOf (t : Tr AVal) : Ev
  | .tmp i => t.get i
  | .const v => AVal.ofVal v
  | .global _ => none
  | .func f => some (.func (.func f) [] [])
theorem evOf_ok {ρ : Env} {t : Tr AVal} {a : Act} (r : TRel ρ t a.tmps) : EvOk ρ (evOf t) a.eval := by
  intro x v h
  cases x with
  | tmp i =>
    obtain ⟨y, hy, g⟩ := r i v h
    simp only [Act.eval]
    rw [hy, Array.getD_eq_getD_getElem?, g]; rfl
  | const u => exact AVal.ofVal_den h
  | global g => cases h
  | func f => cases h; rfl

def putT (t : Tr AVal) (nt : Nat) (dst : Option Tmp) (v : AVal) : Tr AVal :=
  match dst with
  | none => t
  | some d => cond (Nat.blt d nt) (t.set d v) (t.del d)
def unputT (t : Tr AVal) (dst : Option Tmp) : Tr AVal :=
  match dst with
  | none => t
  | some d => t.del d
theorem putT_ok {ρ : Env} {t : Tr AVal} {a : Act} {dst : Option Tmp} {v : AVal} {x : Value} {nt : Nat} (r : TRel ρ t a.tmps) (hn : a.tmps.size = nt) (hv : v.den ρ = some x) : TRel ρ (putT t nt dst v) (a.put dst x).tmps := by
  cases dst with
  | none => exact r
  | some d =>
    intro i u h
    simp only [putT] at h
    simp only [Act.put]
    cases hd : Nat.blt d nt with
    | true =>
      rw [hd] at h
      have hlt := nat_blt_lt hd
      rcases Tr.get_set h with ⟨rfl, rfl⟩ | ⟨hne, g⟩
      · exact ⟨x, hv, by rw [Array.getElem?_setIfInBounds]; simp; omega⟩
      · obtain ⟨y, hy, g'⟩ := r i u g
        exact ⟨y, hy, by rw [Array.getElem?_setIfInBounds_ne (Ne.symm hne)]; exact g'⟩
    | false =>
      rw [hd] at h
      obtain ⟨hne, g⟩ := Tr.get_del h
      obtain ⟨y, hy, g'⟩ := r i u g
      exact ⟨y, hy, by rw [Array.getElem?_setIfInBounds_ne (Ne.symm hne)]; exact g'⟩
theorem unputT_ok {ρ : Env} {t : Tr AVal} {a : Act} {dst : Option Tmp} (r : TRel ρ t a.tmps) (x : Value) : TRel ρ (unputT t dst) (a.put dst x).tmps := by
  cases dst with
  | none => exact r
  | some d =>
    intro i u h
    obtain ⟨hne, g⟩ := Tr.get_del h
    obtain ⟨y, hy, g'⟩ := r i u g
    exact ⟨y, hy, by simp only [Act.put]; rw [Array.getElem?_setIfInBounds_ne (Ne.symm hne)]; exact g'⟩
theorem put_size (a : Act) (dst : Option Tmp) (x : Value) : (a.put dst x).tmps.size = a.tmps.size := by cases dst <;> simp [Act.put]
theorem put_defers (a : Act) (dst : Option Tmp) (x : Value) : (a.put dst x).defers = a.defers := by cases dst <;> rfl

-- GOING ON TO THE END
def base (f : FuncId) : Frame := { (default : Frame) with fn := f, kind := .normal }
def Goes (P : Program) (f : FuncId) (R : Value → World → Prop) (todo : List Item) (a : Act) (w : World) : Prop :=
  ∀ cs, ∃ v w' fr, R v w' ∧ Steps P (lone ((base f).at a todo) cs w) (lone fr cs w') ∧ fr.fn = f ∧ fr.leaving P w' (.returned v)

section
variable {P : Program} {f : FuncId} {R : Value → World → Prop}
theorem Goes.step {todo todo' : List Item} {a a' : Act} {w w' : World} (h : ∀ cs, Steps P (lone ((base f).at a todo) cs w) (lone ((base f).at a' todo') cs w')) (g : Goes P f R todo' a' w') : Goes P f R todo a w :=
  fun cs => let ⟨v, w2, fr, r, s, e, l⟩ := g cs; ⟨v, w2, fr, r, (h cs).trans s, e, l⟩
theorem Goes.mono {todo : List Item} {a : Act} {w : World} {R' : Value → World → Prop} (g : Goes P f R todo a w) (h : ∀ v w, R v w → R' v w) : Goes P f R' todo a w :=
  fun cs => let ⟨v, w2, fr, r, s⟩ := g cs; ⟨v, w2, fr, h _ _ r, s⟩

theorem calls_of_goes {fn : Func} {c : Code} {args : Array Value} {w : World} (hf : P.funcs[f]? = some fn) (hb : fn.body = some c)
    (g : Goes P f R [.code c] ⟨args ++ Array.replicate (fn.ntmps - args.size) undef, []⟩ w) : Calls P f args w (fun e w' => ∃ v, e = .returned v ∧ R v w') := by
  intro cs
  have henter : Frame.enter P f args .normal = (base f).at ⟨args ++ Array.replicate (fn.ntmps - args.size) undef, []⟩ [.code c] := by
    simp [Frame.enter, Frame.at, hf, hb, base]
  obtain ⟨v, w', fr, r, s, e, l⟩ := g cs
  rw [henter]
  exact ⟨.returned v, w', fr, ⟨v, rfl, r⟩, s, e, l⟩

/-- The blocks of loops over functions are done with. -/
inductive Shut (P : Program) : List Deferred → World → World → Prop
  | nil (w : World) : Shut P [] w w
  | cons {b : Nat} {ds : List Deferred} {w w1 w2 : World} : (Instr.takeDeferred b).run P w = .ok [] w1 → Shut P ds w1 w2 → Shut P ({ target := .collected b, args := #[] } :: ds) w w2
theorem Shut.steps {ds : List Deferred} {w w' : World} (h : Shut P ds w w') : ∀ (fr : Frame) (cs : List Frame), fr.mode = .returning → Steps P (lone { fr with defers := ds } cs w) (lone { fr with defers := [] } cs w') := by
  induction h with
  | nil w => exact fun fr cs _ => Steps.refl _ _
  | cons hr _ ih =>
    intro fr cs hm
    refine Steps.head (step_lone_go ?_) (ih fr cs hm)
    simp [stepG, unwind, hm, Sem.runT_eq, hr]
/-- The end of a body. -/
theorem Goes.done {fn : Func} {todo : List Item} {a : Act} {w w' : World} {v : Value} (hf : P.funcs[f]? = some fn) (hd : Shut P a.defers w w') (hr : (results fn a.tmps).run P w' = .ok v w') (hR : R v w')
    (ht : todo = [] ∨ ∃ k, todo = .code .ret :: k) : Goes P f R todo a w := by
  intro cs
  have hs := hd.steps { (base f).at a todo with mode := .returning } cs rfl
  rcases ht with rfl | ⟨k, rfl⟩
  · exact ⟨v, w', _, hR, Steps.head step_end hs, rfl, rfl, rfl, rfl, fn, hf, hr⟩
  · exact ⟨v, w', _, hR, Steps.head step_ret hs, rfl, rfl, rfl, rfl, fn, hf, hr⟩

/-- A piece of code that comes to its end. -/
theorem Goes.code {c : Code} {k : List Item} {a : Act} {w : World} (h : c.wp P (fun e a' w' => e = .normal ∧ Goes P f R k a' w') a w) : Goes P f R (.code c :: k) a w := by
  intro cs
  obtain ⟨e, a', w', ⟨rfl, g⟩, harr⟩ := h (base f) k cs
  obtain ⟨v, w2, fr, r, s, e, l⟩ := g cs
  exact ⟨v, w2, fr, r, Steps.trans harr s, e, l⟩

end

-- ALL THIS OF A ROUND OF A LOOP OVER A FUNCTION, TOO
def baseR (f : FuncId) (ro : Option Nat) : Frame := { (default : Frame) with fn := f, kind := .normal, roundOf := ro }
def GoesX (P : Program) (f : FuncId) (ro : Option Nat) (R : Value → World → Prop) (todo : List Item) (a : Act) (w : World) : Prop :=
  match ro with
  | none => Goes P f R todo a w
  | some l => ∀ c cs, ∃ v w', R v w' ∧ Steps P (lone ((baseR f (some l)).atR a todo) (c :: cs) w) (lone (c.finish v) cs w')
/-- A round of the loop over a function that lies at b. -/
def RoundTo (P : Program) (b : Nat) (xs : Array Value) (w : World) (K : Value → World → Prop) : Prop :=
  ∃ f tmps asg body, (Instr.yield b xs).run P w = .ok (.round b f tmps asg body) w ∧
    ∀ c cs, ∃ v w', K v w' ∧ Steps P (lone (Frame.round b f tmps asg body .normal) (c :: cs) w) (lone (c.finish v) cs w')

section
variable {P : Program} {f : FuncId} {ro : Option Nat} {R : Value → World → Prop}
theorem GoesX.step {todo todo' : List Item} {a a' : Act} {w w' : World} (h : ∀ cs, Steps P (lone ((baseR f ro).atR a todo) cs w) (lone ((baseR f ro).atR a' todo') cs w')) (g : GoesX P f ro R todo' a' w') : GoesX P f ro R todo a w := by
  cases ro with
  | none => exact Goes.step h g
  | some l => exact fun c cs => let ⟨v, w2, r, s⟩ := g c cs; ⟨v, w2, r, (h (c :: cs)).trans s⟩
theorem GoesX.one {todo todo' : List Item} {a a' : Act} {w w' : World} (h : ∀ cs, Go.step P (lone ((baseR f ro).atR a todo) cs w) = Stepped.next (lone ((baseR f ro).atR a' todo') cs w')) (g : GoesX P f ro R todo' a' w') : GoesX P f ro R todo a w :=
  GoesX.step (fun cs => Steps.one (h cs)) g

def putV : List Tmp → List Value → Array Value → Array Value
  | p :: ps, x :: xs, tm => putV ps xs (tm.setIfInBounds p x)
  | _, _, tm => tm
theorem not_defer {g : Operand → Value} {o : Oper} {x : Next} {w w' : World} (h : (execOp g o).run P w = .ok x w') (hx : ∀ d, x ≠ .defer d) : ∀ c, o.op ≠ .defer c := by
  intro c e
  simp only [execOp, e, Sem.run_bind] at h
  cases hr : (resolve g c o.type).run P w with
  | ok d w1 =>
    rw [hr] at h
    simp only [Result.andThen, Sem.run_pure] at h
    injection h with h1 h2
    exact hx d h1.symm
  | halt e' w1 => rw [hr] at h; simp only [Result.andThen] at h; cases h

section ops
variable {ops : Array Oper} {i : Nat} {rest : List Nat} {k : List Item} {a : Act} {w w' : World} {o : Oper}
theorem fin_op (ho : ops[i]? = some o) (v : Value) : ((baseR f ro).atR a (.inRegion ops (i :: rest) :: k)).finish v = (baseR f ro).atR (a.put o.dst v) (.inRegion ops rest :: k) := by
  rw [Frame.finish_atR, ho]; rfl
theorem stepX_op (ho : ops[i]? = some o) (hw : Region.wanted o (yielded ops a.tmps) = true) {x : Next} (hr : (execOp a.eval o).run P w = .ok x w') (hx : ∀ d, x ≠ .defer d) (cs : List Frame) :
    stepG P true { frame := (baseR f ro).atR a (.inRegion ops (i :: rest) :: k), callers := cs, status := .running, dying := none } w =
      stepG.apply P true ((baseR f ro).atR a (.inRegion ops (i :: rest) :: k)) cs none (execOp a.eval o) w := by
  rw [stepGR_op ho hw, Oper.semAt_eq _ _ _ (not_defer hr hx)]
theorem GoesX.value (ho : ops[i]? = some o) (hw : Region.wanted o (yielded ops a.tmps) = true) {v : Value} (hr : (execOp a.eval o).run P w = .ok (.value v) w')
    (g : GoesX P f ro R (.inRegion ops rest :: k) (a.put o.dst v) w') : GoesX P f ro R (.inRegion ops (i :: rest) :: k) a w := by
  refine GoesX.one (fun cs => step_lone_go ?_) g
  rw [stepX_op ho hw hr (fun d h => by cases h), ← fin_op (rest := rest) ho]; simp [stepG.apply, hr]
theorem GoesX.skip (ho : ops[i]? = some o) (hw : Region.wanted o (yielded ops a.tmps) = true) (hr : (execOp a.eval o).run P w = .ok .skip w')
    (g : GoesX P f ro R (.inRegion ops rest :: k) (a.put o.dst undef) w') : GoesX P f ro R (.inRegion ops (i :: rest) :: k) a w := by
  refine GoesX.one (fun cs => step_lone_go ?_) g
  rw [stepX_op ho hw hr (fun d h => by cases h), ← fin_op (rest := rest) ho]; simp [stepG.apply, hr]
theorem GoesX.unwanted (ho : ops[i]? = some o) (hw : Region.wanted o (yielded ops a.tmps) = false)
    (g : GoesX P f ro R (.inRegion ops rest :: k) (a.put o.dst undef) w) : GoesX P f ro R (.inRegion ops (i :: rest) :: k) a w := by
  refine GoesX.one (fun cs => ?_) g
  have hs := stepR_op_skip (P := P) (b := baseR f ro) (a := a) (k := k) (cs := cs) (w := w) (ops := ops) (i := i) (rest := rest) (by simp [ho, hw])
  simpa [ho] using hs
theorem calls_steps {g : FuncId} {args : Array Value} {K : Value → World → Prop} (hc : Calls P g args w (fun e w2 => ∃ v, e = .returned v ∧ K v w2)) (c : Frame) (cs : List Frame) :
    ∃ v w2, K v w2 ∧ Steps P (lone (Frame.enter P g args .normal) (c :: cs) w) (lone (c.finish v) cs w2) := by
  obtain ⟨e, w2, fr, ⟨v, rfl, hK⟩, hsteps, _, hleave⟩ := hc (c :: cs)
  exact ⟨v, w2, hK, Steps.trans hsteps (Steps.one (step_leave_returned hleave))⟩
/-- Another frame comes, and hands a value back. -/
theorem GoesX.into {m : List Frame → Machine} (ho : ops[i]? = some o) (h1 : ∀ cs, Go.step P (lone ((baseR f ro).atR a (.inRegion ops (i :: rest) :: k)) cs w) = Stepped.next (m ((baseR f ro).atR a (.inRegion ops (i :: rest) :: k) :: cs)))
    {K : Value → World → Prop} (hc : ∀ c cs, ∃ v w2, K v w2 ∧ Steps P (m (c :: cs)) (lone (c.finish v) cs w2)) (hk : ∀ v w2, K v w2 → GoesX P f ro R (.inRegion ops rest :: k) (a.put o.dst v) w2) :
    GoesX P f ro R (.inRegion ops (i :: rest) :: k) a w := by
  have key : ∀ cs, ∃ v w2, K v w2 ∧ Steps P (lone ((baseR f ro).atR a (.inRegion ops (i :: rest) :: k)) cs w) (lone ((baseR f ro).atR (a.put o.dst v) (.inRegion ops rest :: k)) cs w2) := fun cs => by
    obtain ⟨v, w2, hK, hs⟩ := hc ((baseR f ro).atR a (.inRegion ops (i :: rest) :: k)) cs
    rw [fin_op ho] at hs
    exact ⟨v, w2, hK, Steps.head (h1 cs) hs⟩
  cases ro with
  | none =>
    intro cs
    obtain ⟨v, w2, hK, hs⟩ := key cs
    obtain ⟨v', w3, fr', r, s, e, l⟩ := hk v w2 hK cs
    exact ⟨v', w3, fr', r, Steps.trans hs s, e, l⟩
  | some l =>
    intro c cs
    obtain ⟨v, w2, hK, hs⟩ := key (c :: cs)
    obtain ⟨v', w3, r, s⟩ := hk v w2 hK c cs
    exact ⟨v', w3, r, Steps.trans hs s⟩
theorem GoesX.call (ho : ops[i]? = some o) (hw : Region.wanted o (yielded ops a.tmps) = true) {g : FuncId} {args : Array Value} (hr : (execOp a.eval o).run P w = .ok (.enter g args) w')
    {K : Value → World → Prop} (hc : Calls P g args w' (fun e w2 => ∃ v, e = .returned v ∧ K v w2)) (hk : ∀ v w2, K v w2 → GoesX P f ro R (.inRegion ops rest :: k) (a.put o.dst v) w2) :
    GoesX P f ro R (.inRegion ops (i :: rest) :: k) a w :=
  GoesX.into (m := fun cs => lone (Frame.enter P g args .normal) cs w') ho (fun cs => step_lone_go (by rw [stepX_op ho hw hr (fun d h => by cases h)]; simp [stepG.apply, hr, Frame.atR])) (calls_steps hc) hk
theorem GoesX.round (ho : ops[i]? = some o) (hw : Region.wanted o (yielded ops a.tmps) = true) {l : Nat} {g : FuncId} {tmps : Array Value} {asg body : Code} (hr : (execOp a.eval o).run P w = .ok (.round l g tmps asg body) w')
    {K : Value → World → Prop} (hc : ∀ c cs, ∃ v w2, K v w2 ∧ Steps P (lone (Frame.round l g tmps asg body .normal) (c :: cs) w') (lone (c.finish v) cs w2)) (hk : ∀ v w2, K v w2 → GoesX P f ro R (.inRegion ops rest :: k) (a.put o.dst v) w2) :
    GoesX P f ro R (.inRegion ops (i :: rest) :: k) a w :=
  GoesX.into (m := fun cs => lone (Frame.round l g tmps asg body .normal) cs w') ho (fun cs => step_lone_go (by rw [stepX_op ho hw hr (fun d h => by cases h)]; simp [stepG.apply, hr, Frame.atR])) hc hk
end ops

/-- No fence, but for the kind of frame. -/
def wideR (ro : Option Nat) : Fence := { Fence.wide with round := ro }
theorem stepsIn_wideR {m m' : Machine} : StepsIn (Machine.fenced P (wideR ro)) P m m' ↔ Steps P m m' := stepsIn_wide
theorem room_wideR (n : Nat) : (wideR ro).room n := room_wide n
/-- A piece of code that comes to its end. -/
theorem GoesX.code {c : Code} {k : List Item} {a : Act} {w : World} {n : Nat} (h : c.wpIn (wideR ro) n P (fun e a' w' => e = .normal ∧ GoesX P f ro R k a' w') a w) : GoesX P f ro R (.code c :: k) a w := by
  have key : ∀ cs, ∃ a' w', GoesX P f ro R k a' w' ∧ Steps P (lone ((baseR f ro).atR a (.code c :: k)) cs w) (lone ((baseR f ro).atR a' k) cs w') := fun cs => by
    obtain ⟨e, a', w', ⟨rfl, g⟩, harr⟩ := h (baseR f ro) k cs rfl trivial (room_wideR _)
    exact ⟨a', w', g, stepsIn_wideR.1 harr⟩
  cases ro with
  | none =>
    intro cs
    obtain ⟨a', w', g, hs⟩ := key cs
    obtain ⟨v, w2, fr, r, s, e, l⟩ := g cs
    exact ⟨v, w2, fr, r, Steps.trans hs s, e, l⟩
  | some l =>
    intro c0 cs
    obtain ⟨a', w', g, hs⟩ := key (c0 :: cs)
    obtain ⟨v, w2, r, s⟩ := g c0 cs
    exact ⟨v, w2, r, Steps.trans hs s⟩

/-- A loop over a function: the function is called, its rounds come and go, what is behind it goes on. -/
theorem GoesX.rangeFunc {g : Operand} {ps : Array Tmp} {asg body : Code} {k : List Item} {a : Act} {w w1 w1' w2 : World} {l : Nat} {mark : List Deferred} {d : Deferred} {gf : FuncId} {args : Array Value}
    (he : (Instr.enterLoop f a.tmps ps asg body ro).run P w = .ok (l, mark) w1) (hres : (resolve a.eval (rangeCall g l) 0).run P w1 = .ok d w1') (hinv : (invoke d.target d.args).run P w1' = .ok (.enter gf args) w2)
    {K : Value → World → Prop} (hc : Calls P gf args w2 (fun e w3 => ∃ v, e = .returned v ∧ K v w3))
    (hk : ∀ v w3, K v w3 → ∃ (jump : Option Code) (w4 : World), (Instr.endLoop l).run P w3 = .ok jump w4 ∧ GoesX P f ro R ((jump.map Item.code).toList ++ k) { a with defers := mark ++ a.defers } w4) : GoesX P f ro R (.code (.rangeFunc g ps asg body) :: k) a w := by
  have key : ∀ cs, ∃ (jump : Option Code) (w4 : World), GoesX P f ro R ((jump.map Item.code).toList ++ k) { a with defers := mark ++ a.defers } w4 ∧
      Steps P (lone ((baseR f ro).atR a (.code (.rangeFunc g ps asg body) :: k)) cs w) (lone ((baseR f ro).atR { a with defers := mark ++ a.defers } ((jump.map Item.code).toList ++ k)) cs w4) := fun cs => by
    obtain ⟨v, w3, hK, hs⟩ := calls_steps hc ((baseR f ro).atR { a with defers := mark ++ a.defers } (.inRangeFunc l :: k)) cs
    obtain ⟨jump, w4, hend, hg⟩ := hk v w3 hK
    rw [finish_atR_inRangeFunc] at hs
    exact ⟨jump, w4, hg, Steps.head (stepR_rangeFunc he hres hinv) (Steps.trans hs (Steps.one (stepR_endRangeFunc hend)))⟩
  cases ro with
  | none =>
    intro cs
    obtain ⟨j, w', g, hs⟩ := key cs
    obtain ⟨v, w2, fr, r, s, e, l⟩ := g cs
    exact ⟨v, w2, fr, r, Steps.trans hs s, e, l⟩
  | some l =>
    intro c0 cs
    obtain ⟨j, w', g, hs⟩ := key (c0 :: cs)
    obtain ⟨v, w2, r, s⟩ := g c0 cs
    exact ⟨v, w2, r, Steps.trans hs s⟩
/-- A round begins. -/
theorem GoesX.begin {l : Nat} {k : List Item} {a : Act} {w w' : World} (hr : (Instr.beginRound l).run P w = .ok () w') (g : GoesX P f (some l) R k a w') : GoesX P f (some l) R (.beginRound :: k) a w :=
  GoesX.one (fun _ => stepR_beginRound rfl hr) g
/-- A round ends. -/
theorem GoesX.ends {l : Nat} {a : Act} {w w' : World} {v : Value} {todo : List Item} (hR : R v w') (j : Option Code) (hr : (Instr.endRound l j).run P w = .ok v w')
    (ht : (todo = [] ∧ j = none) ∨ (∃ k, todo = .code .ret :: k ∧ j = some .ret) ∨ (∃ id k, todo = .code (.exit id) :: k ∧ j = some (.exit id) ∧ exitTo id k = none) ∨ (∃ t k, todo = .code (.goto t) :: k ∧ j = some (.goto t) ∧ gotoIn t k = none)) :
    GoesX P f (some l) R todo a w := by
  intro c cs
  refine ⟨v, w', hR, Steps.one ?_⟩
  rcases ht with ⟨rfl, rfl⟩ | ⟨k, rfl, rfl⟩ | ⟨id, k, rfl, rfl, hx⟩ | ⟨t, k, rfl, rfl, hx⟩
  · exact stepR_round_end rfl rfl hr
  · exact stepR_round_ret rfl rfl hr
  · exact stepR_round_exit rfl rfl hx hr
  · exact stepR_round_goto rfl rfl hx hr
end

-- WHAT A BODY HANDS BACK
def aResults (P : Program) (t : Tr AVal) (H : Heap) : List ResultVar → Option (List AVal)
  | [] => some []
  | .tmp i :: r => match t.get i, aResults P t H r with
    | some v, some l => some (v :: l)
    | _, _ => none
  | .cell i ty :: r => match t.get i, aResults P t H r with
    | some (.ptr l o), some l' => (aLoad P ty (.ptr l o) H).map fun v => v :: l'
    | _, _ => none
def aResult (P : Program) (fn : Func) (t : Tr AVal) (H : Heap) : Option AVal :=
  match aResults P t H fn.results.toList with
  | some [v] => some v
  | some l => some (.tuple l)
  | none => none
def resSem (tm : Array Value) : ResultVar → Sem Value
  | .tmp t => pure (tm.getD t undef)
  | .cell a t => do loadVar t (← asAddr (tm.getD a undef))
theorem results_eq (fn : Func) (tm : Array Value) : results fn tm = (do
    let vs ← fn.results.mapM (resSem tm)
    pure (if h : vs.size = 1 then vs[0] else .tuple vs) : Sem Value) := rfl
theorem asAddr_ptr (a : Addr) : asAddr (.pointer (some a)) = pure a := rfl
theorem aResults_ok {P : Program} {β : Base} {ρ : Env} {H : Heap} {nl : Nat} {w : World} {t : Tr AVal} {tm : Array Value} (r : TRel ρ t tm) (hr : HRel β ρ H nl w) : ∀ {l : List ResultVar} {vs : List AVal}, aResults P t H l = some vs →
    ∃ xs, AVal.denL ρ vs = some xs ∧ (l.mapM (resSem tm)).run P w = .ok xs w
  | [], vs, h => by cases h; exact ⟨[], rfl, rfl⟩
  | .tmp i :: rest, vs, h => by
    simp only [aResults] at h
    split at h
    · rename_i v l hv hl
      cases h
      obtain ⟨xs, hx, hrun⟩ := aResults_ok r hr hl
      obtain ⟨y, hy, g⟩ := r i v hv
      refine ⟨y :: xs, by simp only [AVal.denL, hy, hx], ?_⟩
      have e0 : tm.getD i undef = y := by rw [Array.getD_eq_getD_getElem?, g]; rfl
      simp only [List.mapM_cons, resSem, Sem.run_bind, Sem.run_pure, Result.andThen_ok, e0]
      rw [hrun]; rfl
    · cases h
  | .cell i ty :: rest, vs, h => by
    simp only [aResults] at h
    split at h
    · rename_i l o l' hv hl
      obtain ⟨u, hu, rfl⟩ := map_some h
      obtain ⟨xs, hx, hrun⟩ := aResults_ok r hr hl
      obtain ⟨y, hy, g⟩ := r i _ hv
      obtain ⟨z, hz, hzd⟩ := aLoad_ok (P := P) hu hy hr
      obtain ⟨b, o', rfl, _, _⟩ := den_ptr hy
      refine ⟨z :: xs, by simp only [AVal.denL, hzd, hx], ?_⟩
      have e0 : tm.getD i undef = .pointer (some ⟨b, o', none⟩) := by rw [Array.getD_eq_getD_getElem?, g]; rfl
      have hz' : (loadVar ty ⟨b, o', none⟩).run P w = .ok z w := by simpa [Instr.loadAt, Instr.sureAddr] using hz
      simp only [List.mapM_cons, resSem, Sem.run_bind, e0, asAddr_ptr, Sem.run_pure, Result.andThen_ok, hz']
      rw [hrun]; rfl
    · cases h
theorem aResult_ok {P : Program} {β : Base} {ρ : Env} {H : Heap} {nl : Nat} {w : World} {t : Tr AVal} {tm : Array Value} {fn : Func} {v : AVal} (h : aResult P fn t H = some v) (r : TRel ρ t tm) (hr : HRel β ρ H nl w) :
    ∃ x, v.den ρ = some x ∧ (results fn tm).run P w = .ok x w := by
  unfold aResult at h
  have key : ∀ vs, aResults P t H fn.results.toList = some vs → ∃ xs, AVal.denL ρ vs = some xs ∧ (results fn tm).run P w = .ok (if h : xs.toArray.size = 1 then xs.toArray[0] else .tuple xs.toArray) w := by
    intro vs hvs
    obtain ⟨xs, hx, hrun⟩ := aResults_ok (P := P) r hr hvs
    refine ⟨xs, hx, ?_⟩
    rw [results_eq, Array.mapM_eq_mapM_toList]
    simp only [Sem.run_bind, Sem.run_map, hrun]
    rfl
  split at h
  · rename_i u hvs
    cases h
    obtain ⟨xs, hx, hrun⟩ := key _ hvs
    simp only [AVal.denL] at hx
    split at hx
    · rename_i y l hy hl
      cases hl; cases hx
      exact ⟨y, hy, by rw [hrun]; rfl⟩
    · cases hx
  · rename_i l hne hvs
    cases h
    obtain ⟨xs, hx, hrun⟩ := key _ hvs
    refine ⟨.tuple xs.toArray, by simp [AVal.den, hx], ?_⟩
    rw [hrun]
    have hlen := AVal.denL_length hx
    have : ¬ (xs.toArray.size = 1) := by
      intro e
      simp at e
      rw [hlen] at e
      match l, e with
      | [u], _ => exact hne u rfl
    rw [dif_neg this]
  · cases h

end Go.Vm
end

/-
  A machine for abstract states over the model (part 13): alike values; regions whose order is drawn.
-/
section
namespace Go.Vm

-- ALIKE
mutual
def AVal.beq : AVal → AVal → Bool
  | .bool a, .bool b => BT.beq a b
  | .int k a, .int k' b => decide (k = k') && IT.beq a b
  | .str a, .str b => ST.beq a b
  | .ptrNil, .ptrNil | .sliceNil, .sliceNil | .mapNil, .mapNil | .nilFunc, .nilFunc | .nilIface, .nilIface => true
  | .ptr l o, .ptr l' o' => Nat.beq l l' && IT.beq o o'
  | .slice l a b c, .slice l' a' b' c' => Nat.beq l l' && IT.beq a a' && IT.beq b b' && IT.beq c c'
  | .map l, .map l' => Nat.beq l l'
  | .func f a b, .func f' a' b' => decide (f = f') && AVal.beqL a a' && AVal.beqL b b'
  | .iface t v, .iface t' v' => Nat.beq t t' && AVal.beq v v'
  | .agg a, .agg b => AVal.beqL a b
  | .tuple a, .tuple b => AVal.beqL a b
  | .var i, .var j => Nat.beq i j
  | .yld i, .yld j => Nat.beq i j
  | _, _ => false
def AVal.beqL : List AVal → List AVal → Bool
  | [], [] => true
  | a :: r, b :: s => AVal.beq a b && AVal.beqL r s
  | _, _ => false
end
mutual
theorem AVal.beq_eq : ∀ (a b : AVal), AVal.beq a b = true → a = b
  | .bool a, b, h => by cases b <;> simp [AVal.beq] at h; rw [BT.beq_eq h]
  | .int k a, b, h => by cases b <;> simp [AVal.beq] at h; rw [h.1, IT.beq_eq h.2]
  | .str a, b, h => by cases b <;> simp [AVal.beq] at h; rw [ST.beq_eq h]
  | .ptrNil, b, h => by cases b <;> first | rfl | simp [AVal.beq] at h
  | .sliceNil, b, h => by cases b <;> first | rfl | simp [AVal.beq] at h
  | .mapNil, b, h => by cases b <;> first | rfl | simp [AVal.beq] at h
  | .nilFunc, b, h => by cases b <;> first | rfl | simp [AVal.beq] at h
  | .nilIface, b, h => by cases b <;> first | rfl | simp [AVal.beq] at h
  | .ptr l o, b, h => by cases b <;> simp [AVal.beq] at h; rw [h.1, IT.beq_eq h.2]
  | .slice l x y z, b, h => by
    cases b <;> simp [AVal.beq] at h
    rw [h.1.1.1, IT.beq_eq h.1.1.2, IT.beq_eq h.1.2, IT.beq_eq h.2]
  | .map l, b, h => by cases b <;> simp [AVal.beq] at h; rw [h]
  | .func f x y, b, h => by
    cases b <;> simp [AVal.beq] at h
    rw [h.1.1, AVal.beqL_eq _ _ h.1.2, AVal.beqL_eq _ _ h.2]
  | .iface t v, b, h => by cases b <;> simp [AVal.beq] at h; rw [h.1, AVal.beq_eq _ _ h.2]
  | .agg l, b, h => by cases b <;> simp [AVal.beq] at h; rw [AVal.beqL_eq _ _ h]
  | .tuple l, b, h => by cases b <;> simp [AVal.beq] at h; rw [AVal.beqL_eq _ _ h]
  | .var i, b, h => by cases b <;> simp [AVal.beq] at h; rw [h]
  | .yld i, b, h => by cases b <;> simp [AVal.beq] at h; rw [h]
theorem AVal.beqL_eq : ∀ (a b : List AVal), AVal.beqL a b = true → a = b
  | [], [], _ => rfl
  | [], _ :: _, h => by simp [AVal.beqL] at h
  | _ :: _, [], h => by simp [AVal.beqL] at h
  | a :: r, b :: s, h => by
    simp [AVal.beqL] at h
    rw [AVal.beq_eq _ _ h.1, AVal.beqL_eq _ _ h.2]
end

-- ANY ORDER
section
variable {P : Program} {ops : Array Oper} {md : Region.Mode}

def OpG (P : Program) (ops : Array Oper) (i : Nat) (K : Act → World → Prop) (a : Act) (w : World) : Prop :=
  match ops[i]? with
  | none => K a w
  | some o => if Region.wanted o (yielded ops a.tmps) then
      (∃ v w', (execOp a.eval o).run P w = .ok (.value v) w' ∧ K (a.put o.dst v) w') ∨
      (∃ w', (execOp a.eval o).run P w = .ok .skip w' ∧ K (a.put o.dst undef) w') ∨
      (∃ g args w', (execOp a.eval o).run P w = .ok (.enter g args) w' ∧ Calls P g args w' fun e w2 => ∃ v, e = .returned v ∧ K (a.put o.dst v) w2) ∨
      (∃ l g tmps asg body w', (execOp a.eval o).run P w = .ok (.round l g tmps asg body) w' ∧ ∀ c cs, ∃ v w2, K (a.put o.dst v) w2 ∧ Steps P (lone (Frame.round l g tmps asg body .normal) (c :: cs) w') (lone (c.finish v) cs w2))
    else K (a.put o.dst undef) w
theorem OpG.mono {i : Nat} {K K' : Act → World → Prop} {a : Act} {w : World} (h : ∀ a w, K a w → K' a w) (g : OpG P ops i K a w) : OpG P ops i K' a w := by
  unfold OpG at *
  split
  · rename_i ho; rw [ho] at g; exact h _ _ g
  · rename_i o ho
    simp only [ho] at g
    split
    · rename_i hw
      rw [if_pos hw] at g
      rcases g with ⟨v, w', r, k⟩ | ⟨w', r, k⟩ | ⟨gf, args, w', r, c⟩ | ⟨l, gf, tm, asg, bd, w', r, c⟩
      · exact .inl ⟨v, w', r, h _ _ k⟩
      · exact .inr (.inl ⟨w', r, h _ _ k⟩)
      · exact .inr (.inr (.inl ⟨gf, args, w', r, c.mono fun e w2 ⟨v, hv, k⟩ => ⟨v, hv, h _ _ k⟩⟩))
      · exact .inr (.inr (.inr ⟨l, gf, tm, asg, bd, w', r, fun c0 cs => let ⟨v, w2, k, s⟩ := c c0 cs; ⟨v, w2, h _ _ k, s⟩⟩))
    · rename_i hw
      rw [if_neg hw] at g
      exact h _ _ g
theorem OpG.wp {ro : Option Nat} {n : Nat} {i : Nat} {K : Act → World → Prop} {a : Act} {w : World} {Q : Exit → Act → World → Prop} (g : OpG P ops i K a w) : wpOpIn (wideR ro) n P ops Q i K a w := by
  unfold OpG at g
  unfold wpOpIn
  split
  · rename_i ho; rw [ho] at g; exact g
  · rename_i o ho
    simp only [ho] at g
    split
    · rename_i hw
      rw [if_pos hw] at g
      have hn : (wideR ro).depth.isSome = true → 1 ≤ n := fun h => by cases h
      refine ⟨fun _ _ => trivial, ?_⟩
      rcases g with ⟨v, w', r, k⟩ | ⟨w', r, k⟩ | ⟨gf, args, w', r, c⟩ | ⟨l, gf, tm, asg, bd, w', r, c⟩
      · rw [Oper.semAt_eq _ _ _ (not_defer r (fun d h => by cases h)), r]; exact k
      · rw [Oper.semAt_eq _ _ _ (not_defer r (fun d h => by cases h)), r]; exact k
      · rw [Oper.semAt_eq _ _ _ (not_defer r (fun d h => by cases h)), r]
        refine ⟨hn, ?_⟩
        refine CallsIn.mono (callsIn_wide (n := n - 1).2 c) (fun e w2 ⟨v, hv, k⟩ => ?_)
        subst hv; exact k
      · rw [Oper.semAt_eq _ _ _ (not_defer r (fun d h => by cases h)), r]
        refine ⟨hn, trivial, fun c0 cs _ => ?_⟩
        obtain ⟨v, w2, k, s⟩ := c c0 cs
        exact ⟨.returned v, w2, k, stepsIn_wideR.2 s⟩
    · rename_i hw
      rw [if_neg hw] at g
      exact ⟨fun _ _ => trivial, g⟩

def AnyG (P : Program) (md : Region.Mode) (ops : Array Oper) (Q : Act → World → Prop) (C : Array Bool → World → Prop) : Nat → Array Bool → Act → World → Prop
  | 0, listed, a, w => Region.ready md ops listed = [] ∧ Q a w
  | fuel + 1, listed, a, w => (Region.ready md ops listed = [] → Q a w) ∧
    ∀ i ∈ Region.ready md ops listed, OpG P ops i (fun a' w' => C (listed.setIfInBounds i true) w' ∧ AnyG P md ops Q C fuel (listed.setIfInBounds i true) a' w') a w
theorem AnyG.wp {ro : Option Nat} {m : Nat} {Q : Act → World → Prop} {C : Array Bool → World → Prop} : ∀ (n : Nat) (listed : Array Bool) (a : Act) (w : World), AnyG P md ops Q C n listed a w →
    wpAnyIn (wideR ro) m P md ops (fun e a w => e = .normal ∧ Q a w) n listed a w
  | 0, _, _, _, h => ⟨h.1, rfl, h.2⟩
  | n + 1, _, _, _, h => ⟨fun e => ⟨rfl, h.1 e⟩, fun i hi => (OpG.mono (fun a' w' g => AnyG.wp n _ a' w' g.2) (h.2 i hi)).wp⟩
theorem AnyG.weaken {Q : Act → World → Prop} {C C' : Array Bool → World → Prop} (hC : ∀ L w, C' L w → C L w) : ∀ (n : Nat) (listed : Array Bool) (a : Act) (w : World), AnyG P md ops Q C' n listed a w → AnyG P md ops Q C n listed a w
  | 0, _, _, _, h => h
  | n + 1, _, _, _, h => ⟨h.1, fun i hi => OpG.mono (fun a' w' g => ⟨hC _ _ g.1, AnyG.weaken hC n _ a' w' g.2⟩) (h.2 i hi)⟩

def YC (P : Program) (ops : Array Oper) (C : World → Prop) (o : Oper) (v : Value) (a : Act) : Prop :=
  (Region.wanted o (yielded ops a.tmps) = true ∧ ∀ w, C w → (execOp a.eval o).run P w = .ok (.value v) w) ∨ (Region.wanted o (yielded ops a.tmps) = false ∧ v = undef)
theorem YC.op {C : World → Prop} {i : Nat} {o : Oper} {v : Value} {a : Act} {w : World} (hi : ops[i]? = some o) (hy : YC P ops C o v a) (hw : C w) {K : Act → World → Prop} (h : K (a.put o.dst v) w) : OpG P ops i K a w := by
  unfold OpG
  simp only [hi]
  rcases hy with ⟨h1, h2⟩ | ⟨h1, rfl⟩
  · rw [if_pos h1]; exact .inl ⟨v, w, h2 w hw, h⟩
  · rw [if_neg (by simp [h1])]; exact h
theorem YC.same {C : World → Prop} {o oj : Oper} {v u : Value} {a : Act} (hs : ∀ cs b, o.op ≠ .select cs b) (hap : o.apart ops oj = true) (hy : YC P ops C o v a) : YC P ops C o v (a.put oj.dst u) := by
  obtain ⟨_, _, h3⟩ := Oper.apart_spec hap
  unfold YC at *
  rw [execOp_put (ops := ops) o hs a oj.dst u h3, wanted_put (ops := ops) o a oj.dst u h3]
  exact hy
theorem OpG.put {C : World → Prop} {j : Nat} {oi oj : Oper} {v : Value} (hj : ops[j]? = some oj) (hap : oi.apart ops oj = true) (hsi : ∀ cs b, oi.op ≠ .select cs b) (hsj : ∀ cs b, oj.op ≠ .select cs b)
    {K : Act → World → Prop} {a : Act} {w : World} (hy : YC P ops C oi v a) (h : OpG P ops j K (a.put oi.dst v) w) : OpG P ops j (fun a' w' => K (a'.put oi.dst v) w' ∧ YC P ops C oi v a') a w := by
  obtain ⟨h1, h2, h3⟩ := Oper.apart_spec hap
  have comm : ∀ u, ((a.put oi.dst v).put oj.dst u) = ((a.put oj.dst u).put oi.dst v) := fun u => Act.put_comm a v u h2
  unfold OpG at *
  simp only [hj] at h ⊢
  rw [execOp_put (ops := ops) oj hsj a oi.dst v h1, wanted_put (ops := ops) oj a oi.dst v h1] at h
  split
  · rename_i hw
    rw [if_pos hw] at h
    rcases h with ⟨u, w', r, k⟩ | ⟨w', r, k⟩ | ⟨gf, args, w', r, c⟩ | ⟨l, gf, tm, asg, bd, w', r, c⟩
    · exact .inl ⟨u, w', r, by rw [← comm]; exact k, hy.same hsi hap⟩
    · exact .inr (.inl ⟨w', r, by rw [← comm]; exact k, hy.same hsi hap⟩)
    · exact .inr (.inr (.inl ⟨gf, args, w', r, c.mono fun e w2 ⟨u, hu, k⟩ => ⟨u, hu, by rw [← comm]; exact k, hy.same hsi hap⟩⟩))
    · exact .inr (.inr (.inr ⟨l, gf, tm, asg, bd, w', r, fun c0 cs => let ⟨u, w2, k, s⟩ := c c0 cs; ⟨u, w2, ⟨by rw [← comm]; exact k, hy.same hsi hap⟩, s⟩⟩))
  · rename_i hw
    rw [if_neg hw] at h
    exact ⟨by rw [← comm]; exact h, hy.same hsi hap⟩

/-- An operation that answers the same in every world that can come ahead of it may come first. -/
theorem AnyG.first {Q : Act → World → Prop} {C C' : Array Bool → World → Prop} {F : World → Prop} (hC : ∀ L w, C' L w → C L w) {i : Nat} {oi : Oper} {v : Value} {D : List Nat} (hi : ops[i]? = some oi) (hsel : ∀ (j : Nat) (o : Oper) cs b, ops[j]? = some o → o.op ≠ .select cs b)
    (hCi : ∀ L w, C (L.setIfInBounds i true) w → C L w) (hF : ∀ L w, (∀ d ∈ D, L.getD d false = false) → C' L w → F w) (hiD : i ∉ D)
    (hD : ∀ d ∈ D, ∀ o, ops[d]? = some o → ∃ e ∈ o.after, Region.binds md e = true ∧ (e.on = i ∨ e.on ∈ D)) :
    ∀ (fuel : Nat) (listed : Array Bool) (a : Act) (w : World),
      (∀ j oj, ops[j]? = some oj → j ≠ i → listed.getD j true = false → (∀ e ∈ oj.after, Region.binds md e = true → e.on ≠ i) → oi.apart ops oj = true) →
      i ∈ Region.ready md ops listed → (∀ d ∈ D, listed.getD d false = false) → YC P ops F oi v a → C' (listed.setIfInBounds i true) w →
      AnyG P md ops Q C' fuel (listed.setIfInBounds i true) (a.put oi.dst v) w → AnyG P md ops Q C (fuel + 1) listed a w := by
  intro fuel
  have own : ∀ (listed : Array Bool) w, (∀ d ∈ D, listed.getD d false = false) → C' (listed.setIfInBounds i true) w → F w := fun listed w hl h => hF _ w (fun d hd => by
    rw [getD_set_ne false (fun (e : i = d) => hiD (e ▸ hd))]; exact hl d hd) h
  induction fuel with
  | zero =>
    intro listed a w _ hr hl hy hw H
    refine ⟨fun h => (by rw [h] at hr; cases hr), fun j hj => ?_⟩
    by_cases hji : j = i
    · subst hji; exact hy.op hi (own _ _ hl hw) ⟨hC _ _ hw, AnyG.weaken hC 0 _ _ _ H⟩
    · have := ready_mono hj hji
      rw [H.1] at this
      cases this
  | succ fuel ih =>
    intro listed a w hfree hr hl hy hw H
    refine ⟨fun h => (by rw [h] at hr; cases hr), fun j hj => ?_⟩
    by_cases hji : j = i
    · subst hji; exact hy.op hi (own _ _ hl hw) ⟨hC _ _ hw, AnyG.weaken hC _ _ _ _ H⟩
    · have h1 := H.2 j (ready_mono hj hji)
      obtain ⟨hjun, oj, hoj, hall⟩ := mem_ready.1 hj
      have hnot : ∀ e ∈ oj.after, Region.binds md e = true → e.on ≠ i := fun e he hb heq => by
        have h1 := hall e he hb
        have h0 := (mem_ready.1 hr).1
        rw [heq] at h1
        rcases Nat.lt_or_ge i listed.size with h' | h'
        · simp [h'] at h0 h1; rw [h0] at h1; cases h1
        · simp [Array.getElem?_eq_none h'] at h1
      have hjD : j ∉ D := fun hjD => by
        obtain ⟨e, he, hb, heq | hm⟩ := hD j hjD oj hoj
        · exact hnot e he hb heq
        · have h1 := hall e he hb
          rw [hl _ hm] at h1; cases h1
      have h2 := OpG.put hoj (hfree j oj hoj hji hjun hnot) (fun cs b => hsel i oi cs b hi) (fun cs b => hsel j oj cs b hoj) hy h1
      have hfree' : ∀ k ok, ops[k]? = some ok → k ≠ i → (listed.setIfInBounds j true).getD k true = false →
          (∀ e ∈ ok.after, Region.binds md e = true → e.on ≠ i) → oi.apart ops ok = true := fun k ok hk hki hun hno => by
        refine hfree k ok hk hki ?_ hno
        by_cases hjk : j = k
        · subst hjk; exact hjun
        · rw [getD_set_ne true hjk] at hun; exact hun
      have hl' : ∀ d ∈ D, (listed.setIfInBounds j true).getD d false = false := fun d hd => by
        rw [getD_set_ne false (fun (e : j = d) => hjD (e ▸ hd))]; exact hl d hd
      refine OpG.mono (fun a' w' h3 => ?_) h2
      have h4 := h3.1.1
      rw [Array.setIfInBounds_comm _ _ (Ne.symm hji)] at h4
      refine ⟨hCi _ _ (hC _ _ h4), ih (listed.setIfInBounds j true) a' w' hfree' (ready_mono hr (Ne.symm hji)) hl' h3.2 h4 ?_⟩
      rw [Array.setIfInBounds_comm _ _ hji]
      exact h3.1.2
end

end Go.Vm
end
