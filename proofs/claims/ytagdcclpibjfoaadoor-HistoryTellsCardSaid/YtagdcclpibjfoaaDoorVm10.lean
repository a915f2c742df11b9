/-
  A machine for abstract states over the model (part 10): what an operation does.
-/
import Derived.Test.YtagdcclpibjfoaaDoorVm9
import Derived.Orders
namespace Go.Vm

section
variable {P : Program} {β : Base} {ρ : Env} {H : Heap} {nl : Nat} {w : World}

abbrev Ev := Operand → Option AVal
def EvOk (ρ : Env) (ev : Ev) (f : Operand → Value) : Prop := ∀ x v, ev x = some v → v.den ρ = some (f x)

def evL (ev : Ev) : List Operand → Option (List AVal)
  | [] => some []
  | x :: r => match ev x, evL ev r with
    | some v, some l => some (v :: l)
    | _, _ => none
theorem evL_ok {ev : Ev} {f : Operand → Value} (h : EvOk ρ ev f) : ∀ {l : List Operand} {vs : List AVal}, evL ev l = some vs → AVal.denL ρ vs = some (l.map f)
  | [], vs, e => by cases e; rfl
  | x :: r, vs, e => by
    simp only [evL] at e
    split at e
    · rename_i v l hv hl
      cases e
      simp only [AVal.denL, h x v hv, evL_ok h hl, List.map_cons]
    · cases e
def evP (ev : Ev) : List (Nat × Operand) → Option (List (Nat × AVal))
  | [] => some []
  | (i, x) :: r => match ev x, evP ev r with
    | some v, some l => some ((i, v) :: l)
    | _, _ => none
theorem evP_ok {ev : Ev} {f : Operand → Value} (h : EvOk ρ ev f) : ∀ {l : List (Nat × Operand)} {vs : List (Nat × AVal)}, evP ev l = some vs → denP ρ vs = some (l.map fun p => (p.1, f p.2))
  | [], vs, e => by cases e; rfl
  | (i, x) :: r, vs, e => by
    simp only [evP] at e
    split at e
    · rename_i v l hv hl
      cases e
      simp only [denP, h x v hv, evP_ok h hl, List.map_cons]
    · cases e

def optEv (ev : Ev) : Option Operand → Option (Option AVal)
  | none => some none
  | some x => (ev x).map some
theorem optEv_ok {ev : Ev} {f : Operand → Value} (h : EvOk ρ ev f) {x : Option Operand} {v : Option AVal} (e : optEv ev x = some v) : OptDen ρ v (x.map f) := by
  cases x with
  | none => cases e; trivial
  | some x => obtain ⟨u, hu, rfl⟩ := map_some e; exact h x u hu

/-- A piece of a text. -/
def aSliceS (P : Program) (t : TypeId) (x : AVal) (lo hi : Option AVal) : Option AVal :=
  match P.underlying t, x with
  | some .string, .str (.lit s) => match optLit lo 0, optLit hi s.length with
    | some l, some h => cond (Nat.ble l h && Nat.ble h s.length) (some (.str (.lit ((s.drop l).take (h - l))))) none
    | _, _ => none
  | _, _ => none
theorem aSliceS_ok {t : TypeId} {x u : AVal} {lo hi : Option AVal} {xv : Value} {lov hiv : Option Value} (h : aSliceS P t x lo hi = some u) (hx : x.den ρ = some xv)
    (dl : OptDen ρ lo lov) (dh : OptDen ρ hi hiv) : ∃ y, u.den ρ = some y ∧ ∀ w, (Instr.sliceAt t xv lov hiv none).run P w = .ok y w := by
  unfold aSliceS at h
  split at h
  · rename_i s hu
    split at h
    · rename_i l k hl hh
      cases hc : (Nat.ble l k && Nat.ble k s.length) with
      | false => rw [hc] at h; cases h
      | true =>
        rw [hc] at h; simp only [cond_true, Option.some.injEq] at h
        subst h
        simp only [Bool.and_eq_true] at hc
        have h1 := Nat.le_of_ble_eq_true hc.1
        have h2 := Nat.le_of_ble_eq_true hc.2
        simp only [AVal.den, ST.den, Option.some.injEq] at hx
        subst hx
        refine ⟨.string ⟨((s.drop l).take (k - l)).toArray⟩, rfl, fun w => ?_⟩
        have hsz : (ByteArray.mk s.toArray).size = s.length := by show s.toArray.size = _; simp
        have hb := bounds_ok (P := P) (w := w) (isS := false) (len := s.length) (cap := s.length) hl hh dl dh h1 h2
        have he : (ByteArray.mk s.toArray).extract l k = ⟨((s.drop l).take (k - l)).toArray⟩ := by
          rw [Lib.extract_eq]
        simp [Instr.sliceAt, Instr.slice, run_und hu, hsz, hb, he]
    · cases h
  · cases h

def isK : Operand → Bool
  | .const _ => true
  | _ => false
theorem nilnil_run {t : TypeId} {x y : Operand} {ms : Array (String × TypeId)} (hu : P.underlying t = some (.interface ms)) (hk : (isK x || isK y) = true) (w : World) :
    (do eqGuard .eql t x y .nilIface .nilIface; binOp .eql t .nilIface .nilIface : Sem Value).run P w = .ok (.bool true) w ∧
    (do eqGuard .neq t x y .nilIface .nilIface; binOp .neq t .nilIface .nilIface : Sem Value).run P w = .ok (.bool false) w := by
  have he : (Op.equal t .nilIface .nilIface).run P w = .ok true w := by
    show (Op.equalIn (9999 + 1) t .nilIface .nilIface).run P w = _
    generalize 9999 = d
    simp [Op.equalIn, run_und hu]
  constructor
  · cases x <;> cases y <;> first | (simp [isK] at hk; done) | simp [eqGuard, binOp, he]
  · cases x <;> cases y <;> first | (simp [isK] at hk; done) | simp [eqGuard, binOp, he]

/-- Operations that answer out of their operands alone. -/
def aPure (P : Program) (o : Op) (ev : Ev) : Option (AVal × List BT) :=
  match o with
  | .move x | .assign x => (ev x).map fun v => (v, [])
  | .pick c a b => match ev c with
    | some (.bool (.lit true)) => (ev a).map fun v => (v, [])
    | some (.bool (.lit false)) => (ev b).map fun v => (v, [])
    | _ => none
  | .nilCheck x => (ev x).bind fun v => (aNilCheck v).map fun u => (u, [])
  | .binOp op t x y _ => match ev x, ev y with
    | some .nilIface, some .nilIface => cond (isK x || isK y) (match P.underlying t, op with
      | some (.interface _), .eql => some (.bool (.lit true), [])
      | some (.interface _), .neq => some (.bool (.lit false), [])
      | _, _ => none) none
    | some a, some b => aBin P op t a b
    | _, _ => none
  | .unOp op _ x => (ev x).bind fun v => (aUn op v).map fun u => (u, [])
  | .convert s d x => (ev x).bind fun v => (aConv P s d v).map fun u => (u, [])
  | .makeInterface t x => (ev x).bind fun v => (aMkIface P t v).map fun u => (u, [])
  | .makeFunc fn a b => match evL ev a.toList, evL ev b.toList with
    | some l, some r => some (.func fn l r, [])
    | _, _ => none
  | .fieldAddr s x i => (ev x).bind fun v => (aFieldAddr P s v i).map fun u => (u, [])
  | .field t x i => (ev x).bind fun v => (aField P t v i).map fun u => (u, [])
  | .indexAddr t x i => match ev x, ev i with
    | some a, some b => match aIndexAddr P t a b with
      | some u => some (u, [])
      | none => aIndexAddrE P t a b
    | _, _ => none
  | .index t x i => match ev x, ev i with
    | some a, some b => (aIndex P t a b).map fun u => (u, [])
    | _, _ => none
  | .typeAssert x _ a c => (ev x).bind fun v => (aAssert P v a c).map fun u => (u, [])
  | .extract x i => (ev x).bind fun v => (aExtract v i).map fun u => (u, [])
  | .build t parts => (evP ev parts.toList).bind fun l => (aBuild P t l).map fun u => (u, [])
  | .slice t x lo hi none => match ev x, optEv ev lo, optEv ev hi with
    | some x, some l, some h => (aSliceS P t x l h).map fun u => (u, [])
    | _, _, _ => none
  | .call { callee := .builtin .max, args, argTypes := _ } => match evL ev args.toList with
    | some (x :: r) => (aMax x r).map fun u => (u, [])
    | _ => none
  | .call { callee := .builtin .min, args, argTypes := _ } => match evL ev args.toList with
    | some (x :: r) => (aMin x r).map fun u => (u, [])
    | _ => none
  | _ => none

theorem bindSome {α β : Type} {o : Option α} {f : α → Option β} {b : β} (h : o.bind f = some b) : ∃ a, o = some a ∧ f a = some b := Option.bind_eq_some_iff.1 h

theorem aPure_ok {o : Oper} {ev : Ev} {f : Operand → Value} {u : AVal} {mu : List BT} (h : aPure P o.op ev = some (u, mu)) (he : EvOk ρ ev f) (hm : ∀ c ∈ mu, c.den ρ = some true) :
    ∃ x, u.den ρ = some x ∧ ∀ w, (execOp f o).run P w = .ok (.value x) w := by
  unfold aPure at h
  split at h
  · rename_i x ho
    obtain ⟨v, hv, e⟩ := map_some h; cases e
    exact ⟨f x, he x _ hv, fun w => by simp [execOp, ho]⟩
  · rename_i x ho
    obtain ⟨v, hv, e⟩ := map_some h; cases e
    exact ⟨f x, he x _ hv, fun w => by simp [execOp, ho]⟩
  · rename_i c a b ho
    split at h
    · rename_i hc
      obtain ⟨v, hv, e⟩ := map_some h; cases e
      have := den_litb (he c _ hc)
      exact ⟨f a, he a _ hv, fun w => by simp [execOp, ho, this, asBool]⟩
    · rename_i hc
      obtain ⟨v, hv, e⟩ := map_some h; cases e
      have := den_litb (he c _ hc)
      exact ⟨f b, he b _ hv, fun w => by simp [execOp, ho, this, asBool]⟩
    · cases h
  · rename_i x ho
    obtain ⟨v, hv, e⟩ := bindSome h
    obtain ⟨u', hu', e'⟩ := map_some e; cases e'
    obtain ⟨h1, _⟩ := aNilCheck_ok (P := P) (w := default) hu' (he x v hv)
    refine ⟨f x, h1, fun w => ?_⟩
    have h2 := (aNilCheck_ok (P := P) (w := w) hu' (he x v hv)).2
    rw [← h2]
    simp only [execOp, ho, nilCheckSem]
  · rename_i op t x y yt ho
    split at h
    · rename_i ha hb
      cases hk : (isK x || isK y) with
      | false => rw [hk] at h; cases h
      | true =>
        rw [hk] at h; simp only [cond_true] at h
        have h1 := den_nilIface (he x _ ha)
        have h2 := den_nilIface (he y _ hb)
        split at h
        · rename_i ms hu
          cases h
          refine ⟨.bool true, rfl, fun w => ?_⟩
          have := (nilnil_run (x := x) (y := y) hu hk w).1
          simp only [execOp, ho, h1, h2, Sem.run_bind] at this ⊢
          rw [this]; rfl
        · rename_i ms hu
          cases h
          refine ⟨.bool false, rfl, fun w => ?_⟩
          have := (nilnil_run (x := x) (y := y) hu hk w).2
          simp only [execOp, ho, h1, h2, Sem.run_bind] at this ⊢
          rw [this]; rfl
        · cases h
    · rename_i a b _ ha hb
      obtain ⟨z, hz, hr⟩ := aBin_ok h (he x a ha) (he y b hb) hm
      refine ⟨z, hz, fun w => ?_⟩
      have := hr w x y
      simp only [execOp, ho, Sem.run_bind, Sem.run_pure] at this ⊢
      rw [this]; rfl
    · cases h
  · rename_i op t x ho
    obtain ⟨v, hv, e⟩ := bindSome h
    obtain ⟨u', hu', e'⟩ := map_some e; cases e'
    obtain ⟨z, hz, hr⟩ := aUn_ok (P := P) hu' (he x v hv)
    exact ⟨z, hz, fun w => by simp [execOp, ho, hr w]⟩
  · rename_i s d x ho
    obtain ⟨v, hv, e⟩ := bindSome h
    obtain ⟨u', hu', e'⟩ := map_some e; cases e'
    obtain ⟨z, hz, hr⟩ := aConv_ok (P := P) hu' (he x v hv)
    exact ⟨z, hz, fun w => by simp [execOp, ho, hr w]⟩
  · rename_i t x ho
    obtain ⟨v, hv, e⟩ := bindSome h
    obtain ⟨u', hu', e'⟩ := map_some e; cases e'
    obtain ⟨z, hz, hr⟩ := aMkIface_ok (P := P) hu' (he x v hv)
    exact ⟨z, hz, fun w => by simp [execOp, ho, hr w]⟩
  · rename_i fn a b ho
    split at h
    · rename_i l r hl hr
      cases h
      refine ⟨.func fn (a.map f) (b.map f), ?_, fun w => by simp [execOp, ho, Instr.makeFunc]⟩
      have e1 : (a.map f) = (a.toList.map f).toArray := by apply Array.toList_inj.1; simp
      have e2 : (b.map f) = (b.toList.map f).toArray := by apply Array.toList_inj.1; simp
      rw [e1, e2]
      simp only [AVal.den, evL_ok he hl, evL_ok he hr]
    · cases h
  · rename_i s x i ho
    obtain ⟨v, hv, e⟩ := bindSome h
    obtain ⟨u', hu', e'⟩ := map_some e; cases e'
    obtain ⟨z, hz, _⟩ := aFieldAddr_ok (P := P) (w := default) hu' (he x v hv)
    refine ⟨z, hz, fun w => ?_⟩
    obtain ⟨z', hz', hr⟩ := aFieldAddr_ok (P := P) (w := w) hu' (he x v hv)
    rw [hz] at hz'; cases hz'
    simp [execOp, ho, hr]
  · rename_i t x i ho
    obtain ⟨v, hv, e⟩ := bindSome h
    obtain ⟨u', hu', e'⟩ := map_some e; cases e'
    obtain ⟨z, hz, hr⟩ := aField_ok (P := P) hu' (he x v hv)
    exact ⟨z, hz, fun w => by simp [execOp, ho, hr w]⟩
  · rename_i t x i ho
    split at h
    · rename_i a b ha hb
      split at h
      rotate_left
      · obtain ⟨z, hz, hr⟩ := aIndexAddrE_ok (P := P) h (he x a ha) (he i b hb) hm
        exact ⟨z, hz, fun w => by simp [execOp, ho, hr]⟩
      rename_i u' hu'
      cases h
      obtain ⟨z, hz, _⟩ := aIndexAddr_ok (P := P) (w := default) hu' (he x a ha) (he i b hb)
      refine ⟨z, hz, fun w => ?_⟩
      obtain ⟨z', hz', hr⟩ := aIndexAddr_ok (P := P) (w := w) hu' (he x a ha) (he i b hb)
      rw [hz] at hz'; cases hz'
      simp [execOp, ho, hr]
    · cases h
  · rename_i t x i ho
    split at h
    · rename_i a b ha hb
      obtain ⟨u', hu', e'⟩ := map_some h; cases e'
      obtain ⟨z, hz, hr⟩ := aIndex_ok (P := P) hu' (he x a ha) (he i b hb)
      exact ⟨z, hz, fun w => by simp [execOp, ho, hr w]⟩
    · cases h
  · rename_i x xt a c ho
    obtain ⟨v, hv, e⟩ := bindSome h
    obtain ⟨u', hu', e'⟩ := map_some e; cases e'
    obtain ⟨z, hz, hr⟩ := aAssert_ok (P := P) (xt := xt) hu' (he x v hv)
    exact ⟨z, hz, fun w => by simp [execOp, ho, hr w]⟩
  · rename_i x i ho
    obtain ⟨v, hv, e⟩ := bindSome h
    obtain ⟨u', hu', e'⟩ := map_some e; cases e'
    obtain ⟨z, hz, hr⟩ := aExtract_ok (P := P) hu' (he x v hv)
    exact ⟨z, hz, fun w => by simp [execOp, ho, hr w]⟩
  · rename_i t parts ho
    obtain ⟨l, hl, e⟩ := bindSome h
    obtain ⟨u', hu', e'⟩ := map_some e; cases e'
    have hp := evP_ok he hl
    obtain ⟨z, hz, _⟩ := aBuild_ok (P := P) (w := default) hu' hp
    refine ⟨z, hz, fun w => ?_⟩
    obtain ⟨z', hz', hr⟩ := aBuild_ok (P := P) (w := w) hu' hp
    rw [hz] at hz'; cases hz'
    have ea : (parts.map fun (i, x) => (i, f x)) = (parts.toList.map fun p => (p.1, f p.2)).toArray := by apply Array.toList_inj.1; simp
    simp only [execOp, ho, ea, Sem.run_bind, hr, Result.andThen_ok, Sem.run_pure]
  · rename_i t x lo hi ho
    split at h
    · rename_i xv l k hx hl hk
      obtain ⟨u', hu', e'⟩ := map_some h; cases e'
      obtain ⟨z, hz, hr⟩ := aSliceS_ok (P := P) hu' (he x xv hx) (optEv_ok he hl) (optEv_ok he hk)
      exact ⟨z, hz, fun w => by simp [execOp, ho, hr w]⟩
    · cases h
  · rename_i args tys ho
    split at h
    · rename_i x r hl
      obtain ⟨u', hu', e'⟩ := map_some h; cases e'
      have hd := evL_ok he hl
      simp only [AVal.denL] at hd
      split at hd
      · rename_i xv l hxv hlv
        have hd := Option.some.inj hd
        obtain ⟨z, hz, _⟩ := aMax_ok (w := default) (P := P) hu' hxv hlv
        refine ⟨z, hz, fun w => ?_⟩
        obtain ⟨z', hz', hr⟩ := aMax_ok (w := w) (P := P) hu' hxv hlv
        rw [hz] at hz'; cases hz'
        have : (args.map f).toList = xv :: l := by simp [← hd]
        simp [execOp, ho, resolve, invoke, builtin, Builtin.max_, ← hd, hr]
      · cases hd
    · cases h
  · rename_i args tys ho
    split at h
    · rename_i x r hl
      obtain ⟨u', hu', e'⟩ := map_some h; cases e'
      have hd := evL_ok he hl
      simp only [AVal.denL] at hd
      split at hd
      · rename_i xv l hxv hlv
        have hd := Option.some.inj hd
        obtain ⟨z, hz, _⟩ := aMin_ok (w := default) (P := P) hu' hxv hlv
        refine ⟨z, hz, fun w => ?_⟩
        obtain ⟨z', hz', hr⟩ := aMin_ok (w := w) (P := P) hu' hxv hlv
        rw [hz] at hz'; cases hz'
        simp [execOp, ho, resolve, invoke, builtin, Builtin.min_, ← hd, hr]
      · cases hd
    · cases h
  · cases h

end
end Go.Vm
