/-
  A machine for abstract states over the model (part 22): calls at one known state; a long walk cut into short ones.
-/
import Derived.Test.YtighjgmgpphohaaVm21
namespace Go.Vm

def optB {α : Type} (f : α → α → Bool) : Option α → Option α → Bool
  | none, none => true
  | some a, some b => f a b
  | _, _ => false
theorem optB_eq {α : Type} {f : α → α → Bool} (hf : ∀ {a b}, f a b = true → a = b) : ∀ {a b : Option α}, optB f a b = true → a = b
  | none, none, _ => rfl
  | some _, some _, h => by rw [hf h]
  | none, some _, h => by cases h
  | some _, none, h => by cases h
def prB (a b : Nat × Nat) : Bool := Nat.beq a.1 b.1 && Nat.beq a.2 b.2
theorem prB_eq {a b : Nat × Nat} (h : prB a b = true) : a = b := by
  simp only [prB, Bool.and_eq_true] at h
  exact Prod.ext (Nat.eq_of_beq_eq_true h.1) (Nat.eq_of_beq_eq_true h.2)
def esB : List (AVal × AVal × Nat) → List (AVal × AVal × Nat) → Bool
  | [], [] => true
  | (a, b, n) :: r, (a', b', n') :: r' => AVal.beq a a' && AVal.beq b b' && Nat.beq n n' && esB r r'
  | _, _ => false
theorem esB_eq : ∀ {a b : List (AVal × AVal × Nat)}, esB a b = true → a = b
  | [], [], _ => rfl
  | (a, b, n) :: r, (a', b', n') :: r', h => by
    simp only [esB, Bool.and_eq_true] at h
    obtain ⟨⟨⟨h1, h2⟩, h3⟩, h4⟩ := h
    rw [AVal.beq_eq _ _ h1, AVal.beq_eq _ _ h2, Nat.eq_of_beq_eq_true h3, esB_eq h4]
  | [], _ :: _, h => by cases h
  | _ :: _, [], h => by cases h
def ABlk.beq : ABlk → ABlk → Bool
  | .arr t ks e n o cp, .arr t' ks' e' n' o' cp' => AT.beq t t' && decide (ks = ks') && Nat.beq e e' && IT.beq n n' && IT.beq o o' && optB IT.beq cp cp'
  | .cells v e t, .cells v' e' t' => AVal.beqL v v' && Nat.beq e e' && optB prB t t'
  | .map es c, .map es' c' => esB es es' && Nat.beq c c'
  | _, _ => false
theorem ABlk.beq_eq {a b : ABlk} (h : ABlk.beq a b = true) : a = b := by
  cases a <;> cases b <;> simp only [ABlk.beq, Bool.and_eq_true, decide_eq_true_eq, Bool.false_eq_true] at h
  · obtain ⟨⟨⟨⟨⟨h1, h2⟩, h3⟩, h4⟩, h5⟩, h6⟩ := h
    rw [AT.beq_eq h1, h2, Nat.eq_of_beq_eq_true h3, IT.beq_eq h4, IT.beq_eq h5, optB_eq IT.beq_eq h6]
  · obtain ⟨⟨h1, h2⟩, h3⟩ := h
    rw [AVal.beqL_eq _ _ h1, Nat.eq_of_beq_eq_true h2, optB_eq prB_eq h3]
  · rw [esB_eq h.1, Nat.eq_of_beq_eq_true h.2]
def HB.beq (a b : HB) : Bool := cond a.rw b.rw (!b.rw) && ABlk.beq a.k b.k
theorem HB.beq_eq {a b : HB} (h : HB.beq a b = true) : a = b := by
  obtain ⟨k, r⟩ := a
  obtain ⟨k', r'⟩ := b
  simp only [HB.beq, Bool.and_eq_true] at h
  rw [ABlk.beq_eq h.2]
  cases r <;> cases r' <;> first | rfl | (cases h.1)
/-- All these are there. -/
def hasB (l : List (Nat × HB)) (H : Heap) : Bool := l.all fun p => match H.get p.1 with
  | some y => HB.beq y p.2
  | none => false
theorem hasB_get {l : List (Nat × HB)} {H : Heap} (h : hasB l H = true) {i : Nat} {k : HB} (hk : (ofP l).get i = some k) : H.get i = some k := by
  have h1 := List.all_eq_true.1 h _ (ofP_mem hk)
  simp only at h1
  split at h1
  · rename_i y hy
    rw [hy, HB.beq_eq h1]
  · cases h1
theorem HRel.sub {β : Base} {ρ : Env} {H H2 : Heap} {nl : Nat} {w : World} (h : HRel β ρ H nl w) (hs : ∀ l k, H2.get l = some k → H.get l = some k) : HRel β ρ H2 nl w :=
  ⟨fun l k hl => h.blk l k (hs l k hl), fun l l' k k' hl hl' => h.inj l l' k k' (hs l k hl) (hs l' k' hl'), fun l k b hl => h.own l k b (hs l k hl), h.fresh, h.ownN, h.size, h.frame, h.tape, h.os, h.out, h.g⟩

/-- A call at one state, and what comes of it. -/
structure Clo where
  g : FuncId
  args : List AVal
  h : List (Nat × HB)
  nl : Nat
  u : AVal
  h' : List (Nat × HB)
  nl' : Nat
def Clo.at (x : Clo) (g : FuncId) (args : List AVal) (H : Heap) (nl : Nat) (cs : Cs) : Bool := Nat.beq g x.g && Nat.beq nl x.nl && List.isEmpty cs && AVal.beqL args x.args && hasB x.h H
def Clo.ends (x : Clo) : List Leaf → Bool
  | [.ret u H nl []] => Nat.beq nl x.nl' && AVal.beq u x.u && hasB x.h' H
  | _ => false
theorem Clo.ends_eq {x : Clo} {ls : List Leaf} (h : x.ends ls = true) : ∃ H, ls = [.ret x.u H x.nl' []] ∧ hasB x.h' H = true := by
  unfold Clo.ends at h
  split at h
  · simp only [Bool.and_eq_true] at h
    rw [Nat.eq_of_beq_eq_true h.1.1, AVal.beq_eq _ _ h.1.2]
    exact ⟨_, rfl, h.2⟩
  · cases h
def spC : List Clo → CallF
  | [], _, _, _, _, _ => none
  | x :: r, g, args, H, nl, cs => cond (x.at g args H nl cs) (some [.ret x.u (ofP x.h') x.nl' []]) (spC r g args H nl cs)
def CloOk (P : Program) (β : Base) (x : Clo) : Prop := ∀ ρ w xs, AVal.denL ρ x.args = some xs → HRel β ρ (ofP x.h) x.nl w →
  Calls P x.g xs.toArray w (fun e w' => ∃ v, e = .returned v ∧ ∃ ρ', ρ.Le ρ' ∧ x.u.den ρ' = some v ∧ HRel β ρ' (ofP x.h') x.nl' w')
theorem spC_ok {P : Program} {β : Base} : ∀ {L : List Clo}, (∀ x ∈ L, CloOk P β x) → CallOk P β (spC L)
  | [], _ => fun _ _ _ _ _ _ _ _ _ h => by cases h
  | x :: r, hL => by
    intro g args H nl cs ls ρ w xs h hx hr hc hd
    simp only [spC] at h
    cases hb : x.at g args H nl cs with
    | false =>
      rw [hb] at h
      exact spC_ok (fun y hy => hL y (List.mem_cons_of_mem _ hy)) g args H nl cs ls ρ w xs h hx hr hc hd
    | true =>
      rw [hb] at h
      simp only [cond_true, Option.some.injEq] at h
      simp only [Clo.at, Bool.and_eq_true] at hb
      obtain ⟨⟨⟨⟨b1, b2⟩, b3⟩, b4⟩, b5⟩ := hb
      obtain rfl := Nat.eq_of_beq_eq_true b1
      obtain rfl := Nat.eq_of_beq_eq_true b2
      obtain rfl := AVal.beqL_eq _ _ b4
      have hcs : cs = [] := List.isEmpty_iff.1 b3
      subst hcs
      refine (hL x List.mem_cons_self ρ w xs hx (hr.sub fun _ _ h => hasB_get b5 h)).mono fun e w' ⟨v, hv, ρ', hle, hu, hr'⟩ => ⟨v, hv, x.u, ofP x.h', x.nl', [], ρ', ?_, hle, hu, hr', fun _ hq => by cases hq⟩
      rw [← h]; exact List.mem_cons_self
theorem clo_of_run {P : Program} {β : Base} (hc : NoCount P) {E : Exts} (hE : ExtOk P E) {sp : CallF} (hsp : CallOk P β sp) (hm : P.follows .mixedOrders = true) {x : Clo} {n : Nat} {fn : Func} {c : Code} (hf : P.funcs[x.g]? = some fn) (hb : fn.body = some c)
    (hrun : (run P E sp n false x.g (entry fn c x.args (ofP x.h) x.nl [])).map x.ends = some true) : CloOk P β x := by
  intro ρ w xs hx hr
  obtain ⟨ls, hls, he⟩ := Option.map_eq_some_iff.1 hrun
  obtain ⟨H, rfl, hb2⟩ := Clo.ends_eq he
  refine run_calls hc hE hsp hm hf hb hls hx hr (fun _ h => by cases h) (R := fun v w' => ∃ ρ', ρ.Le ρ' ∧ x.u.den ρ' = some v ∧ HRel β ρ' (ofP x.h') x.nl' w') (fun l hl => ?_)
  obtain rfl := List.mem_singleton.1 hl
  exact fun ρ' w' v hle hv hr' _ => ⟨ρ', hle, hv, hr'.sub fun _ _ h => hasB_get hb2 h⟩
end Go.Vm
