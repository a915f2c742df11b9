/-
  A machine for abstract states over the model (part 23): ends told in short, with their memory: an answer is matched against a template, as a loop's head is.
-/
import Derived.Test.YtighjgmgpphohaaVm22
namespace Go.Vm

/-- Where a walk answers, as a state: the answer is its one value. -/
def retSt (v : AVal) (H : Heap) (nl : Nat) (cs : Cs) : St := ⟨[], ofP [(0, v)], 1, H, nl, cs⟩
inductive LM where
  | done (q : Nat) (cs : Cs) (σ : Sub)
  | next (q : Nat) (todo : List Item) (cs : Cs) (σ : Sub)
  | stop (cs : Cs)
  | bad
def sumM (g : Gen) (Rs Ts : List Tpl) : Leaf → Option LM
  | .stop cs => cond (dead cs) none (some (.stop cs))
  | .ret v H nl cs => cond (dead cs) none (match tryT g Rs 0 (retSt v H nl cs) with
    | some (q, σ) => some (.done q cs σ)
    | none => some .bad)
  | .pause S => cond (dead S.cs) none (match tryT g Ts 0 S with
    | some (q, σ) => some (.next q S.todo S.cs σ)
    | none => some .bad)
def MGood (P : Program) (β : Base) (f : FuncId) (R : Value → World → Prop) (Rs Ts : List Tpl) (ρ : Env) : LM → Prop
  | .done q cs σ => ∀ ρ', ρ.Le ρ' → CRel ρ' cs → ∀ T, Rs[q]? = some T → GP.at β.G ρ' → GP.at β.G (σ.app ρ') ∧ CRel (σ.app ρ') T.cs ∧
      ∀ x w', SRel β (σ.app ρ') (T.st []) ⟨#[x], []⟩ w' → R x w'
  | .next q todo cs σ => ∀ ρ', ρ.Le ρ' → CRel ρ' cs → ∀ T, Ts[q]? = some T → GP.at β.G ρ' → GP.at β.G (σ.app ρ') ∧ CRel (σ.app ρ') T.cs ∧
      ∀ a w, SRel β (σ.app ρ') (T.st todo) a w → Goes P f R todo a w
  | .stop cs => Dead ρ cs
  | .bad => False
section
variable {P : Program} {β : Base} {f : FuncId} {R : Value → World → Prop}
theorem m_good {g : Gen} {Rs Ts : List Tpl} {ρ : Env} (hown : β.own = []) {l : Leaf} (h : ∀ s, sumM g Rs Ts l = some s → MGood P β f R Rs Ts ρ s) : Good P β ρ f R l := by
  cases l with
  | stop cs =>
    cases hd : dead cs with
    | true => exact dead_ok hd
    | false => exact h (.stop cs) (by simp [sumM, hd])
  | ret v H nl cs =>
    intro ρ' w' x hle hx hr hc
    cases hd : dead cs with
    | true => exact (dead_ok (ρ := ρ') hd ρ' (Env.Le.refl ρ') hc).elim
    | false =>
      cases ht : tryT g Rs 0 (retSt v H nl cs) with
      | none => exact (h .bad (by simp [sumM, hd, ht])).elim
      | some p =>
        obtain ⟨q, σ⟩ := p
        obtain ⟨T, _, hT, hm⟩ := tryT_ok ht
        have hs := h (.done q cs σ) (by simp [sumM, hd, ht]) ρ' hle hc T (by simpa using hT) hr.g
        have hS : SRel β ρ' (retSt v H nl cs) ⟨#[x], []⟩ w' := ⟨rfl, rfl, fun i u hu => by
          have := ofP_mem hu
          simp only [List.mem_singleton, Prod.mk.injEq] at this
          obtain ⟨rfl, rfl⟩ := this
          exact ⟨x, hx, rfl⟩, hr, hc⟩
        exact hs.2.2 x w' (match_ok hm hown hs.1 hs.2.1 hS [])
  | pause S =>
    intro ρ' a w hle hr
    cases hd : dead S.cs with
    | true => exact (dead_ok (ρ := ρ') hd ρ' (Env.Le.refl ρ') hr.c).elim
    | false =>
      cases ht : tryT g Ts 0 S with
      | none => exact (h .bad (by simp [sumM, hd, ht])).elim
      | some p =>
        obtain ⟨q, σ⟩ := p
        obtain ⟨T, _, hT, hm⟩ := tryT_ok ht
        have hs := h (.next q S.todo S.cs σ) (by simp [sumM, hd, ht]) ρ' hle hr.c T (by simpa using hT) hr.h.g
        exact hs.2.2 a w (match_ok hm hown hs.1 hs.2.1 hr S.todo)
theorem m_all {g : Gen} {Rs Ts : List Tpl} {ls : List Leaf} {sums : List LM} {ρ : Env} (hown : β.own = []) (h : ls.filterMap (sumM g Rs Ts) = sums) (hs : ∀ s ∈ sums, MGood P β f R Rs Ts ρ s) : ∀ l ∈ ls, Good P β ρ f R l :=
  fun _ hl => m_good hown fun s e => hs s (h ▸ List.mem_filterMap.2 ⟨_, hl, e⟩)

/-- A round of a loop, told in short, is good for the whole loop. -/
theorem loop_goesM (hc : NoCount P) {E : Exts} (hE : ExtOk P E) {sp : CallF} (hsp : CallOk P β sp) (hm : P.follows .mixedOrders = true) (hown : β.own = []) {g : Gen} {pl : PL} {Rs Ts : List Tpl} {T : Tpl} {b : Code} {k : List Item} {n : Nat} {sums : List LM}
    (hrun : (run P E sp n pl f (T.st (.code b :: .inLoop b :: k))).map (·.filterMap (sumM g Rs Ts)) = some sums) (J : GP) (μ : Env → Nat)
    (hs : ∀ ρ, J.at ρ → CRel ρ T.cs → GP.at β.G ρ → (∀ ρ', μ ρ' < μ ρ → J.at ρ' → ∀ todo a w, todo = .inLoop b :: k ∨ todo = .code (.loop b) :: k → SRel β ρ' (T.st todo) a w → Goes P f R todo a w) → ∀ s ∈ sums, MGood P β f R Rs Ts ρ s) :
    ∀ ρ, J.at ρ → ∀ todo a w, todo = .inLoop b :: k ∨ todo = .code (.loop b) :: k → SRel β ρ (T.st todo) a w → Goes P f R todo a w := by
  obtain ⟨ls, hls, hsum⟩ := Option.map_eq_some_iff.1 hrun
  suffices H : ∀ N ρ, μ ρ = N → J.at ρ → ∀ todo a w, todo = .inLoop b :: k ∨ todo = .code (.loop b) :: k → SRel β ρ (T.st todo) a w → Goes P f R todo a w from fun ρ => H _ ρ rfl
  intro N
  induction N using Nat.strongRecOn with
  | _ N ih =>
    intro ρ hN hJ todo a w htd r
    have key : Goes P f R (.code b :: .inLoop b :: k) a w := by
      refine run_sound hc hE hsp hm n pl f _ ls ρ a w _ hls ⟨r.d, r.n, r.t, r.h, r.c⟩ (m_all hown hsum (hs ρ hJ r.c r.h.g fun ρ' hlt hJ' todo' a' w' ht' r' => ?_))
      exact ih (μ ρ') (by omega) ρ' rfl hJ' todo' a' w' ht' r'
    rcases htd with rfl | rfl
    · exact Goes.one (fun cs => step_inLoop) key
    · exact Goes.one (fun cs => step_loop) key

/-- A call, told in short. -/
theorem calls_sumsM (hc : NoCount P) {E : Exts} (hE : ExtOk P E) {sp : CallF} (hsp : CallOk P β sp) (hm : P.follows .mixedOrders = true) (hown : β.own = []) {g : Gen} {pl : PL} {Rs Ts : List Tpl} {n : Nat} {fn : Func} {c : Code} {args : List AVal} {xs : List Value} {H : Heap} {nl : Nat} {cs : Cs} {ρ : Env} {w : World} {sums : List LM}
    (hf : P.funcs[f]? = some fn) (hb : fn.body = some c) (hrun : (run P E sp n pl f (entry fn c args H nl cs)).map (·.filterMap (sumM g Rs Ts)) = some sums) (hx : AVal.denL ρ args = some xs) (hr : HRel β ρ H nl w) (hcs : CRel ρ cs)
    (hs : ∀ s ∈ sums, MGood P β f R Rs Ts ρ s) : Calls P f xs.toArray w (fun e w' => ∃ v, e = .returned v ∧ R v w') := by
  obtain ⟨ls, hls, hsum⟩ := Option.map_eq_some_iff.1 hrun
  exact calls_of_goes hf hb (run_sound hc hE hsp hm n pl f _ ls ρ _ w _ hls (entry_ok hx hr hcs) (m_all hown hsum hs))
end
end Go.Vm
