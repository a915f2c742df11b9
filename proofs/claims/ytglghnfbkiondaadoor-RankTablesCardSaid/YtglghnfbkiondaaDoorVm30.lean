/-
  A machine for abstract states over the model (part 28): small laws for loops; ends without their conditions; rows that are only read.
-/
import Derived.Test.YtglghnfbkiondaaDoorVm27
section
namespace Go.Vm

-- SMALL LAWS
theorem one {α : Type} {p : α → Prop} {a : α} (h : p a) : ∀ x ∈ [a], p x := fun _ hx => by rw [List.mem_singleton.1 hx]; exact h
theorem CRel_app {ρ : Env} {a b : Cs} : CRel ρ (a ++ b) ↔ CRel ρ a ∧ CRel ρ b :=
  ⟨fun h => ⟨fun p hp => h p (List.mem_append.2 (.inl hp)), fun p hp => h p (List.mem_append.2 (.inr hp))⟩, fun h p hp => (List.mem_append.1 hp).elim (h.1 p) (h.2 p)⟩
theorem c0 {ρ : Env} : CRel ρ [] := CRel_nil.2 trivial
theorem c1 {ρ : Env} {t : BT} {b : Bool} {cs : Cs} (h : t.den ρ = some b) (c : CRel ρ cs) : CRel ρ ((t, b) :: cs) := CRel_cons.2 ⟨h, c⟩
theorem wrapI {x : Int} (h : -9223372036854775808 ≤ x) (h2 : x < 9223372036854775808) : IntKind.i64.wrap x = x := wrap_in .i64 x (by simp only [lo]; omega) (by simp only [hi]; omega)
section
variable {ρ : Env}
theorem litD (n : Int) : (IT.lit n).den ρ = some n := rfl
theorem varD {i : Nat} {x : Int} (h : ρ.I i = x) : (IT.var i).den ρ = some x := congrArg some h
theorem nvD {i n : Nat} (h : ρ.N i = some n) : (IT.nv i).den ρ = some (n : Int) := by simp only [IT.den, h]; rfl
theorem unD {k : Nat} {t u : IT} {x y : Int} (h : t.den ρ = some x) (g : u.den ρ = some y) : (IT.un k t u).den ρ = some (univ k x y) := by simp only [IT.den, h, g]
theorem fnD {k : Nat} {t u : IT} {x y : Int} (h : t.den ρ = some x) (g : u.den ρ = some y) : (IT.fn k t u).den ρ = some (ρ.F k x y) := by simp only [IT.den, h, g]
theorem binD {op : BinOp} {k : IntKind} {a b : IT} {x y : Int} (h : a.den ρ = some x) (g : b.den ρ = some y) : (IT.bin op k a b).den ρ = intBin op k x y := by simp only [IT.den, h, g]
theorem cvD {k : IntKind} {a : IT} {x : Int} (h : a.den ρ = some x) : (IT.cv k a).den ρ = some (k.wrap x) := by simp only [IT.den, h, Option.map_some]
theorem selD {a sz j : Nat} {i : IT} {x : Nat} (h : i.den ρ = some (x : Int)) : (IT.sel a sz j i).den ρ = some (selI (ρ.V a) (x * sz + j)) := by simp only [IT.den, h, Option.map_some, Int.toNat_natCast]
theorem elemD {o i : IT} {sz j x y : Nat} (h : o.den ρ = some (x : Int)) (g : i.den ρ = some (y : Int)) : (IT.elem o sz j i).den ρ = some ((x + (y * sz + j) : Nat) : Int) := by simp only [IT.den, h, g, Int.toNat_natCast]; rfl
theorem plusD {a b : IT} {x y : Int} (h : a.den ρ = some x) (g : b.den ρ = some y) (h1 : -9223372036854775808 ≤ x + y) (h2 : x + y < 9223372036854775808) : (IT.bin .add .i64 a b).den ρ = some (x + y) := by
  rw [binD h g]; show some (IntKind.i64.wrap (x + y)) = _; rw [wrapI h1 h2]
theorem minusD {a b : IT} {x y : Int} (h : a.den ρ = some x) (g : b.den ρ = some y) (h1 : -9223372036854775808 ≤ x - y) (h2 : x - y < 9223372036854775808) : (IT.bin .sub .i64 a b).den ρ = some (x - y) := by
  rw [binD h g]; show some (IntKind.i64.wrap (x - y)) = _; rw [wrapI h1 h2]
/-- One more. -/
theorem upD {a : IT} {x : Nat} (h : a.den ρ = some (x : Int)) (hx : x < 4611686018427387904) : (IT.bin .add .i64 a (.lit 1)).den ρ = some ((x + 1 : Nat) : Int) := by
  rw [plusD h (litD 1) (by omega) (by omega)]; rfl
theorem mxD {a b : IT} {x y : Int} (h : a.den ρ = some x) (g : b.den ρ = some y) : (IT.mx a b).den ρ = some (if y > x then y else x) := by simp only [IT.den, h, g]
section
variable {a b : IT} {x y : Int} (h : a.den ρ = some x) (g : b.den ρ = some y)
include h g
theorem cmpD (op : BinOp) : (BT.cmp op a b).den ρ = intCmp op x y := by simp only [BT.den, h, g]
theorem lssT (e : x < y) : (BT.cmp .lss a b).den ρ = some true := by rw [cmpD h g]; simp only [intCmp, e, decide_true]
theorem lssF (e : y ≤ x) : (BT.cmp .lss a b).den ρ = some false := by rw [cmpD h g]; simp only [intCmp, Option.some.injEq, decide_eq_false_iff_not]; omega
theorem leqT (e : x ≤ y) : (BT.cmp .leq a b).den ρ = some true := by rw [cmpD h g]; simp only [intCmp, e, decide_true]
theorem leqF (e : y < x) : (BT.cmp .leq a b).den ρ = some false := by rw [cmpD h g]; simp only [intCmp, Option.some.injEq, decide_eq_false_iff_not]; omega
theorem gtrT (e : y < x) : (BT.cmp .gtr a b).den ρ = some true := by rw [cmpD h g]; simp only [intCmp, Option.some.injEq, decide_eq_true_eq]; omega
theorem gtrF (e : x ≤ y) : (BT.cmp .gtr a b).den ρ = some false := by rw [cmpD h g]; simp only [intCmp, Option.some.injEq, decide_eq_false_iff_not]; omega
theorem geqT (e : y ≤ x) : (BT.cmp .geq a b).den ρ = some true := by rw [cmpD h g]; simp only [intCmp, Option.some.injEq, decide_eq_true_eq]; omega
theorem geqF (e : x < y) : (BT.cmp .geq a b).den ρ = some false := by rw [cmpD h g]; simp only [intCmp, Option.some.injEq, decide_eq_false_iff_not]; omega
theorem eqlT (e : x = y) : (BT.cmp .eql a b).den ρ = some true := by rw [cmpD h g]; simp only [intCmp, e, beq_self_eq_true]
theorem eqlF (e : x ≠ y) : (BT.cmp .eql a b).den ρ = some false := by rw [cmpD h g]; simp only [intCmp, Option.some.injEq, beq_eq_false_iff_ne]; exact e
theorem neqT (e : x ≠ y) : (BT.cmp .neq a b).den ρ = some true := by rw [cmpD h g]; simp only [intCmp, Option.some.injEq, bne_iff_ne]; exact e
theorem neqF (e : x = y) : (BT.cmp .neq a b).den ρ = some false := by rw [cmpD h g]; simp only [intCmp, e, bne_self_eq_false]
end
theorem notD {t : BT} {b : Bool} (h : t.den ρ = some b) : (BT.not t).den ρ = some (!b) := by simp only [BT.den, h, Option.map_some]
theorem andD {t u : BT} {a b : Bool} (h : t.den ρ = some a) (g : u.den ρ = some b) : (BT.and t u).den ρ = some (a && b) := by simp only [BT.den, h, g]
theorem seqD (a b : ST) : (BT.seq a b).den ρ = some ((a.den ρ).data.toList == (b.den ρ).data.toList) := by simp only [BT.den, Lib.toList_data]
end
/-- A name that a substitution gives. -/
theorem sbI {σ : Sub} {ρ : Env} {k : Nat} {t : IT} {x : Int} (h : lk σ.I k = some t) (d : t.den ρ = some x) : (σ.app ρ).I k = x := by simp only [Sub.app, h, d, Option.getD_some]

-- ENDS WITHOUT THEIR CONDITIONS
def LS.dc : LS → LS
  | .ret v _ => .ret v []
  | .next q todo _ σ => .next q todo [] σ
  | .stop cs => .stop cs
  | .bad => .bad
def sumD (g : Gen) (Ts : List Tpl) (l : Leaf) : Option LS := (sumL g Ts l).map LS.dc
def LM.dc : LM → LM
  | .done q _ σ => .done q [] σ
  | .next q todo _ σ => .next q todo [] σ
  | .stop cs => .stop cs
  | .bad => .bad
def sumMD (g : Gen) (L : List Nat) (Rs Ts : List Tpl) (l : Leaf) : Option LM := (sumMO g L Rs Ts l).map LM.dc
section
variable {P : Program} {β : Base} {f : FuncId} {Q : Value → Prop} {R : Value → World → Prop} {Rs Ts : List Tpl} {ρ : Env}
theorem SumGood.of_dc : ∀ {s : LS}, SumGood P β f Q Ts ρ s.dc → SumGood P β f Q Ts ρ s
  | .ret _ _, h => fun ρ' hle _ => h ρ' hle c0
  | .next _ _ _ _, h => fun ρ' hle _ => h ρ' hle c0
  | .stop _, h => h
  | .bad, h => h
theorem MGoodO.of_dc : ∀ {s : LM}, MGoodO P β f R Rs Ts ρ s.dc → MGoodO P β f R Rs Ts ρ s
  | .done _ _ _, h => ⟨h.1, fun ρ' hle _ => h.2 ρ' hle c0⟩
  | .next _ _ _ _, h => ⟨h.1, fun ρ' hle _ => h.2 ρ' hle c0⟩
  | .stop _, h => h
  | .bad, h => h
theorem dcs {g : Gen} {ls : List Leaf} {sums : List LS} (h : ls.filterMap (sumD g Ts) = sums) (hs : ∀ s ∈ sums, SumGood P β f Q Ts ρ s) : ∀ s ∈ ls.filterMap (sumL g Ts), SumGood P β f Q Ts ρ s := by
  intro s hm
  obtain ⟨l, hl, he⟩ := List.mem_filterMap.1 hm
  exact SumGood.of_dc (hs _ (h ▸ List.mem_filterMap.2 ⟨l, hl, by simp only [sumD, he, Option.map_some]⟩))
theorem dcsM {g : Gen} {L : List Nat} {ls : List Leaf} {sums : List LM} (h : ls.filterMap (sumMD g L Rs Ts) = sums) (hs : ∀ s ∈ sums, MGoodO P β f R Rs Ts ρ s) : ∀ s ∈ ls.filterMap (sumMO g L Rs Ts), MGoodO P β f R Rs Ts ρ s := by
  intro s hm
  obtain ⟨l, hl, he⟩ := List.mem_filterMap.1 hm
  exact MGoodO.of_dc (hs _ (h ▸ List.mem_filterMap.2 ⟨l, hl, by simp only [sumMD, he, Option.map_some]⟩))
theorem nextS {q : Nat} {todo : List Item} {cs : Cs} {σ : Sub} {T : Tpl} (hT : Ts[q]? = some T) (h : ∀ ρ', ρ.Le ρ' → GP.at β.G ρ' → GP.at β.G (σ.app ρ') ∧ CRel (σ.app ρ') T.cs ∧ ∀ a w, SRel β (σ.app ρ') (T.st todo) a w → Goes P f (fun v w' => Q v ∧ Framed β.w0 w') todo a w) : SumGood P β f Q Ts ρ (.next q todo cs σ) :=
  fun ρ' hle _ T' hT' hG => by obtain rfl := Option.some.inj (hT.symm.trans hT'); exact h ρ' hle hG
theorem retS {u : AVal} {cs : Cs} {z : Value} (hd : ∀ ρ', ρ.Le ρ' → u.den ρ' = some z) (hq : Q z) : SumGood P β f Q Ts ρ (.ret u cs) :=
  fun ρ' hle _ x hx => by rw [hd ρ' hle] at hx; cases hx; exact hq
theorem nextR {q : Nat} {todo : List Item} {cs : Cs} {σ : Sub} {T : Tpl} (hT : Ts[q]? = some T) (hown : ∀ l ∈ β.own, lk σ.N l = some l) (h : ∀ ρ', ρ.Le ρ' → GP.at β.G ρ' → GP.at β.G (σ.app ρ') ∧ CRel (σ.app ρ') T.cs ∧ ∀ a w, SRel β (σ.app ρ') (T.st todo) a w → Goes P f R todo a w) : MGoodO P β f R Rs Ts ρ (.next q todo cs σ) :=
  ⟨hown, fun ρ' hle _ T' hT' hG => by obtain rfl := Option.some.inj (hT.symm.trans hT'); exact h ρ' hle hG⟩
theorem doneR {q : Nat} {cs : Cs} {σ : Sub} {T : Tpl} (hT : Rs[q]? = some T) (hown : ∀ l ∈ β.own, lk σ.N l = some l) (h : ∀ ρ', ρ.Le ρ' → GP.at β.G ρ' → GP.at β.G (σ.app ρ') ∧ CRel (σ.app ρ') T.cs ∧ ∀ x w', SRel β (σ.app ρ') (T.st []) ⟨#[x], []⟩ w' → R x w') : MGoodO P β f R Rs Ts ρ (.done q cs σ) :=
  ⟨hown, fun ρ' hle _ T' hT' hG => by obtain rfl := Option.some.inj (hT.symm.trans hT'); exact h ρ' hle hG⟩
/-- A loop, each round under what is known there; the ends without their conditions. -/
theorem loop_goesD (hc : NoCount P) {E : Exts} (hE : ExtOk P E) {sp : CallF} (hsp : CallOk P β sp) (hm : P.follows .mixedOrders = true) (hown : β.own = []) {g : Gen} {pl : PL} {T : Tpl} {b : Code} {k : List Item} {n : Nat} (J : Env → Prop) (μ : Env → Nat)
    (hs : ∀ ρ, J ρ → (∃ w, HRel β ρ (ofP T.H) T.nl w) → CRel ρ T.cs → GP.at β.G ρ → (∀ ρ', μ ρ' < μ ρ → J ρ' → ∀ todo a w, todo = .inLoop b :: k ∨ todo = .code (.loop b) :: k → SRel β ρ' (T.st todo) a w → Goes P f (fun v w' => Q v ∧ Framed β.w0 w') todo a w) →
      ∃ cs' sums, CRel ρ cs' ∧ (run P E sp n pl f ((⟨T.tm, T.nt, T.H, T.nl, cs', T.dep⟩ : Tpl).st (.code b :: .inLoop b :: k))).map (·.filterMap (sumD g Ts)) = some sums ∧ ∀ s ∈ sums, SumGood P β f Q Ts ρ s) :
    ∀ ρ, J ρ → ∀ todo a w, todo = .inLoop b :: k ∨ todo = .code (.loop b) :: k → SRel β ρ (T.st todo) a w → Goes P f (fun v w' => Q v ∧ Framed β.w0 w') todo a w := by
  refine loop_goesS hc hE hsp hm hown (g := g) (pl := pl) (Ts := Ts) (n := n) J μ fun ρ hJ hH hcs hG ih => ?_
  obtain ⟨cs', sums, h1, h2, h3⟩ := hs ρ hJ hH hcs hG ih
  obtain ⟨ls, hls, hsum⟩ := Option.map_eq_some_iff.1 h2
  exact ⟨cs', ls.filterMap (sumL g Ts), h1, by rw [hls]; rfl, dcs hsum h3⟩
theorem calls_sumsD (hc : NoCount P) {E : Exts} (hE : ExtOk P E) {sp : CallF} (hsp : CallOk P β sp) (hm : P.follows .mixedOrders = true) (hown : β.own = []) {g : Gen} {pl : PL} {n : Nat} {fn : Func} {c : Code} {args : List AVal} {xs : List Value} {H : Heap} {nl : Nat} {cs : Cs} {w : World} {sums : List LS}
    (hf : P.funcs[f]? = some fn) (hb : fn.body = some c) (hrun : (run P E sp n pl f (entry fn c args H nl cs)).map (·.filterMap (sumD g Ts)) = some sums) (hx : AVal.denL ρ args = some xs) (hr : HRel β ρ H nl w) (hcs : CRel ρ cs)
    (hs : ∀ s ∈ sums, SumGood P β f Q Ts ρ s) : Calls P f xs.toArray w (fun e w' => ∃ v, e = .returned v ∧ Q v ∧ Framed β.w0 w') := by
  obtain ⟨ls, hls, hsum⟩ := Option.map_eq_some_iff.1 hrun
  exact calls_sums hc hE hsp hm hown (g := g) (Ts := Ts) (sums := ls.filterMap (sumL g Ts)) hf hb (by rw [hls]; rfl) hx hr hcs (dcs hsum hs)
/-- The same with memory. -/
theorem loop_goesE (hc : NoCount P) {E : Exts} (hE : ExtOk P E) {sp : CallF} (hsp : CallOk P β sp) (hm : P.follows .mixedOrders = true) {g : Gen} {L : List Nat} {pl : PL} {T : Tpl} {b : Code} {k : List Item} {n : Nat} (J : Env → Prop) (μ : Env → Nat)
    (hs : ∀ ρ, J ρ → (∃ w, HRel β ρ (ofP T.H) T.nl w) → CRel ρ T.cs → GP.at β.G ρ → (∀ ρ', μ ρ' < μ ρ → J ρ' → ∀ todo a w, todo = .inLoop b :: k ∨ todo = .code (.loop b) :: k → SRel β ρ' (T.st todo) a w → Goes P f R todo a w) →
      ∃ cs' sums, CRel ρ cs' ∧ (run P E sp n pl f ((⟨T.tm, T.nt, T.H, T.nl, cs', T.dep⟩ : Tpl).st (.code b :: .inLoop b :: k))).map (·.filterMap (sumMD g L Rs Ts)) = some sums ∧ ∀ s ∈ sums, MGoodO P β f R Rs Ts ρ s) :
    ∀ ρ, J ρ → ∀ todo a w, todo = .inLoop b :: k ∨ todo = .code (.loop b) :: k → SRel β ρ (T.st todo) a w → Goes P f R todo a w := by
  suffices H : ∀ N ρ, μ ρ = N → J ρ → ∀ todo a w, todo = .inLoop b :: k ∨ todo = .code (.loop b) :: k → SRel β ρ (T.st todo) a w → Goes P f R todo a w from fun ρ => H _ ρ rfl
  intro N
  induction N using Nat.strongRecOn with
  | _ N ih =>
    intro ρ hN hJ todo a w htd r
    obtain ⟨cs', sums, hcs', hrun, hss⟩ := hs ρ hJ ⟨w, r.h⟩ r.c r.h.g fun ρ' hlt hJ' todo' a' w' ht' r' => ih (μ ρ') (by omega) ρ' rfl hJ' todo' a' w' ht' r'
    obtain ⟨ls, hls, hsum⟩ := Option.map_eq_some_iff.1 hrun
    have key : Goes P f R (.code b :: .inLoop b :: k) a w := run_sound hc hE hsp hm n pl f _ ls ρ a w _ hls ⟨r.d, r.n, r.t, r.h, hcs'⟩ (m_allO (g := g) (L := L) (sums := ls.filterMap (sumMO g L Rs Ts)) rfl (dcsM hsum hss))
    rcases htd with rfl | rfl
    · exact Goes.one (fun cs => step_inLoop) key
    · exact Goes.one (fun cs => step_loop) key
theorem calls_sumsE (hc : NoCount P) {E : Exts} (hE : ExtOk P E) {sp : CallF} (hsp : CallOk P β sp) (hm : P.follows .mixedOrders = true) {g : Gen} {L : List Nat} {pl : PL} {n : Nat} {fn : Func} {c : Code} {args : List AVal} {xs : List Value} {H : Heap} {nl : Nat} {cs : Cs} {w : World} {sums : List LM}
    (hf : P.funcs[f]? = some fn) (hb : fn.body = some c) (hrun : (run P E sp n pl f (entry fn c args H nl cs)).map (·.filterMap (sumMD g L Rs Ts)) = some sums) (hx : AVal.denL ρ args = some xs) (hr : HRel β ρ H nl w) (hcs : CRel ρ cs)
    (hs : ∀ s ∈ sums, MGoodO P β f R Rs Ts ρ s) : Calls P f xs.toArray w (fun e w' => ∃ v, e = .returned v ∧ R v w') := by
  obtain ⟨ls, hls, hsum⟩ := Option.map_eq_some_iff.1 hrun
  exact calls_sumsO hc hE hsp hm (g := g) (L := L) (Rs := Rs) (Ts := Ts) (sums := ls.filterMap (sumMO g L Rs Ts)) hf hb (by rw [hls]; rfl) hx hr hcs (dcsM hsum hs)
end

-- MEMORY THAT IS ONLY READ
/-- These blocks, that are only read, and nothing else. -/
theorem HRel.ro {w : World} {ρ : Env} {G : GP} {nl : Nat} (L : List (Nat × ABlk)) (h : ∀ p ∈ L, ∃ b o, ρ.N p.1 = some b ∧ w.heap[b]? = some o ∧ p.2.rel ρ false o) (hN : ∀ i, nl ≤ i → ρ.N i = none) (hG : G ρ.I ρ.B ρ.S ρ.V ρ.F) (hnb : (L.all fun p => p.2.nb) = true := by rfl) :
    HRel ⟨w, [], G⟩ ρ (ofP (L.map fun p => (p.1, (⟨p.2, false⟩ : HB)))) nl w := by
  have key : ∀ l k, (ofP (L.map fun p => (p.1, (⟨p.2, false⟩ : HB)))).get l = some k → ∃ b, (l, b) ∈ L ∧ k = ⟨b, false⟩ := fun l k hl => by
    obtain ⟨p, hp, he⟩ := List.mem_map.1 (ofP_mem hl)
    cases he
    exact ⟨p.2, hp, rfl⟩
  refine ⟨fun l k hl => ?_, fun l l' k k' hl _ hr _ => ?_, fun l k b' hl hr => ?_, hN, (fun l hl => by cases hl), Nat.le_refl _, fun _ _ _ => rfl, rfl, rfl, rfl, hG, BigAt.none fun l k hl => ?_⟩
  · obtain ⟨b, hm, rfl⟩ := key l k hl
    exact h _ hm
  · obtain ⟨_, _, rfl⟩ := key l k hl; cases hr
  · obtain ⟨_, _, rfl⟩ := key l k hl; cases hr
  · obtain ⟨b, hm, rfl⟩ := key l k hl
    exact List.all_eq_true.1 hnb _ hm
theorem den_slice_of {ρ : Env} {l b o n c : Nat} {off len cap : IT} (h1 : ρ.N l = some b) (h2 : off.den ρ = some (o : Int)) (h3 : len.den ρ = some (n : Int)) (h4 : cap.den ρ = some (c : Int)) : (AVal.slice l off len cap).den ρ = some (.slice (some ⟨b, o, none⟩) n c) := by
  have e2 : natOf (off.den ρ) = some o := by rw [h2]; rfl
  have e3 : natOf (len.den ρ) = some n := by rw [h3]; rfl
  have e4 : natOf (cap.den ρ) = some c := by rw [h4]; rfl
  simp only [AVal.den, h1, e2, e3, e4]
theorem denL2 {ρ : Env} {a b : AVal} {x y : Value} (h : a.den ρ = some x) (g : b.den ρ = some y) : AVal.denL ρ [a, b] = some [x, y] := by simp only [AVal.denL, h, g]
theorem denL1 {ρ : Env} {a : AVal} {x : Value} (h : a.den ρ = some x) : AVal.denL ρ [a] = some [x] := by simp only [AVal.denL, h]
theorem denL3 {ρ : Env} {a b c : AVal} {x y z : Value} (h : a.den ρ = some x) (g : b.den ρ = some y) (k : c.den ρ = some z) : AVal.denL ρ [a, b, c] = some [x, y, z] := by simp only [AVal.denL, h, g, k]
/-- How long a row is, and how much room it has. -/
theorem HRel.room {β : Base} {ρ : Env} {H : Heap} {nl : Nat} {w : World} (hh : HRel β ρ H nl w) {l : Nat} {t : AT} {ks : List IntKind} {e : TypeId} {an off cp : IT} {rw : Bool} (hl : H.get l = some ⟨.arr t ks e an off (some cp), rw⟩) (hk : ks ≠ []) :
    ∃ m c : Nat, an.den ρ = some (m : Int) ∧ cp.den ρ = some (c : Int) ∧ m ≤ c := by
  obtain ⟨b, ob, hb, hob, xs, c0, fr, el, m, st, rfl, hel, hd, hst, ⟨h1, h2⟩, hn, hty, hroom, hf⟩ := hh.blk l _ hl
  obtain ⟨c, hc, hs⟩ := hroom
  refine ⟨m, c, hn, hc, ?_⟩
  have h3 := h2.length_le
  rw [hty.1, List.length_drop] at h3
  have h4 : m * ks.length ≤ c * ks.length := by rw [← hs]; exact h3
  exact Nat.le_of_mul_le_mul_right h4 (List.length_pos_iff.2 hk)
end Go.Vm
end

/-
  A machine for abstract states over the model (part 29): objects in many blocks: what calls make of them; memory that a call may write.
-/
section
namespace Go.Vm

/-- What a call may do to such an object: it writes in its blocks, and in new ones. -/
structure BigStep (w w' : World) (F F' : Nat → Prop) : Prop where
  size : w.heap.size ≤ w'.heap.size
  same : ∀ y, y < w.heap.size → ¬ F y → w'.heap[y]? = w.heap[y]?
  tape : w'.tape = w.tape
  os : w'.os = w.os
  out : w'.output = w.output
  sub : ∀ y, F' y → F y ∨ w.heap.size ≤ y
theorem Framed.bigStep {w w' : World} (f : Framed w w') {F F' : Nat → Prop} (h : ∀ y, F' y → F y ∨ w.heap.size ≤ y) : BigStep w w' F F' := ⟨f.size, fun y hy _ => f.frame y hy, f.tape, f.os, f.out, h⟩
section
variable {β : Base} {ρ : Env} {H : Heap} {nl : Nat} {w : World}
/-- Such an object, and what may come of it. -/
theorem HRel.bigAt (h : HRel β ρ H nl w) {l k : Nat} {c : IT} {rw : Bool} (hl : H.get l = some ⟨.big k c, rw⟩) :
    ∃ b x F, ρ.N l = some b ∧ c.den ρ = some x ∧ fam k x w b F ∧ (rw = true → ∀ w' c' x' F', BigStep w w' F F' → fam k x' w' b F' → c'.den ρ = some x' → HRel β ρ (H.set l ⟨.big k c', true⟩) nl w') := by
  obtain ⟨Fp, hB⟩ := h.big
  obtain ⟨b, x, hN, hx, hf, h0⟩ := hB.ok _ _ _ _ hl
  refine ⟨b, x, Fp l, hN, hx, hf, fun hrw w' c' x' F' s hf' hx' => ?_⟩
  subst hrw
  have h0 := h0 rfl
  have hroot := fam_root hf
  have hlt : ∀ {l1 k1 b1}, H.get l1 = some k1 → ρ.N l1 = some b1 → b1 < w.heap.size := fun h1 h2 => h.lt h1 h2
  have apart1 : ∀ {l1 k1}, H.get l1 = some k1 → l1 ≠ l → ∀ {y}, ρ.N l1 = some y → ¬ Fp l y := fun {_ _} h1 hne {y} hy hF => (hB.apart _ _ _ _ _ _ hl h1 (Ne.symm hne) y hF).1 hy
  refine ⟨fun l1 k1 h1 => ?_, fun l1 l2 k1 k2 h1 h2 hr he => ?_, fun l1 k1 b1 h1 hr hb1 => ?_, h.fresh, h.ownN, Nat.le_trans h.size s.size, fun y hy hn => ?_, s.tape.trans h.tape, s.os.trans h.os, s.out.trans h.out, h.g, fun l1 => if l1 = l then F' else Fp l1, ⟨fun l1 k1 c1 rw1 h1 => ?_, fun l1 l2 k1 c1 rw1 h' h1 h2 hne y hy => ?_⟩⟩
  · rcases Tr.get_set h1 with ⟨rfl, rfl⟩ | ⟨hne, h1⟩
    · have := fam_lt hf' (fam_root hf')
      exact ⟨b, w'.heap[b], hN, Array.getElem?_eq_getElem this, x', hx'⟩
    · obtain ⟨b1, o, hb1, ho, hk⟩ := h.blk l1 k1 h1
      exact ⟨b1, o, hb1, by rw [s.same b1 (hlt h1 hb1) (apart1 h1 hne hb1)]; exact ho, hk⟩
  · rcases Tr.get_set h1 with ⟨e1, e2⟩ | ⟨hne, g1⟩
    · rcases Tr.get_set h2 with ⟨e3, e4⟩ | ⟨hne2, g2⟩
      · rw [e1, e3]
      · rw [e1]; rw [e1] at he; exact h.inj _ _ _ _ hl g2 rfl he
    · rcases Tr.get_set h2 with ⟨e3, e4⟩ | ⟨hne2, g2⟩
      · rw [e3]; rw [e3] at he; exact (h.inj _ _ _ _ hl g1 rfl he.symm).symm
      · exact h.inj _ _ _ _ g1 g2 hr he
  · rcases Tr.get_set h1 with ⟨rfl, rfl⟩ | ⟨hne, h1⟩
    · exact h.own _ _ b1 hl rfl hb1
    · exact h.own l1 k1 b1 h1 hr hb1
  · rw [s.same y (Nat.lt_of_lt_of_le hy h.size) (fun hF => by have := h0 y hF; omega)]
    exact h.frame y hy hn
  · rcases Tr.get_set h1 with ⟨rfl, e⟩ | ⟨hne, h1⟩
    · cases e
      simp only [if_true]
      exact ⟨b, x', hN, hx', hf', fun _ y hy => (s.sub y hy).elim (h0 y) (fun e => Nat.le_trans h.size e)⟩
    · simp only [if_neg hne]
      obtain ⟨b1, x1, e1, e2, e3, e4⟩ := hB.ok _ _ _ _ h1
      exact ⟨b1, x1, e1, e2, fam_local e3 fun y hy => s.same y (fam_lt e3 hy) (fun hF => (hB.apart _ _ _ _ _ _ hl h1 (Ne.symm hne) y hF).2 rfl hy), e4⟩
  · have old : ∀ {l1 k1 c1 rw1}, H.get l1 = some ⟨.big k1 c1, rw1⟩ → ∀ {y}, Fp l1 y → y < w.heap.size := fun {_ _ _ _} h1 {y} hy => by
      obtain ⟨_, _, _, _, e3, _⟩ := hB.ok _ _ _ _ h1
      exact fam_lt e3 hy
    rcases Tr.get_set h1 with ⟨rfl, e⟩ | ⟨hne1, g1⟩
    · rcases Tr.get_set h2 with ⟨e3, _⟩ | ⟨hne2, g2⟩
      · exact absurd e3.symm hne
      · simp only [if_true] at hy
        rw [if_neg hne2]
        rcases s.sub y hy with hF | hge
        · exact hB.apart _ _ _ _ _ _ hl g2 hne y hF
        · refine ⟨fun e => by have := hlt g2 e; omega, fun hnb hy2 => ?_⟩
          obtain ⟨n, c2, hk⟩ := ABlk.nb_of hnb
          obtain ⟨hk', r'⟩ := h'
          simp only at hk; subst hk
          have := old g2 hy2; omega
    · simp only [if_neg hne1] at hy
      rcases Tr.get_set h2 with ⟨rfl, e⟩ | ⟨hne2, g2⟩
      · cases e
        obtain ⟨a1, a2⟩ := hB.apart _ _ _ _ _ _ g1 hl hne y hy
        refine ⟨a1, fun _ hy2 => ?_⟩
        simp only [if_true] at hy2
        rcases s.sub y hy2 with hF | hge
        · exact a2 rfl hF
        · have := old g1 hy; omega
      · rw [if_neg hne2]
        exact hB.apart _ _ _ _ _ _ g1 g2 hne y hy
/-- A new one. -/
theorem HRel.bigNew (h : HRel β ρ H nl w) {w' : World} (f : Framed w w') {k b : Nat} {c : IT} {x : Int} {F : Nat → Prop} (hf : fam k x w' b F) (hF : ∀ y, F y → w.heap.size ≤ y) (hx : c.den ρ = some x) :
    HRel β (ρ.put nl b) (H.set nl ⟨.big k c, true⟩) (nl + 1) w' := by
  have hle : ρ.Le (ρ.put nl b) := Env.le_put (h.fresh nl (Nat.le_refl _))
  have h1 := h.framed f
  have hn := h1.num b
  have hlt : ∀ {l1 k1 b1}, H.get l1 = some k1 → (ρ.put nl b).N l1 = some b1 → l1 ≠ nl → b1 < w.heap.size := fun {l1 k1 b1} g1 g2 hne => by
    rw [Env.put_other ρ b hne] at g2
    exact h.lt g1 g2
  have hnlt : ∀ {l1 k1}, H.get l1 = some k1 → l1 ≠ nl := fun {l1 k1} g1 e => by
    obtain ⟨b1, _, hb1, _⟩ := h.blk l1 k1 g1
    rw [e, h.fresh nl (Nat.le_refl _)] at hb1; cases hb1
  obtain ⟨Fq, hQ⟩ := h.big
  have hQ' := (hQ.agree fun y hy => f.frame y hy).le hle fun l k hl => Env.put_other ρ b (hnlt hl)
  have oldQ : ∀ {l1 k1 c1 rw1}, H.get l1 = some ⟨.big k1 c1, rw1⟩ → ∀ {y}, Fq l1 y → y < w.heap.size := fun {_ _ _ _} g1 {y} hy => by
    obtain ⟨_, _, _, _, e3, _⟩ := hQ.ok _ _ _ _ g1
    exact fam_lt e3 hy
  have hroot := hF b (fam_root hf)
  refine ⟨fun l k' hl => ?_, fun l l' k1 k2 hl hl' hr he => ?_, fun l k' b' hl hr hb' => ?_, hn.fresh, hn.ownN, hn.size, hn.frame, hn.tape, hn.os, hn.out, hn.g, fun l1 => if l1 = nl then F else Fq l1, ⟨fun l1 k1 c1 rw1 g1 => ?_, fun l1 l2 k1 c1 rw1 h' g1 g2 hne y hy => ?_⟩⟩
  · rcases Tr.get_set hl with ⟨rfl, rfl⟩ | ⟨hne', hl⟩
    · have := fam_lt hf (fam_root hf)
      exact ⟨b, w'.heap[b], Env.put_same .., Array.getElem?_eq_getElem this, x, IT.den_mono hle hx⟩
    · exact hn.blk l k' hl
  · rcases Tr.get_set hl with ⟨e1, e2⟩ | ⟨hne1, g1⟩
    · rcases Tr.get_set hl' with ⟨e3, e4⟩ | ⟨hne2, g2⟩
      · rw [e1, e3]
      · rw [e1, Env.put_same] at he
        have := hlt g2 he.symm hne2
        omega
    · rcases Tr.get_set hl' with ⟨e3, e4⟩ | ⟨hne2, g2⟩
      · rw [e3, Env.put_same] at he
        have := hlt g1 he hne1
        omega
      · exact hn.inj l l' k1 k2 g1 g2 hr he
  · rcases Tr.get_set hl with ⟨rfl, rfl⟩ | ⟨hne', hl⟩
    · rw [Env.put_same] at hb'; cases hb'
      exact .inl (Nat.le_trans h.size hroot)
    · exact hn.own l k' b' hl hr hb'
  · rcases Tr.get_set g1 with ⟨rfl, e⟩ | ⟨hne', g1⟩
    · cases e
      simp only [if_true]
      exact ⟨b, x, Env.put_same .., IT.den_mono hle hx, hf, fun _ y hy => Nat.le_trans h.size (hF y hy)⟩
    · simp only [if_neg hne']
      exact hQ'.ok _ _ _ _ g1
  · rcases Tr.get_set g1 with ⟨rfl, e⟩ | ⟨hne1, g1⟩
    · rcases Tr.get_set g2 with ⟨e3, _⟩ | ⟨hne2, g2⟩
      · exact absurd e3.symm hne
      · simp only [if_true] at hy
        rw [if_neg hne2]
        have hge := hF y hy
        refine ⟨fun e => by have := hlt g2 e hne2; omega, fun hnb hy2 => ?_⟩
        obtain ⟨n, c2, hk⟩ := ABlk.nb_of hnb
        obtain ⟨hk', r'⟩ := h'
        simp only at hk; subst hk
        have := oldQ g2 hy2; omega
    · simp only [if_neg hne1] at hy
      have hy2 := oldQ g1 hy
      rcases Tr.get_set g2 with ⟨rfl, e⟩ | ⟨hne2, g2⟩
      · refine ⟨fun e => ?_, fun _ hy3 => ?_⟩
        · rw [Env.put_same] at e; cases e; omega
        · simp only [if_true] at hy3
          have := hF y hy3; omega
      · rw [if_neg hne2]
        exact hQ'.apart _ _ _ _ _ _ g1 g2 hne y hy
end
/-- These blocks; those of 'own' may be written. -/
theorem HRel.owned {w : World} {ρ : Env} {G : GP} {nl : Nat} {own : List Nat} (L : List (Nat × HB)) (h : ∀ p ∈ L, ∃ b o, ρ.N p.1 = some b ∧ w.heap[b]? = some o ∧ p.2.k.rel ρ p.2.rw o) (inj : ∀ p ∈ L, ∀ q ∈ L, p.2.rw = true → ρ.N p.1 = ρ.N q.1 → p.1 = q.1) (ho : ∀ p ∈ L, p.2.rw = true → p.1 ∈ own)
    (hN : ∀ i, nl ≤ i → ρ.N i = none) (hown : ∀ l ∈ own, l < nl) (hG : G ρ.I ρ.B ρ.S ρ.V ρ.F) (hnb : (L.all fun p => p.2.k.nb) = true := by rfl) : HRel ⟨w, own, G⟩ ρ (ofP L) nl w := by
  refine ⟨fun l k hl => ?_, fun l l' k k' hl hl' hr he => ?_, fun l k b' hl hr hb => ?_, hN, hown, Nat.le_refl _, fun _ _ _ => rfl, rfl, rfl, rfl, hG, BigAt.none fun l k hl => ?_⟩
  · exact h _ (ofP_mem hl)
  · exact inj _ (ofP_mem hl) _ (ofP_mem hl') hr he
  · exact .inr ⟨l, ho _ (ofP_mem hl) hr, hb⟩
  · exact List.all_eq_true.1 hnb _ (ofP_mem hl)
end Go.Vm
end

/-
  A machine for abstract states over the model (part 30): blocks that a call has laid are taken over, one by one.
-/
section
namespace Go.Vm

/-- All that has a name lies below s, or among A. -/
structure HX (β : Base) (ρ : Env) (H : Heap) (nl : Nat) (w : World) (s : Nat) (A : Nat → Prop) : Prop where
  h : HRel β ρ H nl w
  bl : ∀ l k b, H.get l = some k → ρ.N l = some b → b < s ∨ A b
  bg : ∃ Fp, BigAt ρ H β.w0.heap.size w Fp ∧ ∀ l k c rw y, H.get l = some ⟨.big k c, rw⟩ → Fp l y → y < s ∨ A y
  le : β.w0.heap.size ≤ s
section
variable {β : Base} {ρ : Env} {H : Heap} {nl : Nat} {w w' : World} {s : Nat} {A : Nat → Prop}
theorem HX.start (h : HRel β ρ H nl w) (f : Framed w w') : HX β ρ H nl w' w.heap.size fun _ => False := by
  obtain ⟨Fp, hB⟩ := h.big
  refine ⟨h.framed f, fun l k b hl hb => .inl (h.lt hl hb), ⟨Fp, hB.agree fun y hy => f.frame y hy, fun l k c rw y hl hy => ?_⟩, h.size⟩
  obtain ⟨_, _, _, _, e3, _⟩ := hB.ok _ _ _ _ hl
  exact .inl (fam_lt e3 hy)
theorem HX.ne (h : HX β ρ H nl w s A) {l : Nat} {k : HB} (hl : H.get l = some k) : l ≠ nl := fun e => by
  obtain ⟨b, _, hb, _⟩ := h.h.blk l k hl
  rw [e, h.h.fresh nl (Nat.le_refl _)] at hb; cases hb
theorem HX.num (h : HX β ρ H nl w s A) (c : Nat) : HX β (ρ.put nl c) H (nl + 1) w s A := by
  have hle : ρ.Le (ρ.put nl c) := Env.le_put (h.h.fresh nl (Nat.le_refl _))
  obtain ⟨Fp, hB, hF⟩ := h.bg
  refine ⟨h.h.num c, fun l k b hl hb => h.bl l k b hl ?_, ⟨Fp, hB.le hle fun l k hl => Env.put_other ρ c (h.ne hl), hF⟩, h.le⟩
  rw [Env.put_other ρ c (h.ne hl)] at hb; exact hb
theorem HX.row (h : HX β ρ H nl w s A) {b : Nat} {o : Obj} {k : ABlk} {rw : Bool} (hb : s ≤ b) (hA : ¬ A b) (ho : w.heap[b]? = some o) (hk : k.rel (ρ.put nl b) rw o) (hnb : k.nb = true := by rfl) :
    HX β (ρ.put nl b) (H.set nl ⟨k, rw⟩) (nl + 1) w s fun y => A y ∨ y = b := by
  have hn := h.num b
  have hne : ∀ l k' c, H.get l = some k' → ρ.N l = some c → c ≠ b := fun l k' c hl hc e => by
    subst e
    rcases h.bl l k' c hl hc with h1 | h1
    · omega
    · exact hA h1
  obtain ⟨Fp, hB, hF⟩ := hn.bg
  have hset : BigAt (ρ.put nl b) (H.set nl ⟨k, rw⟩) β.w0.heap.size w Fp := hB.set hnb (Env.put_same ..) (fun l k' c rw' hl _ hy => by
    rcases hF l k' c rw' b hl hy with h1 | h1
    · omega
    · exact hA h1) (fun _ _ _ => rfl)
  refine ⟨⟨fun l k' hl => ?_, fun l l' k1 k2 hl hl' hr he => ?_, fun l k' b' hl hr hb' => ?_, hn.h.fresh, hn.h.ownN, hn.h.size, hn.h.frame, hn.h.tape, hn.h.os, hn.h.out, hn.h.g, Fp, hset⟩, fun l k' b' hl hb' => ?_, ⟨Fp, hset, fun l k' c rw' y hl hy => ?_⟩, h.le⟩
  · rcases Tr.get_set hl with ⟨rfl, rfl⟩ | ⟨_, hl⟩
    · exact ⟨b, o, Env.put_same .., ho, hk⟩
    · exact hn.h.blk l k' hl
  · rcases Tr.get_set hl with ⟨e1, e2⟩ | ⟨hne1, g1⟩
    · rcases Tr.get_set hl' with ⟨e3, e4⟩ | ⟨hne2, g2⟩
      · rw [e1, e3]
      · obtain ⟨c, o', hc, _⟩ := h.h.blk l' k2 g2
        rw [e1, Env.put_same, Env.put_other ρ _ hne2, hc] at he
        injection he with he
        exact absurd he.symm (hne l' k2 c g2 hc)
    · rcases Tr.get_set hl' with ⟨e3, e4⟩ | ⟨hne2, g2⟩
      · obtain ⟨c, o', hc, _⟩ := h.h.blk l k1 g1
        rw [e3, Env.put_same, Env.put_other ρ _ hne1, hc] at he
        injection he with he
        exact absurd he (hne l k1 c g1 hc)
      · exact hn.h.inj l l' k1 k2 g1 g2 hr he
  · rcases Tr.get_set hl with ⟨rfl, rfl⟩ | ⟨_, hl⟩
    · rw [Env.put_same] at hb'; cases hb'
      exact .inl (Nat.le_trans h.le hb)
    · exact hn.h.own l k' b' hl hr hb'
  · rcases Tr.get_set hl with ⟨rfl, rfl⟩ | ⟨_, hl⟩
    · rw [Env.put_same] at hb'; cases hb'; exact .inr (.inr rfl)
    · exact (hn.bl l k' b' hl hb').imp id .inl
  · rcases Tr.get_set hl with ⟨rfl, e⟩ | ⟨_, hl⟩
    · cases e; cases hnb
    · exact (hF l k' c rw' y hl hy).imp id .inl
theorem HX.big (h : HX β ρ H nl w s A) {k b : Nat} {c : IT} {x : Int} {F : Nat → Prop} (hf : fam k x w b F) (hF : ∀ y, F y → s ≤ y ∧ ¬ A y) (hx : c.den ρ = some x) :
    HX β (ρ.put nl b) (H.set nl ⟨.big k c, true⟩) (nl + 1) w s fun y => A y ∨ F y := by
  have hn := h.num b
  have hle : ρ.Le (ρ.put nl b) := Env.le_put (h.h.fresh nl (Nat.le_refl _))
  obtain ⟨Fq, hQ, hq⟩ := hn.bg
  have hnot : ∀ {l1 k1 b1}, H.get l1 = some k1 → (ρ.put nl b).N l1 = some b1 → ¬ F b1 := fun {l1 k1 b1} g1 g2 hy => by
    obtain ⟨h1, h2⟩ := hF _ hy
    rcases hn.bl l1 k1 b1 g1 g2 with h3 | h3
    · omega
    · exact h2 h3
  have hnotF : ∀ {l1 k1 c1 rw1 y}, H.get l1 = some ⟨.big k1 c1, rw1⟩ → Fq l1 y → ¬ F y := fun {l1 k1 c1 rw1 y} g1 g2 hy => by
    obtain ⟨h1, h2⟩ := hF _ hy
    rcases hq l1 k1 c1 rw1 y g1 g2 with h3 | h3
    · omega
    · exact h2 h3
  have hset : BigAt (ρ.put nl b) (H.set nl ⟨.big k c, true⟩) β.w0.heap.size w fun l1 => if l1 = nl then F else Fq l1 := by
    refine ⟨fun l1 k1 c1 rw1 g1 => ?_, fun l1 l2 k1 c1 rw1 h' g1 g2 hne y hy => ?_⟩
    · rcases Tr.get_set g1 with ⟨rfl, e⟩ | ⟨hne', g1⟩
      · cases e
        simp only [if_true]
        exact ⟨b, x, Env.put_same .., IT.den_mono hle hx, hf, fun _ y hy => Nat.le_trans h.le (hF y hy).1⟩
      · simp only [if_neg hne']
        exact hQ.ok _ _ _ _ g1
    · rcases Tr.get_set g1 with ⟨rfl, e⟩ | ⟨hne1, g1'⟩
      · rcases Tr.get_set g2 with ⟨e3, _⟩ | ⟨hne2, g2⟩
        · exact absurd e3.symm hne
        · simp only [if_true] at hy
          rw [if_neg hne2]
          refine ⟨fun e => hnot g2 e hy, fun hnb hy2 => ?_⟩
          obtain ⟨n, c2, hk⟩ := ABlk.nb_of hnb
          obtain ⟨hk', r'⟩ := h'
          simp only at hk; subst hk
          exact hnotF g2 hy2 hy
      · simp only [if_neg hne1] at hy
        rcases Tr.get_set g2 with ⟨rfl, e⟩ | ⟨hne2, g2⟩
        · refine ⟨fun e => ?_, fun _ hy3 => ?_⟩
          · rw [Env.put_same] at e; cases e
            exact hnotF g1' hy (fam_root hf)
          · simp only [if_true] at hy3
            exact hnotF g1' hy hy3
        · rw [if_neg hne2]
          exact hQ.apart _ _ _ _ _ _ g1' g2 hne y hy
  refine ⟨⟨fun l k' hl => ?_, fun l l' k1 k2 hl hl' hr he => ?_, fun l k' b' hl hr hb' => ?_, hn.h.fresh, hn.h.ownN, hn.h.size, hn.h.frame, hn.h.tape, hn.h.os, hn.h.out, hn.h.g, _, hset⟩, fun l k' b' hl hb' => ?_, ⟨_, hset, fun l k' c' rw' y hl hy => ?_⟩, h.le⟩
  · rcases Tr.get_set hl with ⟨rfl, rfl⟩ | ⟨_, hl⟩
    · have := fam_lt hf (fam_root hf)
      exact ⟨b, w.heap[b], Env.put_same .., Array.getElem?_eq_getElem this, x, IT.den_mono hle hx⟩
    · exact hn.h.blk l k' hl
  · rcases Tr.get_set hl with ⟨e1, e2⟩ | ⟨hne1, g1⟩
    · rcases Tr.get_set hl' with ⟨e3, e4⟩ | ⟨hne2, g2⟩
      · rw [e1, e3]
      · rw [e1, Env.put_same] at he
        exact absurd (fam_root hf) (hnot g2 he.symm)
    · rcases Tr.get_set hl' with ⟨e3, e4⟩ | ⟨hne2, g2⟩
      · rw [e3, Env.put_same] at he
        exact absurd (fam_root hf) (hnot g1 he)
      · exact hn.h.inj l l' k1 k2 g1 g2 hr he
  · rcases Tr.get_set hl with ⟨rfl, rfl⟩ | ⟨_, hl⟩
    · rw [Env.put_same] at hb'; cases hb'
      exact .inl (Nat.le_trans h.le (hF b (fam_root hf)).1)
    · exact hn.h.own l k' b' hl hr hb'
  · rcases Tr.get_set hl with ⟨rfl, rfl⟩ | ⟨_, hl⟩
    · rw [Env.put_same] at hb'; cases hb'; exact .inr (.inr (fam_root hf))
    · exact (hn.bl l k' b' hl hb').imp id .inl
  · rcases Tr.get_set hl with ⟨rfl, e⟩ | ⟨hne', hl⟩
    · simp only [if_true] at hy
      exact .inr (.inr hy)
    · simp only [if_neg hne'] at hy
      exact (hq l k' c' rw' y hl hy).imp id .inl
end
end Go.Vm
end
