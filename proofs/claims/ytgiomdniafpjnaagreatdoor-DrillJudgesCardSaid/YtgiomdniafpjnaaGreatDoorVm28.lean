/-
  A machine for abstract states over the model (part 28): small laws for loops; ends without their conditions; rows that are only read.
-/
import Derived.Test.YtgiomdniafpjnaaGreatDoorVm27
namespace Go.Vm

-- SMALL LAWS
theorem one {α : Type} {p : α → Prop} {a : α} (h : p a) : ∀ x ∈ [a], p x := fun _ hx => by rw [List.mem_singleton.1 hx]; exact h
theorem CRel_app {ρ : Env} {a b : Cs} : CRel ρ (a ++ b) ↔ CRel ρ a ∧ CRel ρ b :=
  ⟨fun h => ⟨fun p hp => h p (List.mem_append.2 (.inl hp)), fun p hp => h p (List.mem_append.2 (.inr hp))⟩, fun h p hp => (List.mem_append.1 hp).elim (h.1 p) (h.2 p)⟩
theorem c0 {ρ : Env} : CRel ρ [] := CRel_nil.2 trivial
theorem c1 {ρ : Env} {t : BT} {b : Bool} {cs : Cs} (h : t.den ρ = some b) (c : CRel ρ cs) : CRel ρ ((t, b) :: cs) := CRel_cons.2 ⟨h, c⟩
theorem wrapI {x : Int} (h : -9223372036854775808 ≤ x) (h2 : x < 9223372036854775808) : IntKind.i64.wrap x = x := wrap_in .i64 x (by simp only [lo]; omega) (by simp only [hi]; omega)
section
variable {ρ : Env}
theorem litD (n : Int) : (IT.lit n).den ρ = some n := rfl
theorem varD {i : Nat} {x : Int} (h : ρ.I i = x) : (IT.var i).den ρ = some x := congrArg some h
theorem nvD {i n : Nat} (h : ρ.N i = some n) : (IT.nv i).den ρ = some (n : Int) := by simp only [IT.den, h]; rfl
theorem unD {k : Nat} {t u : IT} {x y : Int} (h : t.den ρ = some x) (g : u.den ρ = some y) : (IT.un k t u).den ρ = some (univ k x y) := by simp only [IT.den, h, g]
theorem fnD {k : Nat} {t u : IT} {x y : Int} (h : t.den ρ = some x) (g : u.den ρ = some y) : (IT.fn k t u).den ρ = some (ρ.F k x y) := by simp only [IT.den, h, g]
theorem binD {op : BinOp} {k : IntKind} {a b : IT} {x y : Int} (h : a.den ρ = some x) (g : b.den ρ = some y) : (IT.bin op k a b).den ρ = intBin op k x y := by simp only [IT.den, h, g]
theorem cvD {k : IntKind} {a : IT} {x : Int} (h : a.den ρ = some x) : (IT.cv k a).den ρ = some (k.wrap x) := by simp only [IT.den, h, Option.map_some]
theorem selD {a sz j : Nat} {i : IT} {x : Nat} (h : i.den ρ = some (x : Int)) : (IT.sel a sz j i).den ρ = some (selI (ρ.V a) (x * sz + j)) := by simp only [IT.den, h, Option.map_some, Int.toNat_natCast]
theorem elemD {o i : IT} {sz j x y : Nat} (h : o.den ρ = some (x : Int)) (g : i.den ρ = some (y : Int)) : (IT.elem o sz j i).den ρ = some ((x + (y * sz + j) : Nat) : Int) := by simp only [IT.den, h, g, Int.toNat_natCast]; rfl
theorem plusD {a b : IT} {x y : Int} (h : a.den ρ = some x) (g : b.den ρ = some y) (h1 : -9223372036854775808 ≤ x + y) (h2 : x + y < 9223372036854775808) : (IT.bin .add .i64 a b).den ρ = some (x + y) := by
  rw [binD h g]; show some (IntKind.i64.wrap (x + y)) = _; rw [wrapI h1 h2]
theorem minusD {a b : IT} {x y : Int} (h : a.den ρ = some x) (g : b.den ρ = some y) (h1 : -9223372036854775808 ≤ x - y) (h2 : x - y < 9223372036854775808) : (IT.bin .sub .i64 a b).den ρ = some (x - y) := by
  rw [binD h g]; show some (IntKind.i64.wrap (x - y)) = _; rw [wrapI h1 h2]
/-- One more. -/
theorem upD {a : IT} {x : Nat} (h : a.den ρ = some (x : Int)) (hx : x < 4611686018427387904) : (IT.bin .add .i64 a (.lit 1)).den ρ = some ((x + 1 : Nat) : Int) := by
  rw [plusD h (litD 1) (by omega) (by omega)]; rfl
theorem mxD {a b : IT} {x y : Int} (h : a.den ρ = some x) (g : b.den ρ = some y) : (IT.mx a b).den ρ = some (if y > x then y else x) := by simp only [IT.den, h, g]
section
variable {a b : IT} {x y : Int} (h : a.den ρ = some x) (g : b.den ρ = some y)
include h g
theorem cmpD (op : BinOp) : (BT.cmp op a b).den ρ = intCmp op x y := by simp only [BT.den, h, g]
theorem lssT (e : x < y) : (BT.cmp .lss a b).den ρ = some true := by rw [cmpD h g]; simp only [intCmp, e, decide_true]
theorem lssF (e : y ≤ x) : (BT.cmp .lss a b).den ρ = some false := by rw [cmpD h g]; simp only [intCmp, Option.some.injEq, decide_eq_false_iff_not]; omega
theorem leqT (e : x ≤ y) : (BT.cmp .leq a b).den ρ = some true := by rw [cmpD h g]; simp only [intCmp, e, decide_true]
theorem leqF (e : y < x) : (BT.cmp .leq a b).den ρ = some false := by rw [cmpD h g]; simp only [intCmp, Option.some.injEq, decide_eq_false_iff_not]; omega
theorem gtrT (e : y < x) : (BT.cmp .gtr a b).den ρ = some true := by rw [cmpD h g]; simp only [intCmp, Option.some.injEq, decide_eq_true_eq]; omega
theorem gtrF (e : x ≤ y) : (BT.cmp .gtr a b).den ρ = some false := by rw [cmpD h g]; simp only [intCmp, Option.some.injEq, decide_eq_false_iff_not]; omega
theorem geqT (e : y ≤ x) : (BT.cmp .geq a b).den ρ = some true := by rw [cmpD h g]; simp only [intCmp, Option.some.injEq, decide_eq_true_eq]; omega
theorem geqF (e : x < y) : (BT.cmp .geq a b).den ρ = some false := by rw [cmpD h g]; simp only [intCmp, Option.some.injEq, decide_eq_false_iff_not]; omega
theorem eqlT (e : x = y) : (BT.cmp .eql a b).den ρ = some true := by rw [cmpD h g]; simp only [intCmp, e, beq_self_eq_true]
theorem eqlF (e : x ≠ y) : (BT.cmp .eql a b).den ρ = some false := by rw [cmpD h g]; simp only [intCmp, Option.some.injEq, beq_eq_false_iff_ne]; exact e
theorem neqT (e : x ≠ y) : (BT.cmp .neq a b).den ρ = some true := by rw [cmpD h g]; simp only [intCmp, Option.some.injEq, bne_iff_ne]; exact e
theorem neqF (e : x = y) : (BT.cmp .neq a b).den ρ = some false := by rw [cmpD h g]; simp only [intCmp, e, bne_self_eq_false]
end
theorem notD {t : BT} {b : Bool} (h : t.den ρ = some b) : (BT.not t).den ρ = some (!b) := by simp only [BT.den, h, Option.map_some]
theorem andD {t u : BT} {a b : Bool} (h : t.den ρ = some a) (g : u.den ρ = some b) : (BT.and t u).den ρ = some (a && b) := by simp only [BT.den, h, g]
theorem seqD (a b : ST) : (BT.seq a b).den ρ = some ((a.den ρ).data.toList == (b.den ρ).data.toList) := by simp only [BT.den, Lib.toList_data]
end
/-- A name that a substitution gives. -/
theorem sbI {σ : Sub} {ρ : Env} {k : Nat} {t : IT} {x : Int} (h : lk σ.I k = some t) (d : t.den ρ = some x) : (σ.app ρ).I k = x := by simp only [Sub.app, h, d, Option.getD_some]

-- ENDS WITHOUT THEIR CONDITIONS
def LS.dc : LS → LS
  | .ret v _ => .ret v []
  | .next q todo _ σ => .next q todo [] σ
  | .stop cs => .stop cs
  | .bad => .bad
def sumD (g : Gen) (Ts : List Tpl) (l : Leaf) : Option LS := (sumL g Ts l).map LS.dc
def LM.dc : LM → LM
  | .done q _ σ => .done q [] σ
  | .next q todo _ σ => .next q todo [] σ
  | .stop cs => .stop cs
  | .bad => .bad
def sumMD (g : Gen) (L : List Nat) (Rs Ts : List Tpl) (l : Leaf) : Option LM := (sumMO g L Rs Ts l).map LM.dc
section
variable {P : Program} {β : Base} {f : FuncId} {Q : Value → Prop} {R : Value → World → Prop} {Rs Ts : List Tpl} {ρ : Env}
theorem SumGood.of_dc : ∀ {s : LS}, SumGood P β f Q Ts ρ s.dc → SumGood P β f Q Ts ρ s
  | .ret _ _, h => fun ρ' hle _ => h ρ' hle c0
  | .next _ _ _ _, h => fun ρ' hle _ => h ρ' hle c0
  | .stop _, h => h
  | .bad, h => h
theorem MGoodO.of_dc : ∀ {s : LM}, MGoodO P β f R Rs Ts ρ s.dc → MGoodO P β f R Rs Ts ρ s
  | .done _ _ _, h => ⟨h.1, fun ρ' hle _ => h.2 ρ' hle c0⟩
  | .next _ _ _ _, h => ⟨h.1, fun ρ' hle _ => h.2 ρ' hle c0⟩
  | .stop _, h => h
  | .bad, h => h
theorem dcs {g : Gen} {ls : List Leaf} {sums : List LS} (h : ls.filterMap (sumD g Ts) = sums) (hs : ∀ s ∈ sums, SumGood P β f Q Ts ρ s) : ∀ s ∈ ls.filterMap (sumL g Ts), SumGood P β f Q Ts ρ s := by
  intro s hm
  obtain ⟨l, hl, he⟩ := List.mem_filterMap.1 hm
  exact SumGood.of_dc (hs _ (h ▸ List.mem_filterMap.2 ⟨l, hl, by simp only [sumD, he, Option.map_some]⟩))
theorem dcsM {g : Gen} {L : List Nat} {ls : List Leaf} {sums : List LM} (h : ls.filterMap (sumMD g L Rs Ts) = sums) (hs : ∀ s ∈ sums, MGoodO P β f R Rs Ts ρ s) : ∀ s ∈ ls.filterMap (sumMO g L Rs Ts), MGoodO P β f R Rs Ts ρ s := by
  intro s hm
  obtain ⟨l, hl, he⟩ := List.mem_filterMap.1 hm
  exact MGoodO.of_dc (hs _ (h ▸ List.mem_filterMap.2 ⟨l, hl, by simp only [sumMD, he, Option.map_some]⟩))
theorem nextS {q : Nat} {todo : List Item} {cs : Cs} {σ : Sub} {T : Tpl} (hT : Ts[q]? = some T) (h : ∀ ρ', ρ.Le ρ' → GP.at β.G ρ' → GP.at β.G (σ.app ρ') ∧ CRel (σ.app ρ') T.cs ∧ ∀ a w, SRel β (σ.app ρ') (T.st todo) a w → Goes P f (fun v w' => Q v ∧ Framed β.w0 w') todo a w) : SumGood P β f Q Ts ρ (.next q todo cs σ) :=
  fun ρ' hle _ T' hT' hG => by obtain rfl := Option.some.inj (hT.symm.trans hT'); exact h ρ' hle hG
theorem retS {u : AVal} {cs : Cs} {z : Value} (hd : ∀ ρ', ρ.Le ρ' → u.den ρ' = some z) (hq : Q z) : SumGood P β f Q Ts ρ (.ret u cs) :=
  fun ρ' hle _ x hx => by rw [hd ρ' hle] at hx; cases hx; exact hq
theorem nextR {q : Nat} {todo : List Item} {cs : Cs} {σ : Sub} {T : Tpl} (hT : Ts[q]? = some T) (h : ∀ ρ', ρ.Le ρ' → GP.at β.G ρ' → GP.at β.G (σ.app ρ') ∧ CRel (σ.app ρ') T.cs ∧ ∀ a w, SRel β (σ.app ρ') (T.st todo) a w → Goes P f R todo a w) : MGoodO P β f R Rs Ts ρ (.next q todo cs σ) :=
  ⟨trivial, fun ρ' hle _ T' hT' hG => by obtain rfl := Option.some.inj (hT.symm.trans hT'); exact h ρ' hle hG⟩
theorem doneR {q : Nat} {cs : Cs} {σ : Sub} {T : Tpl} (hT : Rs[q]? = some T) (h : ∀ ρ', ρ.Le ρ' → GP.at β.G ρ' → GP.at β.G (σ.app ρ') ∧ CRel (σ.app ρ') T.cs ∧ ∀ x w', SRel β (σ.app ρ') (T.st []) ⟨#[x], []⟩ w' → R x w') : MGoodO P β f R Rs Ts ρ (.done q cs σ) :=
  ⟨trivial, fun ρ' hle _ T' hT' hG => by obtain rfl := Option.some.inj (hT.symm.trans hT'); exact h ρ' hle hG⟩
/-- A loop, each round under what is known there; the ends without their conditions. -/
theorem loop_goesD (hc : NoCount P) {E : Exts} (hE : ExtOk P E) {sp : CallF} (hsp : CallOk P β sp) (hm : P.follows .mixedOrders = true) (hown : β.own = noO) {g : Gen} {pl : PL} {T : Tpl} {b : Code} {k : List Item} {n : Nat} (J : Env → Prop) (μ : Env → Nat)
    (hs : ∀ ρ, J ρ → (∃ w, HRel β ρ (ofP T.H) T.nl w) → CRel ρ T.cs → GP.at β.G ρ → (∀ ρ', μ ρ' < μ ρ → J ρ' → ∀ todo a w, todo = .inLoop b :: k ∨ todo = .code (.loop b) :: k → SRel β ρ' (T.st todo) a w → Goes P f (fun v w' => Q v ∧ Framed β.w0 w') todo a w) →
      ∃ cs' sums, CRel ρ cs' ∧ (run P E sp n pl f ((⟨T.tm, T.nt, T.H, T.nl, cs', T.dep⟩ : Tpl).st (.code b :: .inLoop b :: k))).map (·.filterMap (sumD g Ts)) = some sums ∧ ∀ s ∈ sums, SumGood P β f Q Ts ρ s) :
    ∀ ρ, J ρ → ∀ todo a w, todo = .inLoop b :: k ∨ todo = .code (.loop b) :: k → SRel β ρ (T.st todo) a w → Goes P f (fun v w' => Q v ∧ Framed β.w0 w') todo a w := by
  refine loop_goesS hc hE hsp hm hown (g := g) (pl := pl) (Ts := Ts) (n := n) J μ fun ρ hJ hH hcs hG ih => ?_
  obtain ⟨cs', sums, h1, h2, h3⟩ := hs ρ hJ hH hcs hG ih
  obtain ⟨ls, hls, hsum⟩ := Option.map_eq_some_iff.1 h2
  exact ⟨cs', ls.filterMap (sumL g Ts), h1, by rw [hls]; rfl, dcs hsum h3⟩
theorem calls_sumsD (hc : NoCount P) {E : Exts} (hE : ExtOk P E) {sp : CallF} (hsp : CallOk P β sp) (hm : P.follows .mixedOrders = true) (hown : β.own = noO) {g : Gen} {pl : PL} {n : Nat} {fn : Func} {c : Code} {args : List AVal} {xs : List Value} {H : Heap} {nl : Nat} {cs : Cs} {w : World} {sums : List LS}
    (hf : P.funcs[f]? = some fn) (hb : fn.body = some c) (hrun : (run P E sp n pl f (entry fn c args H nl cs)).map (·.filterMap (sumD g Ts)) = some sums) (hx : AVal.denL ρ args = some xs) (hr : HRel β ρ H nl w) (hcs : CRel ρ cs)
    (hs : ∀ s ∈ sums, SumGood P β f Q Ts ρ s) : Calls P f xs.toArray w (fun e w' => ∃ v, e = .returned v ∧ Q v ∧ Framed β.w0 w') := by
  obtain ⟨ls, hls, hsum⟩ := Option.map_eq_some_iff.1 hrun
  exact calls_sums hc hE hsp hm hown (g := g) (Ts := Ts) (sums := ls.filterMap (sumL g Ts)) hf hb (by rw [hls]; rfl) hx hr hcs (dcs hsum hs)
/-- The same with memory. -/
theorem loop_goesE (hc : NoCount P) {E : Exts} (hE : ExtOk P E) {sp : CallF} (hsp : CallOk P β sp) (hm : P.follows .mixedOrders = true) {g : Gen} {L : List Nat} {pl : PL} {T : Tpl} {b : Code} {k : List Item} {n : Nat} (J : Env → Prop) (μ : Env → Nat)
    (hs : ∀ ρ, J ρ → (∃ w, HRel β ρ (ofP T.H) T.nl w) → CRel ρ T.cs → GP.at β.G ρ → (∀ ρ', μ ρ' < μ ρ → J ρ' → ∀ todo a w, todo = .inLoop b :: k ∨ todo = .code (.loop b) :: k → SRel β ρ' (T.st todo) a w → Goes P f R todo a w) →
      ∃ cs' sums, CRel ρ cs' ∧ (run P E sp n pl f ((⟨T.tm, T.nt, T.H, T.nl, cs', T.dep⟩ : Tpl).st (.code b :: .inLoop b :: k))).map (·.filterMap (sumMD g L Rs Ts)) = some sums ∧ ∀ s ∈ sums, MGoodO P β f R Rs Ts ρ s) :
    ∀ ρ, J ρ → ∀ todo a w, todo = .inLoop b :: k ∨ todo = .code (.loop b) :: k → SRel β ρ (T.st todo) a w → Goes P f R todo a w := by
  suffices H : ∀ N ρ, μ ρ = N → J ρ → ∀ todo a w, todo = .inLoop b :: k ∨ todo = .code (.loop b) :: k → SRel β ρ (T.st todo) a w → Goes P f R todo a w from fun ρ => H _ ρ rfl
  intro N
  induction N using Nat.strongRecOn with
  | _ N ih =>
    intro ρ hN hJ todo a w htd r
    obtain ⟨cs', sums, hcs', hrun, hss⟩ := hs ρ hJ ⟨w, r.h⟩ r.c r.h.g fun ρ' hlt hJ' todo' a' w' ht' r' => ih (μ ρ') (by omega) ρ' rfl hJ' todo' a' w' ht' r'
    obtain ⟨ls, hls, hsum⟩ := Option.map_eq_some_iff.1 hrun
    have key : Goes P f R (.code b :: .inLoop b :: k) a w := run_sound hc hE hsp hm n pl f _ ls ρ a w _ hls ⟨r.d, r.n, r.t, r.h, hcs'⟩ (m_allO (g := g) (L := L) (sums := ls.filterMap (sumMO g L Rs Ts)) rfl (dcsM hsum hss))
    rcases htd with rfl | rfl
    · exact Goes.one (fun cs => step_inLoop) key
    · exact Goes.one (fun cs => step_loop) key
theorem calls_sumsE (hc : NoCount P) {E : Exts} (hE : ExtOk P E) {sp : CallF} (hsp : CallOk P β sp) (hm : P.follows .mixedOrders = true) {g : Gen} {L : List Nat} {pl : PL} {n : Nat} {fn : Func} {c : Code} {args : List AVal} {xs : List Value} {H : Heap} {nl : Nat} {cs : Cs} {w : World} {sums : List LM}
    (hf : P.funcs[f]? = some fn) (hb : fn.body = some c) (hrun : (run P E sp n pl f (entry fn c args H nl cs)).map (·.filterMap (sumMD g L Rs Ts)) = some sums) (hx : AVal.denL ρ args = some xs) (hr : HRel β ρ H nl w) (hcs : CRel ρ cs)
    (hs : ∀ s ∈ sums, MGoodO P β f R Rs Ts ρ s) : Calls P f xs.toArray w (fun e w' => ∃ v, e = .returned v ∧ R v w') := by
  obtain ⟨ls, hls, hsum⟩ := Option.map_eq_some_iff.1 hrun
  exact calls_sumsO hc hE hsp hm (g := g) (L := L) (Rs := Rs) (Ts := Ts) (sums := ls.filterMap (sumMO g L Rs Ts)) hf hb (by rw [hls]; rfl) hx hr hcs (dcsM hsum hs)
end

-- MEMORY THAT IS ONLY READ
/-- These blocks, that are only read, and nothing else. -/
theorem HRel.ro {w : World} {ρ : Env} {G : GP} {nl : Nat} (L : List (Nat × ABlk)) (h : ∀ p ∈ L, ∃ b o, ρ.N p.1 = some b ∧ w.heap[b]? = some o ∧ p.2.rel ρ false o) (hN : ∀ i, nl ≤ i → ρ.N i = none) (hG : G ρ.I ρ.B ρ.S ρ.V ρ.F) (hnb : (L.all fun p => p.2.nb) = true := by rfl) (hTT : ∀ i, ρ.T i = none := by exact fun _ => rfl) :
    HRel ⟨w, noO, G⟩ ρ (ofP (L.map fun p => (p.1, (⟨p.2, false⟩ : HB)))) nl w := by
  have key : ∀ l k, (ofP (L.map fun p => (p.1, (⟨p.2, false⟩ : HB)))).get l = some k → ∃ b, (l, b) ∈ L ∧ k = ⟨b, false⟩ := fun l k hl => by
    obtain ⟨p, hp, he⟩ := List.mem_map.1 (ofP_mem hl)
    cases he
    exact ⟨p.2, hp, rfl⟩
  refine ⟨fun l k hl => ?_, fun l l' k k' hl _ hr _ => ?_, fun l k b' hl hr => ?_, hN, fun i _ => hTT i, Nat.le_refl _, fun _ _ _ => rfl, rfl, rfl, rfl, hG, BigAt.none fun l k hl => ?_⟩
  · obtain ⟨b, hm, rfl⟩ := key l k hl
    exact h _ hm
  · obtain ⟨_, _, rfl⟩ := key l k hl; cases hr
  · obtain ⟨_, _, rfl⟩ := key l k hl; cases hr
  · obtain ⟨b, hm, rfl⟩ := key l k hl
    exact List.all_eq_true.1 hnb _ hm
theorem den_slice_of {ρ : Env} {l b o n c : Nat} {off len cap : IT} (h1 : ρ.N l = some b) (h2 : off.den ρ = some (o : Int)) (h3 : len.den ρ = some (n : Int)) (h4 : cap.den ρ = some (c : Int)) : (AVal.slice l off len cap).den ρ = some (.slice (some ⟨b, o, none⟩) n c) := by
  have e2 : natOf (off.den ρ) = some o := by rw [h2]; rfl
  have e3 : natOf (len.den ρ) = some n := by rw [h3]; rfl
  have e4 : natOf (cap.den ρ) = some c := by rw [h4]; rfl
  simp only [AVal.den, h1, e2, e3, e4]
theorem denL2 {ρ : Env} {a b : AVal} {x y : Value} (h : a.den ρ = some x) (g : b.den ρ = some y) : AVal.denL ρ [a, b] = some [x, y] := by simp only [AVal.denL, h, g]
theorem denL1 {ρ : Env} {a : AVal} {x : Value} (h : a.den ρ = some x) : AVal.denL ρ [a] = some [x] := by simp only [AVal.denL, h]
theorem denL3 {ρ : Env} {a b c : AVal} {x y z : Value} (h : a.den ρ = some x) (g : b.den ρ = some y) (k : c.den ρ = some z) : AVal.denL ρ [a, b, c] = some [x, y, z] := by simp only [AVal.denL, h, g, k]
/-- How long a row is, and how much room it has. -/
theorem HRel.room {β : Base} {ρ : Env} {H : Heap} {nl : Nat} {w : World} (hh : HRel β ρ H nl w) {l : Nat} {t : AT} {ks : List IntKind} {e : TypeId} {an off cp : IT} {rw : Bool} (hl : H.get l = some ⟨.arr t ks e an off (some cp), rw⟩) (hk : ks ≠ []) :
    ∃ m c : Nat, an.den ρ = some (m : Int) ∧ cp.den ρ = some (c : Int) ∧ m ≤ c := by
  obtain ⟨b, ob, hb, hob, xs, c0, fr, el, m, st, rfl, hel, hd, hst, ⟨h1, h2⟩, hn, hty, hroom, hf⟩ := hh.blk l _ hl
  obtain ⟨c, hc, hs⟩ := hroom
  refine ⟨m, c, hn, hc, ?_⟩
  have h3 := h2.length_le
  rw [hty.1, List.length_drop] at h3
  have h4 : m * ks.length ≤ c * ks.length := by rw [← hs]; exact h3
  exact Nat.le_of_mul_le_mul_right h4 (List.length_pos_iff.2 hk)
end Go.Vm
