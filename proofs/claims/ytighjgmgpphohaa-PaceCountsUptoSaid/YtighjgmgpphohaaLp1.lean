/- A machine for abstract states over the model (part 28): small laws for loops; ends without their conditions; rows that are only read. -/
import Derived.Test.YtighjgmgpphohaaVm27
import Derived.Test.YtighjgmgpphohaaLe4
section
namespace Go.Vm
theorem one {α : Type} {p : α -> Prop} {a : α} (h : p a) : ∀ x ∈ [a], p x := fun _ hx => by rw [List.mem_singleton.1 hx]; exact h
theorem CRel_app {ρ : Env} {a b : Cs} : CRel ρ (a ++ b) ↔ CRel ρ a /\ CRel ρ b :=
 ⟨fun h => ⟨fun p hp => h p (List.mem_append.2 (.inl hp)), fun p hp => h p (List.mem_append.2 (.inr hp))⟩, fun h p hp => (List.mem_append.1 hp).elim (h.1 p) (h.2 p)⟩
theorem c0 {ρ : Env} : CRel ρ [] := CRel_nil.2 trivial
theorem c1 {ρ : Env} {t : BT} {b : Bool} {cs : Cs} (h : t.den ρ = some b) (c : CRel ρ cs) : CRel ρ ((t, b) :: cs) := CRel_cons.2 ⟨h, c⟩
theorem wrapI {x : Int} (h : -9223372036854775808 <= x) (h2 : x < 9223372036854775808) : IntKind.i64.wrap x = x := wrap_in .i64 x (by simp only [lo]; omega) (by simp only [hi]; omega)
section
variable {ρ : Env}
theorem litD (n : Int) : (IT.lit n).den ρ = some n := rfl
theorem varD {i : Nat} {x : Int} (h : ρ.I i = x) : (IT.var i).den ρ = some x := congrArg some h
theorem nvD {i n : Nat} (h : ρ.N i = some n) : (IT.nv i).den ρ = some (n : Int) := by simp only [IT.den, h]; rfl
theorem unD {k : Nat} {t u : IT} {x y : Int} (h : t.den ρ = some x) (g : u.den ρ = some y) : (IT.un k t u).den ρ = some (univ k x y) := by simp only [IT.den, h, g]
theorem fnD {k : Nat} {t u : IT} {x y : Int} (h : t.den ρ = some x) (g : u.den ρ = some y) : (IT.fn k t u).den ρ = some (ρ.F k x y) := by simp only [IT.den, h, g]
theorem binD {op : BinOp} {k : IntKind} {a b : IT} {x y : Int} (h : a.den ρ = some x) (g : b.den ρ = some y) : (IT.bin op k a b).den ρ = intBin op k x y := by simp only [IT.den, h, g]
theorem cvD {k : IntKind} {a : IT} {x : Int} (h : a.den ρ = some x) : (IT.cv k a).den ρ = some (k.wrap x) := by simp only [IT.den, h, Option.map_some]
theorem elemD {o i : IT} {sz j x y : Nat} (h : o.den ρ = some (x : Int)) (g : i.den ρ = some (y : Int)) : (IT.elem o sz j i).den ρ = some ((x + (y * sz + j) : Nat) : Int) := by simp only [IT.den, h, g, Int.toNat_natCast]; rfl
section
variable {a b : IT} {x y : Int} (h : a.den ρ = some x) (g : b.den ρ = some y)
include h g
theorem cmpD (op : BinOp) : (BT.cmp op a b).den ρ = intCmp op x y := by simp only [BT.den, h, g]
theorem lssT (e : x < y) : (BT.cmp .lss a b).den ρ = some true := by rw [cmpD h g]; simp only [intCmp, e, decide_true]
theorem lssF (e : y <= x) : (BT.cmp .lss a b).den ρ = some false := by rw [cmpD h g]; simp only [intCmp, Option.some.injEq, decide_eq_false_iff_not]; omega
theorem leqT (e : x <= y) : (BT.cmp .leq a b).den ρ = some true := by rw [cmpD h g]; simp only [intCmp, e, decide_true]
theorem gtrT (e : y < x) : (BT.cmp .gtr a b).den ρ = some true := by rw [cmpD h g]; simp only [intCmp, Option.some.injEq, decide_eq_true_eq]; omega
theorem gtrF (e : x <= y) : (BT.cmp .gtr a b).den ρ = some false := by rw [cmpD h g]; simp only [intCmp, Option.some.injEq, decide_eq_false_iff_not]; omega
theorem geqT (e : y <= x) : (BT.cmp .geq a b).den ρ = some true := by rw [cmpD h g]; simp only [intCmp, Option.some.injEq, decide_eq_true_eq]; omega
theorem eqlT (e : x = y) : (BT.cmp .eql a b).den ρ = some true := by rw [cmpD h g]; simp only [intCmp, e, beq_self_eq_true]
theorem eqlF (e : x ≠ y) : (BT.cmp .eql a b).den ρ = some false := by rw [cmpD h g]; simp only [intCmp, Option.some.injEq, beq_eq_false_iff_ne]; exact e
theorem neqT (e : x ≠ y) : (BT.cmp .neq a b).den ρ = some true := by rw [cmpD h g]; simp only [intCmp, Option.some.injEq, bne_iff_ne]; exact e
end
end
theorem sbI {σ : Sub} {ρ : Env} {k : Nat} {t : IT} {x : Int} (h : lk σ.I k = some t) (d : t.den ρ = some x) : (σ.app ρ).I k = x := by simp only [Sub.app, h, d, Option.getD_some]
def LM.dc : LM -> LM
 | .done q _ σ => .done q [] σ
 | .next q todo _ σ => .next q todo [] σ
 | .stop cs => .stop cs
 | .bad => .bad
def sumMD (g : Gen) (L : List Nat) (Rs Ts : List Tpl) (l : Leaf) : Option LM := (sumMO g L Rs Ts l).map LM.dc
section
variable {P : Program} {β : Base} {f : FuncId} {Q : Value -> Prop} {R : Value -> World -> Prop} {Rs Ts : List Tpl} {ρ : Env}
theorem MGoodO.of_dc : ∀ {s : LM}, MGoodO P β f R Rs Ts ρ s.dc -> MGoodO P β f R Rs Ts ρ s
 | .done _ _ _, h => ⟨h.1, fun ρ' hle _ => h.2 ρ' hle c0⟩
 | .next _ _ _ _, h => ⟨h.1, fun ρ' hle _ => h.2 ρ' hle c0⟩
 | .stop _, h => h
 | .bad, h => h
theorem dcsM {g : Gen} {L : List Nat} {ls : List Leaf} {sums : List LM} (h : ls.filterMap (sumMD g L Rs Ts) = sums) (hs : ∀ s ∈ sums, MGoodO P β f R Rs Ts ρ s) : ∀ s ∈ ls.filterMap (sumMO g L Rs Ts), MGoodO P β f R Rs Ts ρ s := by
 intro s hm
 obtain ⟨l, hl, he⟩ := List.mem_filterMap.1 hm
 exact MGoodO.of_dc (hs _ (h ▸ List.mem_filterMap.2 ⟨l, hl, by simp only [sumMD, he, Option.map_some]⟩))
theorem doneR {q : Nat} {cs : Cs} {σ : Sub} {T : Tpl} (hT : Rs[q]? = some T) (h : ∀ ρ', ρ.Le ρ' -> GP.at β.G ρ' -> GP.at β.G (σ.app ρ') /\ CRel (σ.app ρ') T.cs /\ ∀ x w', SRel β (σ.app ρ') (T.st []) ⟨#[x], []⟩ w' -> R x w') : MGoodO P β f R Rs Ts ρ (.done q cs σ) :=
 ⟨trivial, fun ρ' hle _ T' hT' hG => by obtain rfl := Option.some.inj (hT.symm.trans hT'); exact h ρ' hle hG⟩
theorem calls_sumsE (hc : NoCount P) {E : Exts} (hE : ExtOk P E) {sp : CallF} (hsp : CallOk P β sp) (hm : P.follows .mixedOrders = true) {g : Gen} {L : List Nat} {pl : PL} {n : Nat} {fn : Func} {c : Code} {args : List AVal} {xs : List Value} {H : Heap} {nl : Nat} {cs : Cs} {w : World} {sums : List LM}
 (hf : P.funcs[f]? = some fn) (hb : fn.body = some c) (hrun : (run P E sp n pl f (entry fn c args H nl cs)).map (·.filterMap (sumMD g L Rs Ts)) = some sums) (hx : AVal.denL ρ args = some xs) (hr : HRel β ρ H nl w) (hcs : CRel ρ cs)
 (hs : ∀ s ∈ sums, MGoodO P β f R Rs Ts ρ s) : Calls P f xs.toArray w (fun e w' => ∃ v, e = .returned v /\ R v w') := by
 obtain ⟨ls, hls, hsum⟩ := Option.map_eq_some_iff.1 hrun
 exact calls_sumsO hc hE hsp hm (g := g) (L := L) (Rs := Rs) (Ts := Ts) (sums := ls.filterMap (sumMO g L Rs Ts)) hf hb (by rw [hls]; rfl) hx hr hcs (dcsM hsum hs)
end
theorem HRel.ro {w : World} {ρ : Env} {G : GP} {nl : Nat} (L : List (Nat × ABlk)) (h : ∀ p ∈ L, ∃ b o, ρ.N p.1 = some b /\ w.heap[b]? = some o /\ p.2.rel ρ false o) (hN : ∀ i, nl <= i -> ρ.N i = none) (hG : G ρ.I ρ.B ρ.S ρ.V ρ.F) (hnb : (L.all fun p => p.2.nb) = true := by rfl) :
 HRel ⟨w, noO, G⟩ ρ (ofP (L.map fun p => (p.1, (⟨p.2, false⟩ : HB)))) nl w := by
 have key : ∀ l k, (ofP (L.map fun p => (p.1, (⟨p.2, false⟩ : HB)))).get l = some k -> ∃ b, (l, b) ∈ L /\ k = ⟨b, false⟩ := fun l k hl => by
  obtain ⟨p, hp, he⟩ := List.mem_map.1 (ofP_mem hl)
  cases he
  exact ⟨p.2, hp, rfl⟩
 refine ⟨fun l k hl => ?_, fun l l' k k' hl _ hr _ => ?_, fun l k b' hl hr => ?_, hN, trivial, Nat.le_refl _, fun _ _ _ => rfl, rfl, rfl, rfl, hG, BigAt.none fun l k hl => ?_⟩
 · obtain ⟨b, hm, rfl⟩ := key l k hl
   exact h _ hm
 · obtain ⟨_, _, rfl⟩ := key l k hl; cases hr
 · obtain ⟨_, _, rfl⟩ := key l k hl; cases hr
 · obtain ⟨b, hm, rfl⟩ := key l k hl
   exact List.all_eq_true.1 hnb _ hm
theorem den_slice_of {ρ : Env} {l b o n c : Nat} {off len cap : IT} (h1 : ρ.N l = some b) (h2 : off.den ρ = some (o : Int)) (h3 : len.den ρ = some (n : Int)) (h4 : cap.den ρ = some (c : Int)) : (AVal.slice l off len cap).den ρ = some (.slice (some ⟨b, o, none⟩) n c) := by
 have e2 : natOf (off.den ρ) = some o := by rw [h2]; rfl
 have e3 : natOf (len.den ρ) = some n := by rw [h3]; rfl
 have e4 : natOf (cap.den ρ) = some c := by rw [h4]; rfl
 simp only [AVal.den, h1, e2, e3, e4]
theorem denL2 {ρ : Env} {a b : AVal} {x y : Value} (h : a.den ρ = some x) (g : b.den ρ = some y) : AVal.denL ρ [a, b] = some [x, y] := by simp only [AVal.denL, h, g]
theorem denL1 {ρ : Env} {a : AVal} {x : Value} (h : a.den ρ = some x) : AVal.denL ρ [a] = some [x] := by simp only [AVal.denL, h]
theorem HRel.room {β : Base} {ρ : Env} {H : Heap} {nl : Nat} {w : World} (hh : HRel β ρ H nl w) {l : Nat} {t : AT} {ks : List IntKind} {e : TypeId} {an off cp : IT} {rw : Bool} (hl : H.get l = some ⟨.arr t ks e an off (some cp), rw⟩) (hk : ks ≠ []) :
 ∃ m c : Nat, an.den ρ = some (m : Int) /\ cp.den ρ = some (c : Int) /\ m <= c := by
 obtain ⟨b, ob, hb, hob, xs, c0, fr, el, m, st, rfl, hel, hd, hst, ⟨h1, h2⟩, hn, hty, hroom, hf⟩ := hh.blk l _ hl
 obtain ⟨c, hc, hs⟩ := hroom
 refine ⟨m, c, hn, hc, ?_⟩
 have h3 := h2.length_le
 rw [hty.1, List.length_drop] at h3
 have h4 : m * ks.length <= c * ks.length := by rw [<- hs]; exact h3
 exact Nat.le_of_mul_le_mul_right h4 (List.length_pos_iff.2 hk)
end Go.Vm
end
section
namespace Go.Vm
structure BigStep (w w' : World) (F F' : Nat -> Prop) : Prop where
 size : w.heap.size <= w'.heap.size
 same : ∀ y, y < w.heap.size -> ¬ F y -> w'.heap[y]? = w.heap[y]?
 tape : w'.tape = w.tape
 os : w'.os = w.os
 out : w'.output = w.output
 sub : ∀ y, F' y -> F y ∨ w.heap.size <= y
section
variable {β : Base} {ρ : Env} {H : Heap} {nl : Nat} {w : World}
theorem HRel.bigAtF (h : HRel β ρ H nl w) {Fp : Nat -> Nat -> Prop} (hB : BigAt ρ H β.dom w Fp) {l k : Nat} {c : IT} {rw : Bool} (hl : H.get l = some ⟨.big k c, rw⟩) :
 ∃ b x, ρ.N l = some b /\ c.den ρ = some x /\ fam k x w b (Fp l) /\ (rw = true -> ∀ w' c' x' F', BigStep w w' (Fp l) F' -> fam k x' w' b F' -> c'.den ρ = some x' -> HRel β ρ (H.set l ⟨.big k c', true⟩) nl w') := by
 obtain ⟨b, x, hN, hx, hf, h0⟩ := hB.ok _ _ _ _ hl
 refine ⟨b, x, hN, hx, hf, fun hrw w' c' x' F' s hf' hx' => ?_⟩
 subst hrw
 have h0 := h0 rfl
 have hroot := fam_root hf
 have hlt : ∀ {l1 k1 b1}, H.get l1 = some k1 -> ρ.N l1 = some b1 -> b1 < w.heap.size := fun h1 h2 => h.lt h1 h2
 have apart1 : ∀ {l1 k1}, H.get l1 = some k1 -> l1 ≠ l -> ∀ {y}, ρ.N l1 = some y -> ¬ Fp l y := fun {_ _} h1 hne {y} hy hF => (hB.apart _ _ _ _ _ _ hl h1 (Ne.symm hne) y hF).1 hy
 refine ⟨fun l1 k1 h1 => ?_, fun l1 l2 k1 k2 h1 h2 hr he => ?_, fun l1 k1 b1 h1 hr hb1 => ?_, h.fresh, h.ownN, Nat.le_trans h.size s.size, fun y hy hn => ?_, s.tape.trans h.tape, s.os.trans h.os, s.out.trans h.out, h.g, fun l1 => if l1 = l then F' else Fp l1, ⟨fun l1 k1 c1 rw1 h1 => ?_, fun l1 l2 k1 c1 rw1 h' h1 h2 hne y hy => ?_⟩⟩
 · rcases Tr.get_set h1 with ⟨rfl, rfl⟩ | ⟨hne, h1⟩
   · have := fam_lt hf' (fam_root hf')
     exact ⟨b, w'.heap[b], hN, Array.getElem?_eq_getElem this, x', hx'⟩
   · obtain ⟨b1, o, hb1, ho, hk⟩ := h.blk l1 k1 h1
     exact ⟨b1, o, hb1, by rw [s.same b1 (hlt h1 hb1) (apart1 h1 hne hb1)]; exact ho, hk⟩
 · rcases Tr.get_set h1 with ⟨e1, e2⟩ | ⟨hne, g1⟩
   · rcases Tr.get_set h2 with ⟨e3, e4⟩ | ⟨hne2, g2⟩
     · rw [e1, e3]
     · rw [e1]; rw [e1] at he; exact h.inj _ _ _ _ hl g2 rfl he
   · rcases Tr.get_set h2 with ⟨e3, e4⟩ | ⟨hne2, g2⟩
     · rw [e3]; rw [e3] at he; exact (h.inj _ _ _ _ hl g1 rfl he.symm).symm
     · exact h.inj _ _ _ _ g1 g2 hr he
 · rcases Tr.get_set h1 with ⟨rfl, rfl⟩ | ⟨hne, h1⟩
   · exact h.own _ _ b1 hl rfl hb1
   · exact h.own l1 k1 b1 h1 hr hb1
 · rw [s.same y (Nat.lt_of_lt_of_le hy h.size) (fun hF => (h0 y hF).elim (fun e => by omega) hn)]
   exact h.frame y hy hn
 · rcases Tr.get_set h1 with ⟨rfl, e⟩ | ⟨hne, h1⟩
   · cases e
     simp only [if_true]
     exact ⟨b, x', hN, hx', hf', fun _ y hy => (s.sub y hy).elim (h0 y) (fun e => .inl (Nat.le_trans h.size e))⟩
   · simp only [if_neg hne]
     obtain ⟨b1, x1, e1, e2, e3, e4⟩ := hB.ok _ _ _ _ h1
     exact ⟨b1, x1, e1, e2, fam_local e3 fun y hy => s.same y (fam_lt e3 hy) (fun hF => (hB.apart _ _ _ _ _ _ hl h1 (Ne.symm hne) y hF).2 rfl hy), e4⟩
 · have old : ∀ {l1 k1 c1 rw1}, H.get l1 = some ⟨.big k1 c1, rw1⟩ -> ∀ {y}, Fp l1 y -> y < w.heap.size := fun {_ _ _ _} h1 {y} hy => by
    obtain ⟨_, _, _, _, e3, _⟩ := hB.ok _ _ _ _ h1
    exact fam_lt e3 hy
   rcases Tr.get_set h1 with ⟨rfl, e⟩ | ⟨hne1, g1⟩
   · rcases Tr.get_set h2 with ⟨e3, _⟩ | ⟨hne2, g2⟩
     · exact absurd e3.symm hne
     · simp only [if_true] at hy
       rw [if_neg hne2]
       rcases s.sub y hy with hF | hge
       · exact hB.apart _ _ _ _ _ _ hl g2 hne y hF
       · refine ⟨fun e => by have := hlt g2 e; omega, fun hnb hy2 => ?_⟩
         obtain ⟨n, c2, hk⟩ := ABlk.nb_of hnb
         obtain ⟨hk', r'⟩ := h'
         simp only at hk; subst hk
         have := old g2 hy2; omega
   · simp only [if_neg hne1] at hy
     rcases Tr.get_set h2 with ⟨rfl, e⟩ | ⟨hne2, g2⟩
     · cases e
       obtain ⟨a1, a2⟩ := hB.apart _ _ _ _ _ _ g1 hl hne y hy
       refine ⟨a1, fun _ hy2 => ?_⟩
       simp only [if_true] at hy2
       rcases s.sub y hy2 with hF | hge
       · exact a2 rfl hF
       · have := old g1 hy; omega
     · rw [if_neg hne2]
       exact hB.apart _ _ _ _ _ _ g1 g2 hne y hy
theorem HRel.bigAt (h : HRel β ρ H nl w) {l k : Nat} {c : IT} {rw : Bool} (hl : H.get l = some ⟨.big k c, rw⟩) :
 ∃ b x F, ρ.N l = some b /\ c.den ρ = some x /\ fam k x w b F /\ (rw = true -> ∀ w' c' x' F', BigStep w w' F F' -> fam k x' w' b F' -> c'.den ρ = some x' -> HRel β ρ (H.set l ⟨.big k c', true⟩) nl w') := by
 obtain ⟨Fp, hB⟩ := h.big
 obtain ⟨b, x, h1⟩ := h.bigAtF hB hl
 exact ⟨b, x, Fp l, h1⟩
theorem HRel.bigAtN (h : HRel β ρ H nl w) {l k : Nat} {c : IT} {rw : Bool} (hl : H.get l = some ⟨.big k c, rw⟩) :
 ∃ b x F, ρ.N l = some b /\ c.den ρ = some x /\ fam k x w b F /\ (∀ l' k' y, H.get l' = some k' -> l ≠ l' -> ρ.N l' = some y -> ¬ F y) ∧
  (rw = true -> ∀ n w' c' x' F', BigStep w w' F F' -> fam k x' w' b F' -> c'.den (ρ.put nl n) = some x' -> HRel β (ρ.put nl n) (H.set l ⟨.big k c', true⟩) (nl + 1) w') := by
 obtain ⟨Fp, hB⟩ := h.big
 obtain ⟨b, x, h1, h2, h3, _⟩ := h.bigAtF hB hl
 refine ⟨b, x, Fp l, h1, h2, h3, fun l' k' y hl' hne hy hF => (hB.apart _ _ _ _ _ _ hl hl' hne y hF).1 hy, fun hrw n w' c' x' F' s hf' hx' => ?_⟩
 have hle : ρ.Le (ρ.put nl n) := Env.le_put (h.fresh nl (Nat.le_refl _))
 have hnl : ∀ {l1 k1}, H.get l1 = some k1 -> l1 ≠ nl := fun {l1 k1} g1 e => by
  obtain ⟨b1, _, hb1, _⟩ := h.blk l1 k1 g1
  rw [e, h.fresh nl (Nat.le_refl _)] at hb1; cases hb1
 obtain ⟨b2, x2, g1, _, _, g4⟩ := (h.num n).bigAtF (hB.le hle fun l1 k1 hl1 => Env.put_other ρ n (hnl hl1)) hl
 obtain rfl : b2 = b := by
  have := hle.n _ _ h1
  rw [g1] at this; exact Option.some.inj this
 exact g4 hrw w' c' x' F' s hf' hx'
theorem HRel.bigNew (h : HRel β ρ H nl w) {w' : World} (f : Framed w w') {k b : Nat} {c : IT} {x : Int} {F : Nat -> Prop} (hf : fam k x w' b F) (hF : ∀ y, F y -> w.heap.size <= y) (hx : c.den ρ = some x) :
 HRel β (ρ.put nl b) (H.set nl ⟨.big k c, true⟩) (nl + 1) w' := by
 have hle : ρ.Le (ρ.put nl b) := Env.le_put (h.fresh nl (Nat.le_refl _))
 have h1 := h.framed f
 have hn := h1.num b
 have hlt : ∀ {l1 k1 b1}, H.get l1 = some k1 -> (ρ.put nl b).N l1 = some b1 -> l1 ≠ nl -> b1 < w.heap.size := fun {l1 k1 b1} g1 g2 hne => by
  rw [Env.put_other ρ b hne] at g2
  exact h.lt g1 g2
 have hnlt : ∀ {l1 k1}, H.get l1 = some k1 -> l1 ≠ nl := fun {l1 k1} g1 e => by
  obtain ⟨b1, _, hb1, _⟩ := h.blk l1 k1 g1
  rw [e, h.fresh nl (Nat.le_refl _)] at hb1; cases hb1
 obtain ⟨Fq, hQ⟩ := h.big
 have hQ' := (hQ.agree fun y hy => f.frame y hy).le hle fun l k hl => Env.put_other ρ b (hnlt hl)
 have oldQ : ∀ {l1 k1 c1 rw1}, H.get l1 = some ⟨.big k1 c1, rw1⟩ -> ∀ {y}, Fq l1 y -> y < w.heap.size := fun {_ _ _ _} g1 {y} hy => by
  obtain ⟨_, _, _, _, e3, _⟩ := hQ.ok _ _ _ _ g1
  exact fam_lt e3 hy
 have hroot := hF b (fam_root hf)
 refine ⟨fun l k' hl => ?_, fun l l' k1 k2 hl hl' hr he => ?_, fun l k' b' hl hr hb' => ?_, hn.fresh, hn.ownN, hn.size, hn.frame, hn.tape, hn.os, hn.out, hn.g, fun l1 => if l1 = nl then F else Fq l1, ⟨fun l1 k1 c1 rw1 g1 => ?_, fun l1 l2 k1 c1 rw1 h' g1 g2 hne y hy => ?_⟩⟩
 · rcases Tr.get_set hl with ⟨rfl, rfl⟩ | ⟨hne', hl⟩
   · have := fam_lt hf (fam_root hf)
     exact ⟨b, w'.heap[b], Env.put_same .., Array.getElem?_eq_getElem this, x, IT.den_mono hle hx⟩
   · exact hn.blk l k' hl
 · rcases Tr.get_set hl with ⟨e1, e2⟩ | ⟨hne1, g1⟩
   · rcases Tr.get_set hl' with ⟨e3, e4⟩ | ⟨hne2, g2⟩
     · rw [e1, e3]
     · rw [e1, Env.put_same] at he
       have := hlt g2 he.symm hne2
       omega
   · rcases Tr.get_set hl' with ⟨e3, e4⟩ | ⟨hne2, g2⟩
     · rw [e3, Env.put_same] at he
       have := hlt g1 he hne1
       omega
     · exact hn.inj l l' k1 k2 g1 g2 hr he
 · rcases Tr.get_set hl with ⟨rfl, rfl⟩ | ⟨hne', hl⟩
   · rw [Env.put_same] at hb'; cases hb'
     exact .inl (Nat.le_trans h.size hroot)
   · exact hn.own l k' b' hl hr hb'
 · rcases Tr.get_set g1 with ⟨rfl, e⟩ | ⟨hne', g1⟩
   · cases e
     simp only [if_true]
     exact ⟨b, x, Env.put_same .., IT.den_mono hle hx, hf, fun _ y hy => .inl (Nat.le_trans h.size (hF y hy))⟩
   · simp only [if_neg hne']
     exact hQ'.ok _ _ _ _ g1
 · rcases Tr.get_set g1 with ⟨rfl, e⟩ | ⟨hne1, g1⟩
   · rcases Tr.get_set g2 with ⟨e3, _⟩ | ⟨hne2, g2⟩
     · exact absurd e3.symm hne
     · simp only [if_true] at hy
       rw [if_neg hne2]
       have hge := hF y hy
       refine ⟨fun e => by have := hlt g2 e hne2; omega, fun hnb hy2 => ?_⟩
       obtain ⟨n, c2, hk⟩ := ABlk.nb_of hnb
       obtain ⟨hk', r'⟩ := h'
       simp only at hk; subst hk
       have := oldQ g2 hy2; omega
   · simp only [if_neg hne1] at hy
     have hy2 := oldQ g1 hy
     rcases Tr.get_set g2 with ⟨rfl, e⟩ | ⟨hne2, g2⟩
     · refine ⟨fun e => ?_, fun _ hy3 => ?_⟩
       · rw [Env.put_same] at e; cases e; omega
       · simp only [if_true] at hy3
         have := hF y hy3; omega
     · rw [if_neg hne2]
       exact hQ'.apart _ _ _ _ _ _ g1 g2 hne y hy
end
theorem HRel.ownedB {w : World} {ρ : Env} {G : GP} {nl : Nat} {own : Nat -> Prop} (L : List (Nat × HB)) (h : ∀ p ∈ L, ∃ b o, ρ.N p.1 = some b /\ w.heap[b]? = some o /\ p.2.k.rel ρ p.2.rw o) (inj : ∀ p ∈ L, ∀ q ∈ L, p.2.rw = true -> ρ.N p.1 = ρ.N q.1 -> p.1 = q.1)
 (ho : ∀ p ∈ L, p.2.rw = true -> ∀ b, ρ.N p.1 = some b -> own b) (hN : ∀ i, nl <= i -> ρ.N i = none) (hG : G ρ.I ρ.B ρ.S ρ.V ρ.F) (hB : ∃ Fp, BigAt ρ (ofP L) (Base.dom ⟨w, own, G⟩) w Fp) : HRel ⟨w, own, G⟩ ρ (ofP L) nl w := by
 refine ⟨fun l k hl => ?_, fun l l' k k' hl hl' hr he => ?_, fun l k b' hl hr hb => ?_, hN, trivial, Nat.le_refl _, fun _ _ _ => rfl, rfl, rfl, rfl, hG, hB⟩
 · exact h _ (ofP_mem hl)
 · exact inj _ (ofP_mem hl) _ (ofP_mem hl') hr he
 · exact .inr (ho _ (ofP_mem hl) hr _ hb)
theorem HRel.owned {w : World} {ρ : Env} {G : GP} {nl : Nat} {own : Nat -> Prop} (L : List (Nat × HB)) (h : ∀ p ∈ L, ∃ b o, ρ.N p.1 = some b /\ w.heap[b]? = some o /\ p.2.k.rel ρ p.2.rw o) (inj : ∀ p ∈ L, ∀ q ∈ L, p.2.rw = true -> ρ.N p.1 = ρ.N q.1 -> p.1 = q.1)
 (ho : ∀ p ∈ L, p.2.rw = true -> ∀ b, ρ.N p.1 = some b -> own b) (hN : ∀ i, nl <= i -> ρ.N i = none) (hG : G ρ.I ρ.B ρ.S ρ.V ρ.F) (hnb : (L.all fun p => p.2.k.nb) = true := by rfl) : HRel ⟨w, own, G⟩ ρ (ofP L) nl w :=
 HRel.ownedB L h inj ho hN hG (BigAt.none fun _ _ hl => List.all_eq_true.1 hnb _ (ofP_mem hl))
end Go.Vm
end
section
namespace Go.Proofs.Ytighjgmgpphohaa
open Go.Vm Go.Vm.Le
namespace Lp
inductive Bk where
 | nil
 | zero
 | row
def Bk.v : Bk -> AVal
 | .nil => .sliceNil
 | .zero => .slice 1 (.var 11) (.lit 0) (.lit 0)
 | .row => .slice 1 (.lit 0) (.var 6) (.nv 4)
def iV (i : Nat) : AVal := .int .i64 (.var i)
def stB (v : AVal) : HB := ⟨.cells [iV 0, iV 3, v, .map 2] 103 none, true⟩
def mB : HB := ⟨.mapc (.var 4), true⟩
def rB : HB := ⟨.arr (.code [.i64] (.var 5)) [.i64] 3 (.var 7) (.lit 0) (some (.nv 4)), true⟩
def hB : Bk -> List (Nat × HB)
 | .row => [(0, stB Bk.row.v), (2, mB), (1, rB)]
 | z => [(0, stB z.v), (2, mB)]
def csS : Cs := [(.cmp .geq (.var 0) (.lit 0), true), (.cmp .leq (.var 0) (.lit 65535), true), (.cmp .geq (.var 3) (.lit 0), true), (.cmp .leq (.var 3) (.var 0), true)]
def csR : Cs := [(.cmp .geq (.var 6) (.lit 0), true), (.cmp .leq (.var 6) (.lit 65535), true), (.cmp .leq (.var 6) (.var 7), true)]
def csB : Bk -> Cs
 | .row => csR ++ csS
 | _ => csS
def gS : Gen := ⟨10, 0, 0, 0⟩
def hB3 : List (Nat × HB) := [(0, stB (.slice 3 (.lit 0) (.var 6) (.nv 4))), (2, mB), (3, rB)]
def eS (u : AVal) : List Tpl := [⟨[(0, u)], 1, hB .row, 5, [], 0⟩, ⟨[(0, u)], 1, hB .nil, 5, [], 0⟩, ⟨[(0, u)], 1, hB .zero, 5, [], 0⟩, ⟨[(0, u)], 1, hB3, 5, [], 0⟩]
def oL : Bk -> List Nat
 | .row => [0, 1, 2]
 | _ => [0, 2]
def tk : AVal := .tuple [iV 8, iV 9]
def sp8 : CallF := spL [(76, spUp), (74, spDown)]
def tN0 : IT := .sel 0 3 2 (.var 1)
def noX : Cs := [(.cmp .eql x5 (.lit 0), false)]
def noH : Cs := [(.cmp .eql h1 (.lit 0), false)]
end Lp
end Go.Proofs.Ytighjgmgpphohaa
end
