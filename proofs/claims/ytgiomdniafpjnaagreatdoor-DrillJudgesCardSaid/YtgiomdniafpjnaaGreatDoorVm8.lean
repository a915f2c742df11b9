/-
  A machine for abstract states over the model (part 8): slices of slices, append, copy.
-/
import Derived.Test.YtgiomdniafpjnaaGreatDoorVm7
import Derived.Lib.Strings
namespace Go.Vm

section
variable {P : Program} {β : Base} {ρ : Env} {H : Heap} {nl : Nat} {w : World}

/-- A block gets another number, and is written. -/
theorem HRel.moveW (h : HRel β ρ H nl w) {l b : Nat} {k k' : HB} (hl : H.get l = some k) (hrw : k.rw = true) (hb : ρ.N l = some b) {w' : World} {o' : Obj}
    (hk' : k'.k.rel ρ k'.rw o') (hw : w'.heap = w.heap.setIfInBounds b o') (ht : w'.tape = w.tape) (hos : w'.os = w.os) (hout : w'.output = w.output) (hnb : k'.k.nb = true := by rfl) :
    HRel β (ρ.put nl b) ((H.del l).set nl k') (nl + 1) w' := by
  have hn := h.num b
  have hle : ρ.Le (ρ.put nl b) := Env.le_put (h.fresh nl (Nat.le_refl _))
  have hblt := h.lt hl hb
  have hsame : w'.heap[b]? = some o' := by rw [hw]; simp [hblt]
  have hother : ∀ c, c ≠ b → w'.heap[c]? = w.heap[c]? := fun c hc => by rw [hw]; simp [hc.symm]
  have hll : (ρ.put nl b).N l = some b := hle.n _ _ hb
  have key : ∀ l1 k1, ((H.del l).set nl k').get l1 = some k1 → (l1 = nl ∧ k1 = k') ∨ (l1 ≠ nl ∧ l1 ≠ l ∧ H.get l1 = some k1) := fun l1 k1 h1 => by
    rcases Tr.get_set h1 with ⟨e1, e2⟩ | ⟨hne, g1⟩
    · exact .inl ⟨e1, e2⟩
    · obtain ⟨a, b⟩ := Tr.get_del g1
      exact .inr ⟨hne, a, b⟩
  refine ⟨fun l1 k1 h1 => ?_, fun l1 l2 k1 k2 h1 h2 hr he => ?_, fun l1 k1 b1 h1 hr hb1 => ?_, hn.fresh, hn.ownN, ?_, fun c hc hf => ?_, ht.trans h.tape, hos.trans h.os, hout.trans h.out, h.g, hn.big.imp fun Fp hB => (hB.sub fun _ _ hl => (Tr.get_del hl).2).set hnb (Env.put_same ..) (fun l1 k1 c1 rw1 h1 hne hy => ?_) (fun y hy _ => hother y hy)⟩
  · rcases key l1 k1 h1 with ⟨rfl, rfl⟩ | ⟨n1, n1', g1⟩
    · exact ⟨b, o', Env.put_same .., hsame, ABlk.rel_mono hle hk'⟩
    · obtain ⟨c, o, hc, ho, hk⟩ := hn.blk l1 k1 g1
      refine ⟨c, o, hc, ?_, hk⟩
      rw [hother c]
      · exact ho
      · intro e; subst e
        exact n1' (hn.inj l l1 k k1 hl g1 hrw (hll.trans hc.symm)).symm
  · rcases key l1 k1 h1 with ⟨e1, e2⟩ | ⟨n1, n1', g1⟩ <;> rcases key l2 k2 h2 with ⟨e3, e4⟩ | ⟨n2, n2', g2⟩
    · rw [e1, e3]
    · exfalso
      rw [e1, Env.put_same, ← hll] at he
      exact n2' (hn.inj l l2 k k2 hl g2 hrw he).symm
    · exfalso
      rw [e3, Env.put_same, ← hll] at he
      exact n1' (hn.inj l l1 k k1 hl g1 hrw he.symm).symm
    · exact hn.inj l1 l2 k1 k2 g1 g2 hr he
  · rcases key l1 k1 h1 with ⟨e1, e2⟩ | ⟨_, _, g1⟩
    · rw [e1, Env.put_same] at hb1; cases hb1
      exact hn.own l k b hl hrw hll
    · exact hn.own l1 k1 b1 g1 hr hb1
  · rw [hw]; simp; exact h.size
  · rw [hother c]
    · exact hn.frame c hc hf
    · intro e; subst e
      rcases hn.own l k c hl hrw hll with h1 | h1
      · omega
      · exact hf h1
  · obtain ⟨g1, g2⟩ := Tr.get_del h1
    exact (hB.apart _ _ _ _ _ _ g2 hl g1 b hy).1 hll

-- WHAT IS APPENDED
/-- Nought. -/
def isZ : IT → Bool
  | .lit (.ofNat 0) => true
  | _ => false
theorem isZ_eq {t : IT} (h : isZ t = true) : t = .lit 0 := by
  unfold isZ at h
  split at h
  · rfl
  · cases h
def srcCells (size : Nat) (x : AVal) (H : Heap) : Option (List AVal × Nat) :=
  match x with
  | .sliceNil => some ([], 0)
  | .slice l off len _ => cond (isZ len) (some ([], 0)) (match litNat off, litNat len, getCells H l with
    | some o, some n, some (vals, _, _, _) => cond (Nat.ble (o + n * size) vals.length) (some ((vals.drop o).take (n * size), n)) none
    | _, _, _ => none)
  | .str (.lit s) => cond (Nat.beq size 1) (some (s.map fun b => .int .u8 (.lit (.ofNat b.toNat)), s.length)) none
  | _ => none
theorem denL_bytes (s : List UInt8) : AVal.denL ρ (s.map fun b => AVal.int .u8 (.lit (.ofNat b.toNat))) = some (s.map fun b => Value.int .u8 b.toNat) := by
  induction s with
  | nil => rfl
  | cons a r ih => simp only [List.map_cons, AVal.denL, ih, AVal.den, IT.den, Option.map_some]; rfl
theorem srcCells_ok {size n : Nat} {x : AVal} {cs : List AVal} {xv : Value} (h : srcCells size x H = some (cs, n)) (hx : x.den ρ = some xv) (hr : HRel β ρ H nl w) :
    ∃ ys, AVal.denL ρ cs = some ys ∧ (∀ w, (Builtin.lenOf xv).run P w = .ok n w) ∧ (∀ w', w'.heap = w.heap → (Builtin.firstCells size n xv).run P w' = .ok ys.toArray w') ∧ cs.length = n * size := by
  unfold srcCells at h
  split at h
  · cases h
    obtain rfl := den_sliceNil hx
    exact ⟨[], rfl, fun _ => rfl, fun _ _ => rfl, by simp⟩
  · rename_i l off len cap
    cases hzz : isZ len with
    | true =>
      rw [hzz] at h; cases h
      obtain rfl := isZ_eq hzz
      obtain ⟨b, o', n', c', rfl, _, _, hlen, _⟩ := den_slice hx
      obtain rfl : n' = 0 := by have := Option.some.inj hlen; exact (Int.ofNat.inj this).symm
      exact ⟨[], rfl, fun _ => rfl, fun w' _ => by have h9 := run_loadCells_list (P := P) (w := w') (⟨b, o', none⟩ : Addr) [] (fun j v hj => by simp at hj); simpa [Builtin.firstCells] using h9, by simp⟩
    | false =>
    rw [hzz] at h; simp only [cond_false] at h
    split at h
    · rename_i o m vals e t rw ho hm hc
      cases hn : Nat.ble (o + m * size) vals.length with
      | false => rw [hn] at h; cases h
      | true =>
        rw [hn] at h; simp only [cond_true, Option.some.injEq, Prod.mk.injEq] at h
        obtain ⟨rfl, rfl⟩ := h
        have hle := Nat.le_of_ble_eq_true hn
        obtain ⟨b, o', n', c', rfl, hN, hoff, hlen, _⟩ := den_slice hx
        rw [litNat_den ho] at hoff; rw [litNat_den hm] at hlen
        obtain rfl := nat_of_some hoff
        obtain rfl := nat_of_some hlen
        obtain ⟨xs, c, fr, hg, hxs, hp, _, _⟩ := hr.cells hc hN
        have hl := AVal.denL_length hxs
        have hlc : xs.length ≤ c.size := by simpa using hp.length_le
        refine ⟨_, AVal.denL_take _ (AVal.denL_drop _ hxs), fun _ => rfl, fun w' hw' => ?_, by simp; omega⟩
        have hg' : w'.heap[b]? = some (.cells c e fr) := by rw [hw']; exact hg
        have := loadCells_run (P := P) hg' (show o + m * size ≤ c.size by omega)
        have he : (c.toList.drop o).take (m * size) = (xs.drop o).take (m * size) := by
          obtain ⟨r, hr'⟩ := hp
          rw [← hr', List.drop_append, List.take_append]
          have : m * size - (xs.length - o) = 0 := by omega
          simp [this]
        rw [he] at this
        exact this
    · cases h
  · rename_i s
    cases hs : Nat.beq size 1 with
    | false => rw [hs] at h; cases h
    | true =>
      rw [hs] at h; simp only [cond_true, Option.some.injEq, Prod.mk.injEq] at h
      obtain ⟨rfl, rfl⟩ := h
      have h1 := Nat.eq_of_beq_eq_true hs
      subst h1
      simp only [AVal.den, ST.den, Option.some.injEq] at hx
      subst hx
      refine ⟨_, denL_bytes s, fun _ => ?_, fun w' _ => ?_, by simp⟩
      · show Result.ok (s.toArray.size) _ = _
        simp
      · simp only [Builtin.firstCells, Sem.run_pure]
        congr 1
        apply Array.toList_inj.1
        have := Lib.extract_data ⟨s.toArray⟩ 0 s.length
        simp only [Array.toList_map, this]
        simp
  · cases h

theorem run_cap (need old : Nat) (e : TypeId) : ∃ c, need ≤ c ∧ (choose (.appendCap need old e)).run P w = .ok c { w with drawn := w.drawn + 1 } :=
  ⟨(Question.appendCap need old e).cut (w.tape w.drawn (.appendCap need old e)), Nat.le_add_right _ _, rfl⟩

/-- The new row of an append that grows. -/
def aGrow (e : TypeId) (size len : Nat) (cells : List AVal) (H : Heap) (nl : Nat) : AVal × Heap × Nat :=
  (.slice (nl + 1) (.lit 0) (.lit (.ofNat len)) (.nv nl), H.set (nl + 1) ⟨.cells cells e (some (nl, size)), true⟩, nl + 2)
theorem aGrow_ok {e : TypeId} {size need cap : Nat} {cells : List AVal} {xs zs : List Value} (hd : AVal.denL ρ cells = some xs) (hlen : xs.length = need * size) (hz : zs.length = size) (hc : need ≤ cap) (hr : HRel β ρ H nl w) :
    ∃ ρ' w' x, ρ.Le ρ' ∧ (do pure (.slice (some (← newRow e (xs.toArray ++ (Builtin.zeroCells zs.toArray (cap - need))))) need cap) : Sem Value).run P w = .ok x w' ∧
      (aGrow e size need cells H nl).1.den ρ' = some x ∧ HRel β ρ' (aGrow e size need cells H nl).2.1 (nl + 2) w' := by
  have h1 := hr.num cap
  have hle1 : ρ.Le (ρ.put nl cap) := Env.le_put (hr.fresh nl (Nat.le_refl _))
  let c : Array Value := xs.toArray ++ (Builtin.zeroCells zs.toArray (cap - need))
  have hcs : c.size = cap * size := by
    simp only [c, Array.size_append, List.size_toArray, Builtin.zeroCells, Array.size_map, Array.size_range, hlen, hz]
    rw [← Nat.add_mul]; congr 1; omega
  have hrel : (ABlk.cells cells e (some (nl, size))).rel (ρ.put nl cap) true (.cells c e (0, 0)) :=
    ⟨xs, c, (0, 0), rfl, AVal.denL_mono hle1 _ hd, ⟨(Builtin.zeroCells zs.toArray (cap - need)).toList, by simp [c]⟩, ⟨by rw [← AVal.denL_length hd, hlen, hcs]; exact Nat.mul_le_mul_right _ hc, cap, Env.put_same .., hcs⟩, fun _ => .inl (Nat.le_refl _)⟩
  have h2 := h1.new _ _ true hrel
  have hle2 : (ρ.put nl cap).Le ((ρ.put nl cap).put (nl + 1) w.heap.size) := Env.le_put (h1.fresh _ (Nat.le_refl _))
  refine ⟨_, _, .slice (some ⟨w.heap.size, 0, none⟩) need cap, hle1.trans hle2, ?_, ?_, h2⟩
  · simp [newRow, c]
  · have e0 : natOf ((IT.lit 0).den ((ρ.put nl cap).put (nl + 1) w.heap.size)) = some 0 := rfl
    have e1 : natOf ((IT.lit (Int.ofNat need)).den ((ρ.put nl cap).put (nl + 1) w.heap.size)) = some need := rfl
    have e2 : natOf ((IT.nv nl).den ((ρ.put nl cap).put (nl + 1) w.heap.size)) = some cap := by
      have : ((ρ.put nl cap).put (nl + 1) w.heap.size).N nl = some cap := hle2.n _ _ (Env.put_same ..)
      simp [IT.den, this, natOf]
    simp only [aGrow, AVal.den, Env.put_same, e0, e1, e2]

def nsc (newLen oldCap : Nat) : Nat := cond (Nat.blt (2 * oldCap) newLen) newLen (cond (Nat.blt oldCap 256) (2 * oldCap) (Builtin.growBy newLen 4 oldCap))
theorem nsc_eq (a b : Nat) : nsc a b = Builtin.nextslicecap a b := by
  unfold nsc Builtin.nextslicecap
  have e1 : Nat.blt (2 * b) a = decide (a > 2 * b) := by rw [Bool.eq_iff_iff, Nat.blt_eq]; simp
  have e2 : Nat.blt b 256 = decide (b < 256) := by rw [Bool.eq_iff_iff, Nat.blt_eq]; simp
  rw [e1, e2]
  by_cases h1 : a > 2 * b
  · simp [h1]
  · by_cases h2 : b < 256 <;> simp [h1, h2]

/-- append's second half, behind what it asks first -/
theorem append_grow_run {sT ty e : TypeId} {tys : Array TypeId} {ei : TypeInfo} {zv : Value} {base : Option Addr} {sLen sCap n : Nat} {xv : Value} {ys old : List Value}
    (ht0 : tys[0]? = some sT) (hu : P.underlying sT = some (.slice e)) (hei : P.info? e = some ei) (hz : ∀ w, (zeroValue e).run P w = .ok zv w)
    (hzeros : ∀ xt, tys[1]? = some xt → ∃ d, P.underlying xt = some d ∧ ∀ k, d ≠ .int k)
    (hn : ∀ w, (Builtin.lenOf xv).run P w = .ok n w) (hys : ∀ w', w'.heap = w.heap → (Builtin.firstCells ei.size n xv).run P w' = .ok ys.toArray w')
    (hold : ∀ w', w'.heap = w.heap → (Builtin.firstCells ei.size sLen (.slice base sLen sCap)).run P w' = .ok old.toArray w')
    (hneed : ¬ (sLen + n ≤ sCap)) (hbig : Builtin.nextslicecap (sLen + n) sCap * ei.bytes ≤ 2 ^ 48) (hb0 : ei.bytes ≠ 0) :
    ∃ cap, sLen + n ≤ cap ∧ (Builtin.append_ tys ty #[.slice base sLen sCap, xv]).run P w =
      (do pure (.slice (some (← newRow e ((old ++ ys).toArray ++ (Builtin.zeroCells zv.cells (cap - (sLen + n)))))) (sLen + n) cap) : Sem Value).run P { w with drawn := w.drawn + 1 } := by
  obtain ⟨cap, hcap, hch⟩ := run_cap (P := P) (w := w) (sLen + n) sCap e
  refine ⟨cap, hcap, ?_⟩
  have c2 : ¬ (Builtin.nextslicecap (sLen + n) sCap * ei.bytes > 2 ^ 48) := by omega
  have hs0 : (#[Value.slice base sLen sCap, xv] : Array Value)[0]? = some (.slice base sLen sCap) := rfl
  have hs1 : (#[Value.slice base sLen sCap, xv] : Array Value)[1]? = some xv := rfl
  have ea : ∀ Z, old.toArray ++ (ys.toArray ++ Z) = (old ++ ys).toArray ++ Z := by intro Z; apply Array.toList_inj.1; simp
  unfold Builtin.append_
  cases h1 : tys[1]? with
  | none =>
    simp only [ht0, hs0, hs1, Sem.run_bind, run_und hu, Result.andThen_ok, run_size hei, Sem.run_pure, Bool.false_eq_true, if_false, hn w, Sem.run_ite, if_neg hneed, run_info hei, hb0, or_self, and_false, if_neg c2, hch, run_askRoom,
      Bool.not_false, if_true, hz]
    simp [hold w.drew rfl, hys w.drew rfl, ea]
  | some xt =>
    obtain ⟨d, hd, hk⟩ := hzeros xt h1
    simp only [ht0, hs0, hs1, Sem.run_bind, run_und hu, Result.andThen_ok, run_size hei, run_und hd, Sem.run_pure]
    cases d <;> first
      | exact absurd rfl (hk _)
      | (simp only [Bool.false_eq_true, if_false, hn w, Sem.run_ite, if_neg hneed, run_info hei, hb0, or_self, and_false, if_neg c2, hch, run_askRoom, Sem.run_bind, Result.andThen_ok, Sem.run_pure,
          Bool.not_false, if_true, hz]
         simp [hold w.drew rfl, hys w.drew rfl, ea])

/-- append's first half: what fits -/
theorem append_fits_run {sT ty e : TypeId} {tys : Array TypeId} {ei : TypeInfo} {base : Option Addr} {sLen sCap n : Nat} {xv : Value} {ys : List Value} {w' : World}
    (ht0 : tys[0]? = some sT) (hu : P.underlying sT = some (.slice e)) (hei : P.info? e = some ei)
    (hzeros : ∀ xt, tys[1]? = some xt → ∃ d, P.underlying xt = some d ∧ ∀ k, d ≠ .int k)
    (hn : ∀ w, (Builtin.lenOf xv).run P w = .ok n w) (hys : ∀ w', w'.heap = w.heap → (Builtin.firstCells ei.size n xv).run P w' = .ok ys.toArray w')
    (hneed : sLen + n ≤ sCap) (hst : ∀ a, base = some a → (storeCells (a.add (sLen * ei.size)) ys).run P w = .ok () w') (hno : base = none → w' = w) :
    (Builtin.append_ tys ty #[.slice base sLen sCap, xv]).run P w = .ok (.slice base (sLen + n) sCap) w' := by
  have hs0 : (#[Value.slice base sLen sCap, xv] : Array Value)[0]? = some (.slice base sLen sCap) := rfl
  have hs1 : (#[Value.slice base sLen sCap, xv] : Array Value)[1]? = some xv := rfl
  unfold Builtin.append_
  cases h1 : tys[1]? with
  | none =>
    simp only [ht0, hs0, hs1, Sem.run_bind, run_und hu, Result.andThen_ok, run_size hei, Sem.run_pure, Bool.false_eq_true, if_false, hn w, Sem.run_ite, if_pos hneed, Bool.not_false, if_true, hys w rfl]
    cases base with
    | none => rw [hno rfl]; simp
    | some a => simp [hst a rfl]
  | some xt =>
    obtain ⟨d, hd, hk⟩ := hzeros xt h1
    simp only [ht0, hs0, hs1, Sem.run_bind, run_und hu, Result.andThen_ok, run_size hei, run_und hd, Sem.run_pure]
    cases d <;> first
      | exact absurd rfl (hk _)
      | (simp only [Bool.false_eq_true, if_false, hn w, Sem.run_ite, if_pos hneed, Sem.run_bind, Result.andThen_ok, Sem.run_pure, Bool.not_false, if_true, hys w rfl]
         cases base with
         | none => rw [hno rfl]; simp
         | some a => simp [hst a rfl])

def noInt (P : Program) (t : Option TypeId) : Bool :=
  match t with
  | none => true
  | some t => match P.underlying t with
    | some (.int _) => false
    | some _ => true
    | none => false
theorem noInt_ok {t : Option TypeId} (h : noInt P t = true) : ∀ xt, t = some xt → ∃ d, P.underlying xt = some d ∧ ∀ k, d ≠ .int k := by
  intro xt e
  subst e
  unfold noInt at h
  simp only at h
  split at h
  · cases h
  · rename_i d hd hk
    exact ⟨d, hk, fun k e => by subst e; exact hd _ rfl⟩
  · cases h

/-- append: the value, the heap, the numbers. -/
def aAppend (P : Program) (tys : Array TypeId) (s x : AVal) (H : Heap) (nl : Nat) : Option (AVal × Heap × Nat) :=
  match tys.toList with
  | sT :: rest => match P.underlying sT with
    | some (.slice e) => match P.info? e, zeroA P e with
      | some ei, some z => match z.cells?, srcCells ei.size x H with
        | some zc, some (cs, n) => cond (noInt P rest.head? && Nat.beq zc.length ei.size && Nat.blt 0 ei.size && Nat.blt 0 ei.bytes) (match s with
          | .sliceNil => cond (Nat.beq n 0) (some (.sliceNil, H, nl)) (cond (Nat.ble (nsc n 0 * ei.bytes) 281474976710656) (some (aGrow e ei.size n cs H nl)) none)
          | .slice l off len cap => cond (isZ len && isZ cap && !Nat.beq n 0) (cond (Nat.ble (nsc n 0 * ei.bytes) 281474976710656) (some (aGrow e ei.size n cs H nl)) none) (match litNat off, litNat len, getCells H l with
            | some o, some m, some (vals, e', t, true) => match t, litNat cap, cap with
              | none, some c, _ => cond (Nat.ble (m + n) c)
                  (match aPut H l (o + m * ei.size) cs with
                    | some H' => some (.slice l off (.lit (.ofNat (m + n))) cap, H', nl)
                    | none => none)
                  (cond (Nat.ble (o + m * ei.size) vals.length && Nat.ble (nsc (m + n) c * ei.bytes) 281474976710656) (some (aGrow e ei.size (m + n) ((vals.drop o).take (m * ei.size) ++ cs) H nl)) none)
              | some (i, sz), _, .nv j => cond (Nat.beq i j && Nat.beq o 0 && Nat.beq sz ei.size)
                  (cond (Nat.ble ((m + n) * sz) vals.length)
                    (match aPut H l (m * ei.size) cs with
                      | some H' => some (.slice l off (.lit (.ofNat (m + n))) cap, H', nl)
                      | none => none)
                    (cond (Nat.beq vals.length (m * sz) && decide (e = e') && Nat.ble (m + n) 1000000 && Nat.ble ei.bytes 1000 && cs.all AVal.one) (some (aGrow e ei.size (m + n) (vals ++ cs) (H.del l) nl)) none)) none
              | _, _, _ => none
            | _, _, _ => none)
          | _ => none) none
        | _, _ => none
      | _, _ => none
    | _ => none
  | _ => none

theorem growBy_le (n : Nat) : ∀ (r c : Nat), Builtin.growBy n r c ≤ max c (n + (n + 768) / 4)
  | 0, c => by simp [Builtin.growBy]; omega
  | r + 1, c => by
    unfold Builtin.growBy
    split
    · omega
    · rename_i h
      have := growBy_le n r (c + (c + 768) / 4)
      omega
theorem nsc_le (n c : Nat) (h : c < n) : Builtin.nextslicecap n c ≤ 2 * n + 1000 := by
  unfold Builtin.nextslicecap
  split
  · omega
  · split
    · omega
    · have := growBy_le n 4 c
      omega

theorem aAppend_ok {tys : Array TypeId} {ty : TypeId} {s x u : AVal} {sv xv : Value} {H' : Heap} {nl' : Nat} (h : aAppend P tys s x H nl = some (u, H', nl')) (hs : s.den ρ = some sv) (hx : x.den ρ = some xv) (hr : HRel β ρ H nl w) :
    VOk P β ρ w (Builtin.append_ tys ty #[sv, xv]) u H' nl' := by
  unfold aAppend at h
  split at h
  rotate_left
  · cases h
  rename_i sT rest htys
  split at h
  rotate_left
  · cases h
  rename_i e hu
  split at h
  rotate_left
  · cases h
  rename_i ei z hei hz
  split at h
  rotate_left
  · cases h
  rename_i zc cs n hzc hsrc
  cases hcond : (noInt P rest.head? && Nat.beq zc.length ei.size && Nat.blt 0 ei.size && Nat.blt 0 ei.bytes) with
  | false => rw [hcond] at h; cases h
  | true =>
  rw [hcond] at h; simp only [cond_true] at h
  simp only [Bool.and_eq_true] at hcond
  obtain ⟨⟨⟨c1, c2⟩, c3⟩, c4⟩ := hcond
  have hsz0 : 0 < ei.size := by rw [← Nat.blt_eq]; exact c3
  have hb0 : ei.bytes ≠ 0 := by have : 0 < ei.bytes := by rw [← Nat.blt_eq]; exact c4
                                omega
  have hzl := Nat.eq_of_beq_eq_true c2
  obtain ⟨zv, hz1, hz2⟩ := zeroA_ok hz
  have hzcs := AVal.cells?_den hzc (hz2 ρ)
  have hzlen : zv.cells.toList.length = ei.size := by rw [AVal.denL_length hzcs]; exact hzl
  have ht0 : tys[0]? = some sT := by rw [← Array.getElem?_toList, htys]; rfl
  have ht1 : tys[1]? = rest.head? := by rw [← Array.getElem?_toList, htys]; cases rest <;> rfl
  have hni : ∀ xt, tys[1]? = some xt → ∃ d, P.underlying xt = some d ∧ ∀ k, d ≠ .int k := by rw [ht1]; exact noInt_ok c1
  obtain ⟨ys, hys1, hys2, hys3, hys4⟩ := srcCells_ok (P := P) hsrc hx hr
  have hylen := AVal.denL_length hys1
  -- growing, once and for all
  have grow : ∀ (H0 : Heap) (base : Option Addr) (m c : Nat) (cells : List AVal) (old : List Value), HRel β ρ H0 nl w → (∀ w', w'.heap = w.heap → (Builtin.firstCells ei.size m (.slice base m c)).run P w' = .ok old.toArray w') →
      AVal.denL ρ cells = some old → old.length = m * ei.size → ¬ (m + n ≤ c) → Builtin.nextslicecap (m + n) c * ei.bytes ≤ 2 ^ 48 →
      VOk P β ρ w (Builtin.append_ tys ty #[.slice base m c, xv]) (aGrow e ei.size (m + n) (cells ++ cs) H0 nl).1 (aGrow e ei.size (m + n) (cells ++ cs) H0 nl).2.1 (nl + 2) := by
    intro H0 base m c cells old hr0 hold hcells hlen hneed hbig
    obtain ⟨cap, hcap, hrun⟩ := append_grow_run (ty := ty) (base := base) ht0 hu hei hz1 hni hys2 hys3 hold hneed hbig hb0
    have hd := AVal.denL_append hcells hys1
    obtain ⟨ρ', w', v, hle, hrun2, hv, hr'⟩ := aGrow_ok (P := P) (e := e) (size := ei.size) (need := m + n) (cap := cap) hd (by simp [hlen, hylen, hys4, Nat.add_mul]) hzlen hcap hr0.drew
    refine ⟨ρ', w', v, hle, ?_, hv, hr'⟩
    rw [hrun]
    simpa using hrun2
  split at h
  · -- nil
    obtain rfl := den_sliceNil hs
    cases hn0 : Nat.beq n 0 with
    | true =>
      rw [hn0] at h; simp only [cond_true, Option.some.injEq, Prod.mk.injEq] at h
      obtain ⟨rfl, rfl, rfl⟩ := h
      have := Nat.eq_of_beq_eq_true hn0
      subst this
      refine ⟨ρ, w, .slice none 0 0, Env.Le.refl ρ, ?_, rfl, hr⟩
      exact append_fits_run (w' := w) ht0 hu hei hni hys2 hys3 (by omega) (fun a ha => by cases ha) (fun _ => rfl)
    | false =>
      rw [hn0] at h; simp only [cond_false] at h
      have hn1 : n ≠ 0 := fun e => by rw [e, Nat.beq_refl] at hn0; cases hn0
      cases hb : Nat.ble (nsc n 0 * ei.bytes) 281474976710656 with
      | false => rw [hb] at h; cases h
      | true =>
        rw [hb] at h; simp only [cond_true, Option.some.injEq] at h
        have := Nat.le_of_ble_eq_true hb
        rw [nsc_eq] at this
        have g := grow H none 0 0 [] [] hr (fun _ _ => rfl) rfl (by simp) (by omega) (by rw [Nat.zero_add]; exact this)
        simp only [Nat.zero_add, List.nil_append] at g
        rw [h] at g
        have : nl' = nl + 2 := by have := congrArg (fun p => p.2.2) h; simpa [aGrow] using this.symm
        rw [this]; exact g
  · rename_i l off len cap
    cases hzz : (isZ len && isZ cap && !Nat.beq n 0) with
    | true =>
      rw [hzz] at h; simp only [cond_true] at h
      simp only [Bool.and_eq_true, Bool.not_eq_true'] at hzz
      obtain ⟨⟨z1, z2⟩, z3⟩ := hzz
      obtain rfl := isZ_eq z1
      obtain rfl := isZ_eq z2
      obtain ⟨b, o', m', c', rfl, hN, hoff, hlen, hcap⟩ := den_slice hs
      obtain rfl : m' = 0 := by have := Option.some.inj hlen; exact (Int.ofNat.inj this).symm
      obtain rfl : c' = 0 := by have := Option.some.inj hcap; exact (Int.ofNat.inj this).symm
      have hn1 : n ≠ 0 := fun e => by rw [e, Nat.beq_refl] at z3; cases z3
      cases hb : Nat.ble (nsc n 0 * ei.bytes) 281474976710656 with
      | false => rw [hb] at h; cases h
      | true =>
        rw [hb] at h; simp only [cond_true, Option.some.injEq] at h
        have := Nat.le_of_ble_eq_true hb
        rw [nsc_eq] at this
        have g := grow H (some ⟨b, o', none⟩) 0 0 [] [] hr (fun w' _ => by have h9 := run_loadCells_list (P := P) (w := w') (⟨b, o', none⟩ : Addr) [] (fun j v hj => by simp at hj); simpa [Builtin.firstCells] using h9) rfl (by simp) (by omega) (by rw [Nat.zero_add]; exact this)
        simp only [Nat.zero_add, List.nil_append] at g
        rw [h] at g
        have : nl' = nl + 2 := by have := congrArg (fun p => p.2.2) h; simpa [aGrow] using this.symm
        rw [this]; exact g
    | false =>
    rw [hzz] at h; simp only [cond_false] at h
    split at h
    rotate_left
    · cases h
    rename_i o m vals e' t ho hm hc
    obtain ⟨b, o', m', c', rfl, hN, hoff, hlen, hcap⟩ := den_slice hs
    rw [litNat_den ho] at hoff; rw [litNat_den hm] at hlen
    obtain rfl := nat_of_some hoff
    obtain rfl := nat_of_some hlen
    obtain ⟨xs, c0, fr, hg, hxs, hp, ht, hf⟩ := hr.cells hc hN
    have hxl := AVal.denL_length hxs
    have hxc : xs.length ≤ c0.size := by simpa using hp.length_le
    have hsame : ∀ k, o + k ≤ xs.length → ∀ w', w'.heap = w.heap → (loadCells ⟨b, o, none⟩ k).run P w' = .ok ((xs.drop o).take k).toArray w' := by
      intro k hk w' hw'
      have hg' : w'.heap[b]? = some (.cells c0 e' fr) := by rw [hw']; exact hg
      have := loadCells_run (P := P) hg' (show o + k ≤ c0.size by omega)
      have he : (c0.toList.drop o).take k = (xs.drop o).take k := by
        obtain ⟨r, hr'⟩ := hp
        rw [← hr', List.drop_append, List.take_append]
        have : k - (xs.length - o) = 0 := by omega
        simp [this]
      rw [he] at this; exact this
    have fits : ∀ H1, aPut H l (o + m * ei.size) cs = some H1 → m + n ≤ c' → ∃ w', (Builtin.append_ tys ty #[.slice (some ⟨b, o, none⟩) m c', xv]).run P w = .ok (.slice (some ⟨b, o, none⟩) (m + n) c') w' ∧ HRel β ρ H1 nl w' := by
      intro H1 hput hle
      obtain ⟨w', hst, hr'⟩ := aPut_ok (P := P) hput hys1 hN hr
      refine ⟨w', ?_, hr'⟩
      exact append_fits_run ht0 hu hei hni hys2 hys3 hle (fun a ha => by cases ha; rw [addr_add]; exact hst) (fun e => by cases e)
    have denNew : ∀ k, (AVal.slice l off (.lit (.ofNat k)) cap).den ρ = some (.slice (some ⟨b, o, none⟩) k c') := by
      intro k
      have e0 : natOf (off.den ρ) = some o := by rw [litNat_den ho]; rfl
      have e1 : natOf ((IT.lit (Int.ofNat k)).den ρ) = some k := rfl
      have e2 : natOf (cap.den ρ) = some c' := by rw [hcap]; rfl
      simp only [AVal.den, hN, e0, e1, e2]
    split at h
    · -- all is known
      rename_i c hcl
      rw [litNat_den hcl] at hcap
      obtain rfl := nat_of_some hcap
      cases hle : Nat.ble (m + n) c with
      | true =>
        rw [hle] at h; simp only [cond_true] at h
        split at h
        · rename_i H1 hput
          simp only [Option.some.injEq, Prod.mk.injEq] at h
          obtain ⟨rfl, rfl, rfl⟩ := h
          obtain ⟨w', hrun, hr'⟩ := fits _ hput (Nat.le_of_ble_eq_true hle)
          exact ⟨ρ, w', _, Env.Le.refl ρ, hrun, denNew _, hr'⟩
        · cases h
      | false =>
        rw [hle] at h; simp only [cond_false] at h
        cases hq : (Nat.ble (o + m * ei.size) vals.length && Nat.ble (nsc (m + n) c * ei.bytes) 281474976710656) with
        | false => rw [hq] at h; cases h
        | true =>
          rw [hq] at h; simp only [cond_true, Option.some.injEq] at h
          simp only [Bool.and_eq_true] at hq
          have q1 := Nat.le_of_ble_eq_true hq.1
          have q2 := Nat.le_of_ble_eq_true hq.2
          rw [nsc_eq] at q2
          have hnot : ¬ (m + n ≤ c) := fun hh => by
            have := Nat.ble_eq_true_of_le hh
            rw [this] at hle; cases hle
          have g := grow H (some ⟨b, o, none⟩) m c _ _ hr (fun w' hw' => hsame (m * ei.size) (by omega) w' hw') (AVal.denL_take _ (AVal.denL_drop _ hxs)) (by simp; omega) hnot q2
          rw [h] at g
          have : nl' = nl + 2 := by have := congrArg (fun p => p.2.2) h; simpa [aGrow] using this.symm
          rw [this]; exact g
    · -- the end is not known
      rename_i i sz j
      cases hq : (Nat.beq i j && Nat.beq o 0 && Nat.beq sz ei.size) with
      | false => rw [hq] at h; cases h
      | true =>
        rw [hq] at h; simp only [cond_true] at h
        simp only [Bool.and_eq_true] at hq
        obtain ⟨⟨q1, q2⟩, q3⟩ := hq
        have q1 := Nat.eq_of_beq_eq_true q1
        have q2 := Nat.eq_of_beq_eq_true q2
        have q3 := Nat.eq_of_beq_eq_true q3
        subst q1; subst q2; subst q3
        obtain ⟨t1, N0, t2, t3⟩ := ht
        have hc' : c' = N0 := by
          simp only [IT.den, t2, Option.map_some, Option.some.injEq] at hcap
          exact (Int.ofNat.inj hcap).symm
        subst hc'
        cases hle : Nat.ble ((m + n) * ei.size) vals.length with
        | true =>
          rw [hle] at h; simp only [cond_true] at h
          have hle' := Nat.le_of_ble_eq_true hle
          split at h
          · rename_i H1 hput
            simp only [Option.some.injEq, Prod.mk.injEq] at h
            obtain ⟨rfl, rfl, rfl⟩ := h
            have hmc : m + n ≤ c' := by
              rcases Nat.lt_or_ge c' (m + n) with hlt | hge
              · have := Nat.mul_lt_mul_of_pos_right hlt hsz0
                omega
              · exact hge
            obtain ⟨w', hrun, hr'⟩ := fits _ (by rw [Nat.zero_add]; exact hput) hmc
            exact ⟨ρ, w', _, Env.Le.refl ρ, hrun, denNew _, hr'⟩
          · cases h
        | false =>
          rw [hle] at h; simp only [cond_false] at h
          cases hq : (Nat.beq vals.length (m * ei.size) && decide (e = e') && Nat.ble (m + n) 1000000 && Nat.ble ei.bytes 1000 && cs.all AVal.one) with
          | false => rw [hq] at h; cases h
          | true =>
            rw [hq] at h; simp only [cond_true, Option.some.injEq] at h
            simp only [Bool.and_eq_true, decide_eq_true_eq] at hq
            obtain ⟨⟨⟨⟨p1, p2⟩, p3⟩, p4⟩, p5⟩ := hq
            have p1 := Nat.eq_of_beq_eq_true p1
            have p3 := Nat.le_of_ble_eq_true p3
            have p4 := Nat.le_of_ble_eq_true p4
            subst p2
            have hnl : nl' = nl + 2 := by have := congrArg (fun p => p.2.2) h; simpa [aGrow] using this.symm
            have hvt : (xs.drop 0).take (m * ei.size) = xs := by rw [List.drop_zero, List.take_of_length_le (by omega)]
            by_cases hfit : m + n ≤ c'
            · -- in its place
              have hl0 : vals.length = m * ei.size := p1
              -- the cells behind the known ones are written
              obtain ⟨w', c1', hrun, hheap, hcl, htp, hos, hout⟩ := storeCells_run (P := P) ys 0 (m * ei.size) w c0 (hf rfl) hg (by
                have := Nat.mul_le_mul_right ei.size hfit
                rw [Nat.add_mul] at this
                omega) (ones_den p5 hys1)
              have hr1 := hr.num c'
              have hle1 : ρ.Le (ρ.put nl c') := Env.le_put (hr.fresh nl (Nat.le_refl _))
              have hmn := Nat.mul_le_mul_right ei.size hfit
              rw [Nat.add_mul] at hmn
              have hsz : c1'.size = c0.size := by
                have := congrArg List.length hcl
                simp at this
                omega
              have hrel : (ABlk.cells (vals ++ cs) e (some (nl, ei.size))).rel (ρ.put nl c') true (.cells c1' e fr) := by
                refine ⟨xs ++ ys, c1', fr, rfl, AVal.denL_mono hle1 _ (AVal.denL_append hxs hys1), ?_, ?_, fun _ => by rw [hsz]; exact hf rfl⟩
                · rw [hcl]
                  obtain ⟨r, hr'⟩ := hp
                  have e1 : List.take (m * ei.size + 0) c0.toList = xs := by rw [← hr', List.take_append]; have : m * ei.size + 0 - xs.length = 0 := by omega
                                                                             rw [this, List.take_of_length_le (by omega)]; simp
                  rw [e1]
                  exact ⟨_, rfl⟩
                · refine ⟨?_, c', Env.put_same .., by rw [hsz]; exact t3⟩
                  rw [hsz, t3]
                  simp; omega
              have hr2 := hr1.moveW (k' := ⟨.cells (vals ++ cs) e (some (nl, ei.size)), true⟩) (getCells_some hc) rfl (hle1.n _ _ hN) hrel hheap htp hos hout
              have hle2 : (ρ.put nl c').Le ((ρ.put nl c').put (nl + 1) b) := Env.le_put (hr1.fresh _ (Nat.le_refl _))
              have hu1 : u = (aGrow e ei.size (m + n) (vals ++ cs) (H.del l) nl).1 := by rw [h]
              have hu2 : H' = (aGrow e ei.size (m + n) (vals ++ cs) (H.del l) nl).2.1 := by rw [h]
              rw [hu1, hu2, hnl]
              refine ⟨(ρ.put nl c').put (nl + 1) b, w', .slice (some ⟨b, 0, none⟩) (m + n) c', hle1.trans hle2, ?_, ?_, hr2⟩
              · exact append_fits_run ht0 hu hei hni hys2 hys3 hfit (fun a ha => by cases ha; rw [addr_add, Nat.zero_add]; exact hrun) (fun e => by cases e)
              · have e0 : natOf ((IT.lit 0).den ((ρ.put nl c').put (nl + 1) b)) = some 0 := rfl
                have e1 : natOf ((IT.lit (Int.ofNat (m + n))).den ((ρ.put nl c').put (nl + 1) b)) = some (m + n) := rfl
                have e2 : natOf ((IT.nv nl).den ((ρ.put nl c').put (nl + 1) b)) = some c' := by
                  have : ((ρ.put nl c').put (nl + 1) b).N nl = some c' := hle2.n _ _ (Env.put_same ..)
                  simp [IT.den, this, natOf]
                simp only [aGrow, AVal.den, Env.put_same, e0, e1, e2]
            · have g := grow (H.del l) (some ⟨b, 0, none⟩) m c' vals xs (hr.del l) (fun w' hw' => by
                have := hsame (m * ei.size) (by omega) w' hw'
                rw [hvt] at this; exact this) hxs (by omega) hfit (by
                have := nsc_le (m + n) c' (by omega)
                exact Nat.le_trans (Nat.mul_le_mul this p4) (Nat.le_trans (Nat.mul_le_mul_right 1000 (show 2 * (m + n) + 1000 ≤ 2001000 by omega)) (by decide)))
              rw [h] at g
              rw [hnl]; exact g
    · cases h
  · cases h

-- ROWS WHOSE LENGTH IS NO NUMBER
def kinds1 : List IntKind → List AVal → Bool
  | [], [] => true
  | k :: r, .int k' _ :: s => decide (k = k') && kinds1 r s
  | _, _ => false
theorem kinds1_ok : ∀ {ks : List IntKind} {cs : List AVal} {ys : List Value}, kinds1 ks cs = true → AVal.denL ρ cs = some ys → ys.length = ks.length ∧ ∀ (j : Nat) k, ks[j]? = some k → ∃ z, ys[j]? = some (.int k z)
  | [], [], ys, _, e => by cases e; exact ⟨rfl, fun j k h => by simp at h⟩
  | [], _ :: _, ys, h, _ => by simp [kinds1] at h
  | k :: r, [], ys, h, _ => by simp [kinds1] at h
  | k :: r, v :: s, ys, h, e => by
    cases v <;> simp only [kinds1] at h <;> first | (cases h; done) | skip
    simp only [Bool.and_eq_true, decide_eq_true_eq] at h
    obtain ⟨rfl, h2⟩ := h
    simp only [AVal.denL] at e
    split at e
    · rename_i x l hx hl
      cases e
      obtain ⟨h3, h4⟩ := kinds1_ok h2 hl
      simp only [AVal.den] at hx
      obtain ⟨z, _, rfl⟩ := Option.map_eq_some_iff.1 hx
      refine ⟨by simp [h3], fun j k' hk => ?_⟩
      cases j with
      | zero => simp at hk; subst hk; exact ⟨z, rfl⟩
      | succ j => simpa using h4 j k' (by simpa using hk)
    · cases e
theorem typed_snoc {ks : List IntKind} {m : Nat} {xs ys : List Value} (h : Typed ks m xs) (hl : ys.length = ks.length) (hy : ∀ (j : Nat) k, ks[j]? = some k → ∃ z, ys[j]? = some (.int k z)) : Typed ks (m + 1) (xs ++ ys) := by
  refine ⟨by rw [List.length_append, h.1, hl, Nat.add_mul, Nat.one_mul], fun i j k hi hk => ?_⟩
  have hj : j < ks.length := (List.getElem?_eq_some_iff.1 hk).1
  rcases Nat.lt_or_ge i m with h1 | h1
  · obtain ⟨z, hz⟩ := h.2 i j k h1 hk
    have : i * ks.length + j < xs.length := (List.getElem?_eq_some_iff.1 hz).1
    exact ⟨z, by rw [List.getElem?_append_left this]; exact hz⟩
  · obtain rfl : i = m := by omega
    obtain ⟨z, hz⟩ := hy j k hk
    refine ⟨z, ?_⟩
    rw [List.getElem?_append_right (by rw [h.1]; omega), h.1]
    rw [show i * ks.length + j - i * ks.length = j by omega]; exact hz

def repK : Nat → List IntKind → List IntKind
  | 0, _ => []
  | n + 1, ks => ks ++ repK n ks
theorem repK_length : ∀ (n : Nat) (ks : List IntKind), (repK n ks).length = n * ks.length
  | 0, _ => by simp [repK]
  | n + 1, ks => by rw [repK, List.length_append, repK_length n ks, Nat.add_mul, Nat.one_mul, Nat.add_comm]
theorem repK_get : ∀ {n i : Nat} {ks : List IntKind} {j : Nat} {k : IntKind}, i < n → ks[j]? = some k → (repK n ks)[i * ks.length + j]? = some k
  | 0, _, _, _, _, h, _ => by omega
  | n + 1, 0, ks, j, k, _, hk => by
    have hj : j < ks.length := (List.getElem?_eq_some_iff.1 hk).1
    rw [repK, Nat.zero_mul, Nat.zero_add, List.getElem?_append_left hj]; exact hk
  | n + 1, i + 1, ks, j, k, h, hk => by
    rw [repK, Nat.add_mul, Nat.one_mul, List.getElem?_append_right (by omega), show i * ks.length + ks.length + j - ks.length = i * ks.length + j by omega]
    exact repK_get (by omega) hk
theorem typed_snocN {ks : List IntKind} {m n : Nat} {xs ys : List Value} (h : Typed ks m xs) (hl : ys.length = (repK n ks).length) (hy : ∀ (j : Nat) k, (repK n ks)[j]? = some k → ∃ z, ys[j]? = some (.int k z)) : Typed ks (m + n) (xs ++ ys) := by
  refine ⟨by rw [List.length_append, h.1, hl, repK_length, Nat.add_mul], fun i j k hi hk => ?_⟩
  have hj : j < ks.length := (List.getElem?_eq_some_iff.1 hk).1
  rcases Nat.lt_or_ge i m with h1 | h1
  · obtain ⟨z, hz⟩ := h.2 i j k h1 hk
    have : i * ks.length + j < xs.length := (List.getElem?_eq_some_iff.1 hz).1
    exact ⟨z, by rw [List.getElem?_append_left this]; exact hz⟩
  · obtain ⟨i, rfl⟩ := Nat.exists_eq_add_of_le h1
    obtain ⟨z, hz⟩ := hy _ k (repK_get (i := i) (by omega) hk)
    refine ⟨z, ?_⟩
    rw [Nat.add_mul, List.getElem?_append_right (by rw [h.1]; omega), h.1]
    rw [show m * ks.length + i * ks.length + j - m * ks.length = i * ks.length + j by omega]; exact hz

/-- append of some elements to a row whose length is no number. -/
def aAppendV (P : Program) (tys : Array TypeId) (s x : AVal) (H : Heap) (nl : Nat) : Option (AVal × Heap × Nat × List BT) :=
  match tys.toList with
  | sT :: rest => match P.underlying sT with
    | some (.slice e) => match P.info? e, zeroA P e with
      | some ei, some z => match z.cells?, srcCells ei.size x H with
        | some zc, some (cs, n) => cond (noInt P rest.head? && Nat.beq zc.length ei.size && Nat.blt 0 ei.size && Nat.blt 0 ei.bytes && (Nat.blt 0 n && Nat.ble n 4)) (match s with
          | .slice l (.lit (.ofNat 0)) len (.nv j) => match litNat len, H.get l with
            | none, some ⟨.arr t ks e' an (.lit (.ofNat 0)) (some (.nv i)), true⟩ =>
              cond (Nat.beq i j && IT.beq len an && Nat.beq ks.length ei.size && decide (e = e') && Nat.ble ei.bytes 1000 && cs.all AVal.one && kinds1 (repK n ks) cs)
                (some (.slice (nl + 1) (.lit 0) (.bin .add .i64 len (.lit (.ofNat n))) (.nv nl), (H.del l).set (nl + 1) ⟨.arr (.snoc t cs) ks e (.bin .add .i64 len (.lit (.ofNat n))) (.lit 0) (some (.nv nl)), true⟩, nl + 2, [.cmp .leq len (.lit 1000000)])) none
            | _, _ => none
          | _ => none) none
        | _, _ => none
      | _, _ => none
    | _ => none
  | _ => none
theorem addn_den {len : IT} {m n : Nat} (h : len.den ρ = some (m : Int)) (hm : m ≤ 1000000) (hn : n ≤ 4) : (IT.bin .add .i64 len (.lit (.ofNat n))).den ρ = some ((m + n : Nat) : Int) := by
  have hw : IntKind.i64.wrap ((m + n : Nat) : Int) = ((m + n : Nat) : Int) := wrap_in .i64 _ (by simp only [lo]; omega) (by simp only [hi]; omega)
  simp only [IT.den, h, intBin]
  exact congrArg some hw
theorem aAppendV_ok {tys : Array TypeId} {ty : TypeId} {s x u : AVal} {sv xv : Value} {H' : Heap} {nl' : Nat} {mu : List BT} (h : aAppendV P tys s x H nl = some (u, H', nl', mu)) (hm : ∀ c ∈ mu, c.den ρ = some true) (hs : s.den ρ = some sv) (hx : x.den ρ = some xv) (hr : HRel β ρ H nl w) :
    VOk P β ρ w (Builtin.append_ tys ty #[sv, xv]) u H' nl' := by
  unfold aAppendV at h
  split at h
  rotate_left
  · cases h
  rename_i sT rest htys
  split at h
  rotate_left
  · cases h
  rename_i e hu
  split at h
  rotate_left
  · cases h
  rename_i ei z hei hz
  split at h
  rotate_left
  · cases h
  rename_i zc cs n hzc hsrc
  cases hcond : (noInt P rest.head? && Nat.beq zc.length ei.size && Nat.blt 0 ei.size && Nat.blt 0 ei.bytes && (Nat.blt 0 n && Nat.ble n 4)) with
  | false => rw [hcond] at h; cases h
  | true =>
  rw [hcond] at h; simp only [cond_true] at h
  simp only [Bool.and_eq_true] at hcond
  obtain ⟨⟨⟨⟨c1, c2⟩, c3⟩, c4⟩, c5⟩ := hcond
  have hn1 : 0 < n := by rw [← Nat.blt_eq]; exact c5.1
  have hn4 : n ≤ 4 := Nat.le_of_ble_eq_true c5.2
  have hsz0 : 0 < ei.size := by rw [← Nat.blt_eq]; exact c3
  have hb0 : ei.bytes ≠ 0 := by have : 0 < ei.bytes := by rw [← Nat.blt_eq]; exact c4
                                omega
  have hzl := Nat.eq_of_beq_eq_true c2
  obtain ⟨zv, hz1, hz2⟩ := zeroA_ok hz
  have hzcs := AVal.cells?_den hzc (hz2 ρ)
  have hzlen : zv.cells.toList.length = ei.size := by rw [AVal.denL_length hzcs]; exact hzl
  have ht0 : tys[0]? = some sT := by rw [← Array.getElem?_toList, htys]; rfl
  have ht1 : tys[1]? = rest.head? := by rw [← Array.getElem?_toList, htys]; cases rest <;> rfl
  have hni : ∀ xt, tys[1]? = some xt → ∃ d, P.underlying xt = some d ∧ ∀ k, d ≠ .int k := by rw [ht1]; exact noInt_ok c1
  obtain ⟨ys, hys1, hys2, hys3, hys4⟩ := srcCells_ok (P := P) hsrc hx hr
  have hylen := AVal.denL_length hys1
  split at h
  rotate_left
  · cases h
  rename_i l len j
  split at h
  rotate_left
  · cases h
  rename_i t ks e' an i hlit hg
  cases hq : (Nat.beq i j && IT.beq len an && Nat.beq ks.length ei.size && decide (e = e') && Nat.ble ei.bytes 1000 && cs.all AVal.one && kinds1 (repK n ks) cs) with
  | false => rw [hq] at h; cases h
  | true =>
  rw [hq] at h; simp only [cond_true, Option.some.injEq, Prod.mk.injEq] at h
  obtain ⟨rfl, rfl, rfl, rfl⟩ := h
  simp only [Bool.and_eq_true, decide_eq_true_eq] at hq
  obtain ⟨⟨⟨⟨⟨⟨q1, q2⟩, q3⟩, qe⟩, q4⟩, q5⟩, q6⟩ := hq
  subst qe
  have q1 := Nat.eq_of_beq_eq_true q1
  have q2 := IT.beq_eq q2
  have q3 := Nat.eq_of_beq_eq_true q3
  have q4 := Nat.le_of_ble_eq_true q4
  subst q1; subst q2
  obtain ⟨b, o', m, c', rfl, hN, hoff, hlen, hcap⟩ := den_slice hs
  obtain rfl : o' = 0 := by have := Option.some.inj hoff; exact (Int.ofNat.inj this).symm
  obtain ⟨b', ob, hb', hob, xs, c0, fr, el, m', st, rfl, hel, hd, hst, ⟨hstc, hp⟩, hn', hty, hroom, hf⟩ := hr.blk l _ hg
  rw [hN] at hb'; cases hb'
  obtain rfl : st = 0 := by have := Option.some.inj hst; exact (Int.ofNat.inj this).symm
  have hel := (hel rfl).symm
  subst hel
  have hmm : m' = m := by have := hn'.symm.trans hlen; exact Int.ofNat.inj (Option.some.inj this)
  subst hmm
  obtain ⟨N0, hN0, hroom⟩ := hroom
  rw [Nat.sub_zero] at hroom
  rw [List.drop_zero] at hp
  have hc' : c' = N0 := by
    have := hN0.symm.trans hcap; exact (Int.ofNat.inj (Option.some.inj this)).symm
  subst hc'
  have hm6 : m' ≤ 1000000 := by
    have := hm _ List.mem_cons_self
    simp only [BT.den, hlen, IT.den, intCmp, Option.some.injEq, decide_eq_true_eq, Int.ofNat_eq_natCast] at this
    omega
  obtain ⟨k1, k2⟩ := kinds1_ok q6 hys1
  have hxl : xs.length = m' * ei.size := by rw [hty.1, q3]
  have hyl : ys.length = n * ei.size := by rw [k1, repK_length, q3]
  have hxc : xs.length ≤ c0.size := by simpa using hp.length_le
  have hsame : ∀ w', w'.heap = w.heap → (Builtin.firstCells ei.size m' (.slice (some ⟨b, 0, none⟩) m' c')).run P w' = .ok xs.toArray w' := by
    intro w' hw'
    have hg' : w'.heap[b]? = some (.cells c0 e fr) := by rw [hw']; exact hob
    have := loadCells_run (P := P) (o := 0) (n := m' * ei.size) hg' (by omega)
    have he : (c0.toList.drop 0).take (m' * ei.size) = xs := by
      obtain ⟨r, hr'⟩ := hp
      rw [← hr', List.drop_zero, List.take_append, List.take_of_length_le (by omega)]
      have : m' * ei.size - xs.length = 0 := by omega
      rw [this]; simp
    rw [he] at this; exact this
  have hlen1 : ∀ ρ' : Env, ρ.Le ρ' → (IT.bin .add .i64 len (.lit (.ofNat n))).den ρ' = some ((m' + n : Nat) : Int) := fun ρ' hle => addn_den (IT.den_mono hle hlen) hm6 hn4
  by_cases hfit : m' + n ≤ c'
  · have hmn := Nat.mul_le_mul_right ei.size hfit
    rw [Nat.add_mul] at hmn
    rw [q3] at hroom
    obtain ⟨w', c1', hrun, hheap, hcl, htp, hos, hout⟩ := storeCells_run (P := P) ys 0 (m' * ei.size) w c0 (hf rfl) hob (by omega) (ones_den q5 hys1)
    have hr1 := hr.num c'
    have hle1 : ρ.Le (ρ.put nl c') := Env.le_put (hr.fresh nl (Nat.le_refl _))
    have hsz : c1'.size = c0.size := by
      have := congrArg List.length hcl
      simp at this
      omega
    have hrel : (ABlk.arr (.snoc t cs) ks e (.bin .add .i64 len (.lit (.ofNat n))) (.lit 0) (some (.nv nl))).rel (ρ.put nl c') true (.cells c1' e fr) := by
      refine ⟨xs ++ ys, c1', fr, e, m' + n, 0, rfl, fun _ => rfl, ?_, rfl, ⟨Nat.zero_le _, ?_⟩, hlen1 _ hle1, typed_snocN hty k1 k2, ⟨c', by simp only [IT.den, Env.put_same]; rfl, by rw [Nat.sub_zero, hsz, hroom, q3]⟩, fun _ => by rw [hsz]; exact hf rfl⟩
      · simp only [AT.den, AT.den_mono hle1 hd, AVal.denL_mono hle1 _ hys1]
      · rw [List.drop_zero, hcl]
        obtain ⟨r, hr'⟩ := hp
        have e1 : List.take (m' * ei.size + 0) c0.toList = xs := by rw [← hr', List.take_append]; have : m' * ei.size + 0 - xs.length = 0 := by omega
                                                                    rw [this, List.take_of_length_le (by omega)]; simp
        rw [e1]
        exact ⟨_, rfl⟩
    have hr2 := hr1.moveW (k' := ⟨.arr (.snoc t cs) ks e (.bin .add .i64 len (.lit (.ofNat n))) (.lit 0) (some (.nv nl)), true⟩) hg rfl (hle1.n _ _ hN) hrel hheap htp hos hout
    have hle2 : (ρ.put nl c').Le ((ρ.put nl c').put (nl + 1) b) := Env.le_put (hr1.fresh _ (Nat.le_refl _))
    refine ⟨(ρ.put nl c').put (nl + 1) b, w', .slice (some ⟨b, 0, none⟩) (m' + n) c', hle1.trans hle2, ?_, ?_, hr2⟩
    · exact append_fits_run ht0 hu hei hni hys2 hys3 hfit (fun a ha => by cases ha; rw [addr_add, Nat.zero_add]; exact hrun) (fun e => by cases e)
    · have e0 : natOf ((IT.lit 0).den ((ρ.put nl c').put (nl + 1) b)) = some 0 := rfl
      have e1 : natOf ((IT.bin .add .i64 len (.lit (.ofNat n))).den ((ρ.put nl c').put (nl + 1) b)) = some (m' + n) := by rw [hlen1 _ (hle1.trans hle2)]; rfl
      have e2 : natOf ((IT.nv nl).den ((ρ.put nl c').put (nl + 1) b)) = some c' := by
        have : ((ρ.put nl c').put (nl + 1) b).N nl = some c' := hle2.n _ _ (Env.put_same ..)
        simp [IT.den, this, natOf]
      simp only [AVal.den, Env.put_same, e0, e1, e2]
  · have hbig : Builtin.nextslicecap (m' + n) c' * ei.bytes ≤ 2 ^ 48 := by
      have := nsc_le (m' + n) c' (by omega)
      exact Nat.le_trans (Nat.mul_le_mul this q4) (Nat.le_trans (Nat.mul_le_mul_right 1000 (show 2 * (m' + n) + 1000 ≤ 2001008 by omega)) (by decide))
    obtain ⟨cap, hcap2, hrun⟩ := append_grow_run (ty := ty) (base := some ⟨b, 0, none⟩) ht0 hu hei hz1 hni hys2 hys3 hsame hfit hbig hb0
    have hr0 := (hr.del l).drew
    have h1 := hr0.num cap
    have hle1 : ρ.Le (ρ.put nl cap) := Env.le_put (hr.fresh nl (Nat.le_refl _))
    let c : Array Value := (xs ++ ys).toArray ++ (Builtin.zeroCells zv.cells (cap - (m' + n)))
    have hcs : c.size = cap * ei.size := by
      have hz' : zv.cells.size = ei.size := by simpa using hzlen
      simp only [c, Array.size_append, List.size_toArray, Builtin.zeroCells, Array.size_map, Array.size_range, List.length_append, hxl, hyl, hz']
      have : m' * ei.size + n * ei.size = (m' + n) * ei.size := by rw [Nat.add_mul]
      rw [this, ← Nat.add_mul]; congr 1; omega
    have hrel : (ABlk.arr (.snoc t cs) ks e (.bin .add .i64 len (.lit (.ofNat n))) (.lit 0) (some (.nv nl))).rel (ρ.put nl cap) true (.cells c e (0, 0)) := by
      refine ⟨xs ++ ys, c, (0, 0), e, m' + n, 0, rfl, fun _ => rfl, ?_, rfl, ⟨Nat.zero_le _, ?_⟩, hlen1 _ hle1, typed_snocN hty k1 k2, ⟨cap, by simp only [IT.den, Env.put_same]; rfl, by rw [Nat.sub_zero, hcs, q3]⟩, fun _ => .inl (Nat.le_refl _)⟩
      · simp only [AT.den, AT.den_mono hle1 hd, AVal.denL_mono hle1 _ hys1]
      · exact ⟨(Builtin.zeroCells zv.cells (cap - (m' + n))).toList, by simp [c]⟩
    have h2 := h1.new _ _ true hrel
    have hle2 : (ρ.put nl cap).Le ((ρ.put nl cap).put (nl + 1) w.heap.size) := Env.le_put (h1.fresh _ (Nat.le_refl _))
    refine ⟨_, _, .slice (some ⟨w.heap.size, 0, none⟩) (m' + n) cap, hle1.trans hle2, ?_, ?_, h2⟩
    · rw [hrun]
      show (do pure (.slice (some (← newRow e c)) (m' + n) cap) : Sem Value).run P { w with drawn := w.drawn + 1 } = _
      simp [newRow]
      exact ⟨rfl, rfl, rfl⟩
    · have e0 : natOf ((IT.lit 0).den ((ρ.put nl cap).put (nl + 1) w.heap.size)) = some 0 := rfl
      have e1 : natOf ((IT.bin .add .i64 len (.lit (.ofNat n))).den ((ρ.put nl cap).put (nl + 1) w.heap.size)) = some (m' + n) := by rw [hlen1 _ (hle1.trans hle2)]; rfl
      have e2 : natOf ((IT.nv nl).den ((ρ.put nl cap).put (nl + 1) w.heap.size)) = some cap := by
        have : ((ρ.put nl cap).put (nl + 1) w.heap.size).N nl = some cap := hle2.n _ _ (Env.put_same ..)
        simp [IT.den, this, natOf]
      simp only [AVal.den, Env.put_same, e0, e1, e2]

-- A TEXT BEHIND BYTES
def bytesV (b : ByteArray) : List Value := b.data.toList.map fun x => .int .u8 x.toNat
theorem bytesV_length (b : ByteArray) : (bytesV b).length = b.size := by simp [bytesV]
theorem str_src (b : ByteArray) : (∀ w, (Builtin.lenOf (.string b)).run P w = .ok b.size w) ∧ ∀ w', (Builtin.firstCells 1 b.size (.string b)).run P w' = .ok (bytesV b).toArray w' := by
  refine ⟨fun _ => rfl, fun w' => ?_⟩
  simp only [Builtin.firstCells, Sem.run_pure]
  congr 1
  apply Array.toList_inj.1
  have := Lib.extract_data b 0 b.size
  simp only [Array.toList_map, this, bytesV]
  congr 1
  rw [List.drop_zero, List.take_of_length_le]
  show b.data.toList.length ≤ b.data.size - 0
  simp
theorem bts_typed (b : ByteArray) : Typed [.u8] b.size (bytesV b) := by
  refine ⟨by rw [bytesV_length]; simp, fun i j k hi hk => ?_⟩
  cases j with
  | zero =>
    cases hk
    have h : i < b.data.toList.length := by
      have : b.data.toList.length = b.size := by simp
      omega
    refine ⟨(b.data.toList[i].toNat : Int), ?_⟩
    rw [show i * [IntKind.u8].length + 0 = i by simp, bytesV, List.getElem?_map, List.getElem?_eq_getElem h]; rfl
  | succ j => simp at hk
/-- A new row of bytes that is a text. -/
theorem newBts {H0 : Heap} {w1 : World} {v : ST} {lenT : IT} {e : TypeId} {cap : Nat} {zv : Value} (hr0 : HRel β ρ H0 nl w1) (hlen : lenT.den ρ = some ((v.den ρ).size : Int)) (hcap : (v.den ρ).size ≤ cap) (hz : zv.cells.size = 1) :
    let c := (bytesV (v.den ρ)).toArray ++ Builtin.zeroCells zv.cells (cap - (v.den ρ).size)
    let ρ' := (ρ.put nl cap).put (nl + 1) w1.heap.size
    ρ.Le ρ' ∧ (AVal.slice (nl + 1) (.lit 0) lenT (.nv nl)).den ρ' = some (.slice (some ⟨w1.heap.size, 0, none⟩) (v.den ρ).size cap) ∧
    HRel β ρ' (H0.set (nl + 1) ⟨.arr (.bts v) [.u8] e lenT (.lit 0) (some (.nv nl)), true⟩) (nl + 2) { w1 with heap := w1.heap.push (.cells c e) } := by
  intro c ρ'
  have h1 := hr0.num cap
  have hle1 : ρ.Le (ρ.put nl cap) := Env.le_put (hr0.fresh nl (Nat.le_refl _))
  have hcs : c.size = cap := by
    simp only [c, Array.size_append, List.size_toArray, Builtin.zeroCells, Array.size_map, Array.size_range, bytesV_length, hz]; omega
  have hrel : (ABlk.arr (.bts v) [.u8] e lenT (.lit 0) (some (.nv nl))).rel (ρ.put nl cap) true (.cells c e (0, 0)) := by
    refine ⟨bytesV (v.den ρ), c, (0, 0), e, (v.den ρ).size, 0, rfl, fun _ => rfl, ?_, rfl, ⟨Nat.zero_le _, ?_⟩, IT.den_mono hle1 hlen, bts_typed _, ⟨cap, by simp only [IT.den, Env.put_same]; rfl, by rw [Nat.sub_zero, hcs]; simp⟩, fun _ => .inl (Nat.le_refl _)⟩
    · simp only [AT.den, ST.den_mono hle1]; rfl
    · exact ⟨(Builtin.zeroCells zv.cells (cap - (v.den ρ).size)).toList, by simp [c]⟩
  have h2 := h1.new _ _ true hrel
  have hle2 : (ρ.put nl cap).Le ρ' := Env.le_put (h1.fresh _ (Nat.le_refl _))
  refine ⟨hle1.trans hle2, ?_, h2⟩
  have e0 : natOf ((IT.lit 0).den ρ') = some 0 := rfl
  have e1 : natOf (lenT.den ρ') = some (v.den ρ).size := by rw [IT.den_mono (hle1.trans hle2) hlen]; rfl
  have e2 : natOf ((IT.nv nl).den ρ') = some cap := by
    have : ρ'.N nl = some cap := hle2.n _ _ (Env.put_same ..)
    simp [IT.den, this, natOf]
  have e3 : ρ'.N (nl + 1) = some w1.heap.size := Env.put_same ..
  simp only [AVal.den, e0, e1, e2, e3]
/-- append of a text to a row of bytes. -/
def aAppendS (P : Program) (tys : Array TypeId) (s x : AVal) (H : Heap) (nl : Nat) : Option (AVal × Heap × Nat × List BT) :=
  match tys.toList, x with
  | sT :: rest, .str tx => match P.underlying sT with
    | some (.slice e) => match P.info? e, zeroA P e with
      | some ei, some z => match z.cells? with
        | some zc => cond (noInt P rest.head? && Nat.beq zc.length 1 && Nat.beq ei.size 1 && Nat.beq ei.bytes 1) (match s with
          | .sliceNil => some (.slice (nl + 1) (.lit 0) (.slen tx) (.nv nl), H.set (nl + 1) ⟨.arr (.bts tx) [.u8] e (.slen tx) (.lit 0) (some (.nv nl)), true⟩, nl + 2, [.cmp .geq (.slen tx) (.lit 1), .cmp .leq (.slen tx) (.lit 1000000000000)])
          | .slice l (.lit (.ofNat 0)) len (.nv j) => match H.get l with
            | some ⟨.arr t ks e' an (.lit (.ofNat 0)) (some (.nv i)), true⟩ => match t.strT with
              | some u => cond (Nat.beq i j && IT.beq len an && decide (ks = [.u8]) && decide (e = e'))
                (some (.slice (nl + 1) (.lit 0) (.bin .add .i64 len (.slen tx)) (.nv nl), (H.del l).set (nl + 1) ⟨.arr (.bts (.cat u tx)) [.u8] e (.bin .add .i64 len (.slen tx)) (.lit 0) (some (.nv nl)), true⟩, nl + 2, [.cmp .leq len (.lit 1000000000000), .cmp .leq (.slen tx) (.lit 1000000000000)])) none
              | none => none
            | _ => none
          | _ => none) none
        | none => none
      | _, _ => none
    | _ => none
  | _, _ => none
theorem adds_den {len s : IT} {m n : Nat} (h : len.den ρ = some (m : Int)) (hs : s.den ρ = some (n : Int)) (hm : m ≤ 1000000000000) (hn : n ≤ 1000000000000) : (IT.bin .add .i64 len s).den ρ = some ((m + n : Nat) : Int) := by
  have hw : IntKind.i64.wrap ((m + n : Nat) : Int) = ((m + n : Nat) : Int) := wrap_in .i64 _ (by simp only [lo]; omega) (by simp only [hi]; omega)
  simp only [IT.den, h, hs, intBin]
  exact congrArg some hw
theorem aAppendS_ok {tys : Array TypeId} {ty : TypeId} {s x u : AVal} {sv xv : Value} {H' : Heap} {nl' : Nat} {mu : List BT} (h : aAppendS P tys s x H nl = some (u, H', nl', mu)) (hm : ∀ c ∈ mu, c.den ρ = some true) (hs : s.den ρ = some sv) (hx : x.den ρ = some xv) (hr : HRel β ρ H nl w) :
    VOk P β ρ w (Builtin.append_ tys ty #[sv, xv]) u H' nl' := by
  unfold aAppendS at h
  split at h
  rotate_left
  · cases h
  rename_i sT rest tx htys
  split at h
  rotate_left
  · cases h
  rename_i e hu
  split at h
  rotate_left
  · cases h
  rename_i ei z hei hz
  split at h
  rotate_left
  · cases h
  rename_i zc hzc
  cases hcond : (noInt P rest.head? && Nat.beq zc.length 1 && Nat.beq ei.size 1 && Nat.beq ei.bytes 1) with
  | false => rw [hcond] at h; cases h
  | true =>
  rw [hcond] at h; simp only [cond_true] at h
  simp only [Bool.and_eq_true] at hcond
  obtain ⟨⟨⟨c1, c2⟩, c3⟩, c4⟩ := hcond
  have c2 := Nat.eq_of_beq_eq_true c2
  have c3 := Nat.eq_of_beq_eq_true c3
  have c4 := Nat.eq_of_beq_eq_true c4
  have hb0 : ei.bytes ≠ 0 := by omega
  obtain ⟨zv, hz1, hz2⟩ := zeroA_ok hz
  have hzcs := AVal.cells?_den hzc (hz2 ρ)
  have hzlen : zv.cells.size = 1 := by have := AVal.denL_length hzcs; simp at this; omega
  have ht0 : tys[0]? = some sT := by rw [← Array.getElem?_toList, htys]; rfl
  have ht1 : tys[1]? = rest.head? := by rw [← Array.getElem?_toList, htys]; cases rest <;> rfl
  have hni : ∀ xt, tys[1]? = some xt → ∃ d, P.underlying xt = some d ∧ ∀ k, d ≠ .int k := by rw [ht1]; exact noInt_ok c1
  simp only [AVal.den, Option.some.injEq] at hx
  subst hx
  obtain ⟨hys2, hys3⟩ := str_src (P := P) (tx.den ρ)
  have hys3' : ∀ w', w'.heap = w.heap → (Builtin.firstCells ei.size (tx.den ρ).size (.string (tx.den ρ))).run P w' = .ok (bytesV (tx.den ρ)).toArray w' := fun w' _ => by rw [c3]; exact hys3 w'
  split at h
  · -- nil
    simp only [Option.some.injEq, Prod.mk.injEq] at h
    obtain ⟨rfl, rfl, rfl, rfl⟩ := h
    obtain rfl := den_sliceNil hs
    have m1 := hm _ List.mem_cons_self
    have m2 := hm _ (List.mem_cons_of_mem _ List.mem_cons_self)
    simp only [BT.den, IT.den, intCmp, Option.some.injEq, decide_eq_true_eq] at m1 m2
    have hbig : Builtin.nextslicecap (0 + (tx.den ρ).size) 0 * ei.bytes ≤ 2 ^ 48 := by
      have := nsc_le (0 + (tx.den ρ).size) 0 (by omega)
      rw [c4]; omega
    obtain ⟨cap, hcap, hrun⟩ := append_grow_run (ty := ty) (base := none) (sLen := 0) (sCap := 0) (old := []) ht0 hu hei hz1 hni hys2 hys3' (fun _ _ => rfl) (by omega) hbig hb0
    obtain ⟨hle, hv, hr'⟩ := newBts (e := e) (v := tx) (lenT := .slen tx) (cap := cap) hr.drew rfl (by omega) hzlen
    refine ⟨_, _, _, hle, ?_, hv, hr'⟩
    rw [hrun]
    simp only [Nat.zero_add, List.nil_append, newRow, Sem.run_bind, run_newObj, Result.andThen_ok, Sem.run_pure]
  · rename_i l len j
    split at h
    rotate_left
    · cases h
    rename_i t ks e' an i hg
    split at h
    rotate_left
    · cases h
    rename_i ut hut
    cases hq : (Nat.beq i j && IT.beq len an && decide (ks = [.u8]) && decide (e = e')) with
    | false => rw [hq] at h; cases h
    | true =>
    rw [hq] at h; simp only [cond_true, Option.some.injEq, Prod.mk.injEq] at h
    obtain ⟨rfl, rfl, rfl, rfl⟩ := h
    simp only [Bool.and_eq_true, decide_eq_true_eq] at hq
    obtain ⟨⟨⟨q1, q2⟩, rfl⟩, rfl⟩ := hq
    have q1 := Nat.eq_of_beq_eq_true q1
    have q2 := IT.beq_eq q2
    subst q1; subst q2
    obtain ⟨b, o', m, c', rfl, hN, hoff, hlen, hcap⟩ := den_slice hs
    obtain rfl : o' = 0 := by have := Option.some.inj hoff; exact (Int.ofNat.inj this).symm
    obtain ⟨b', ob, hb', hob, xs, c0, fr, el, m', st, rfl, hel, hd, hst, ⟨hstc, hp⟩, hn', hty, hroom, hf⟩ := hr.blk l _ hg
    rw [hN] at hb'; cases hb'
    obtain rfl : st = 0 := by have := Option.some.inj hst; exact (Int.ofNat.inj this).symm
    have hel := (hel rfl).symm
    subst hel
    have hmm : m' = m := by have := hn'.symm.trans hlen; exact Int.ofNat.inj (Option.some.inj this)
    subst hmm
    obtain ⟨N0, hN0, hroom⟩ := hroom
    rw [Nat.sub_zero] at hroom
    rw [List.drop_zero] at hp
    have hc' : c' = N0 := by
      have := hN0.symm.trans hcap; exact (Int.ofNat.inj (Option.some.inj this)).symm
    subst hc'
    have m1 := hm _ List.mem_cons_self
    have m2 := hm _ (List.mem_cons_of_mem _ List.mem_cons_self)
    simp only [BT.den, IT.den, hlen, intCmp, Option.some.injEq, decide_eq_true_eq, Int.ofNat_eq_natCast] at m1 m2
    have hxs : xs = bytesV (ut.den ρ) := strT_ok hut hd
    have hul : (ut.den ρ).size = m' := by
      have := hty.1; rw [hxs, bytesV_length] at this; simpa using this
    have hcat : bytesV ((ST.cat ut tx).den ρ) = xs ++ bytesV (tx.den ρ) := by
      rw [hxs]; simp [bytesV, ST.den]
    have hcl0 : ((ST.cat ut tx).den ρ).size = m' + (tx.den ρ).size := by simp [ST.den, hul]
    have hlenT : (IT.bin .add .i64 len (.slen tx)).den ρ = some (((ST.cat ut tx).den ρ).size : Int) := by rw [hcl0]; exact adds_den hlen rfl (by omega) (by omega)
    have hxl : xs.length = m' := by have := hty.1; simpa using this
    have hxc : xs.length ≤ c0.size := by simpa using hp.length_le
    simp at hroom
    have hsame : ∀ w', w'.heap = w.heap → (Builtin.firstCells ei.size m' (.slice (some ⟨b, 0, none⟩) m' c')).run P w' = .ok xs.toArray w' := by
      intro w' hw'
      have hg' : w'.heap[b]? = some (.cells c0 e fr) := by rw [hw']; exact hob
      have := loadCells_run (P := P) (o := 0) (n := m' * ei.size) hg' (by rw [c3]; omega)
      have he : (c0.toList.drop 0).take (m' * ei.size) = xs := by
        obtain ⟨r, hr'⟩ := hp
        rw [← hr', List.drop_zero, List.take_append, List.take_of_length_le (by rw [c3]; omega)]
        have : m' * ei.size - xs.length = 0 := by rw [c3]; omega
        rw [this]; simp
      rw [he] at this; exact this
    by_cases hfit : m' + (tx.den ρ).size ≤ c'
    · have hone : ∀ v ∈ bytesV (tx.den ρ), isOne v = true := by
        intro v hv
        simp only [bytesV, List.mem_map] at hv
        obtain ⟨q, _, rfl⟩ := hv; rfl
      obtain ⟨w', c1', hrun, hheap, hcl, htp, hos, hout⟩ := storeCells_run (P := P) (bytesV (tx.den ρ)) 0 (m' * ei.size) w c0 (hf rfl) hob (by rw [bytesV_length, c3]; omega) hone
      rw [c3, Nat.mul_one] at hrun hcl
      have hr1 := hr.num c'
      have hle1 : ρ.Le (ρ.put nl c') := Env.le_put (hr.fresh nl (Nat.le_refl _))
      have hsz : c1'.size = c0.size := by
        have := congrArg List.length hcl
        simp [bytesV_length] at this
        omega
      have hrel : (ABlk.arr (.bts (.cat ut tx)) [.u8] e (.bin .add .i64 len (.slen tx)) (.lit 0) (some (.nv nl))).rel (ρ.put nl c') true (.cells c1' e fr) := by
        refine ⟨bytesV ((ST.cat ut tx).den ρ), c1', fr, e, _, 0, rfl, fun _ => rfl, ?_, rfl, ⟨Nat.zero_le _, ?_⟩, IT.den_mono hle1 hlenT, bts_typed _, ⟨c', by simp only [IT.den, Env.put_same]; rfl, by rw [Nat.sub_zero, hsz, hroom]; simp⟩, fun _ => by rw [hsz]; exact hf rfl⟩
        · simp only [AT.den, ST.den_mono hle1]; rfl
        · rw [List.drop_zero, hcl, hcat]
          obtain ⟨r, hr'⟩ := hp
          have e1 : List.take (m' + 0) c0.toList = xs := by rw [← hr', List.take_append]; have : m' + 0 - xs.length = 0 := by omega
                                                            rw [this, List.take_of_length_le (by omega)]; simp
          rw [e1]
          exact ⟨_, rfl⟩
      have hr2 := hr1.moveW (k' := ⟨.arr (.bts (.cat ut tx)) [.u8] e (.bin .add .i64 len (.slen tx)) (.lit 0) (some (.nv nl)), true⟩) hg rfl (hle1.n _ _ hN) hrel hheap htp hos hout
      have hle2 : (ρ.put nl c').Le ((ρ.put nl c').put (nl + 1) b) := Env.le_put (hr1.fresh _ (Nat.le_refl _))
      refine ⟨(ρ.put nl c').put (nl + 1) b, w', .slice (some ⟨b, 0, none⟩) (m' + (tx.den ρ).size) c', hle1.trans hle2, ?_, ?_, hr2⟩
      · exact append_fits_run ht0 hu hei hni hys2 hys3' hfit (fun a ha => by cases ha; rw [addr_add, Nat.zero_add, c3, Nat.mul_one]; exact hrun) (fun e => by cases e)
      · have e0 : natOf ((IT.lit 0).den ((ρ.put nl c').put (nl + 1) b)) = some 0 := rfl
        have e1 : natOf ((IT.bin .add .i64 len (.slen tx)).den ((ρ.put nl c').put (nl + 1) b)) = some (m' + (tx.den ρ).size) := by rw [IT.den_mono (hle1.trans hle2) hlenT, hcl0]; rfl
        have e2 : natOf ((IT.nv nl).den ((ρ.put nl c').put (nl + 1) b)) = some c' := by
          have : ((ρ.put nl c').put (nl + 1) b).N nl = some c' := hle2.n _ _ (Env.put_same ..)
          simp [IT.den, this, natOf]
        simp only [AVal.den, Env.put_same, e0, e1, e2]
    · have hbig : Builtin.nextslicecap (m' + (tx.den ρ).size) c' * ei.bytes ≤ 2 ^ 48 := by
        have := nsc_le (m' + (tx.den ρ).size) c' (by omega)
        rw [c4]; omega
      obtain ⟨cap, hcap2, hrun⟩ := append_grow_run (ty := ty) (base := some ⟨b, 0, none⟩) ht0 hu hei hz1 hni hys2 hys3' hsame hfit hbig hb0
      obtain ⟨hle, hv, hr'⟩ := newBts (e := e) (v := .cat ut tx) (lenT := .bin .add .i64 len (.slen tx)) (cap := cap) (hr.del l).drew hlenT (by rw [hcl0]; exact hcap2) hzlen
      refine ⟨_, _, _, hle, ?_, hv, hr'⟩
      rw [hrun, ← hcat, hcl0]
      simp only [newRow, Sem.run_bind, run_newObj, Result.andThen_ok, Sem.run_pure]
  · cases h

-- TEXTS BEHIND TEXTS
def aAppendT (P : Program) (tys : Array TypeId) (s x : AVal) (H : Heap) (nl : Nat) : Option (AVal × Heap × Nat × List BT) :=
  match tys.toList with
  | sT :: rest => match P.underlying sT with
    | some (.slice e) => match P.info? e, zeroA P e with
      | some ei, some z => match z.cells?, srcCells ei.size x H with
        | some zc, some (cs, n) => cond (noInt P rest.head? && Nat.beq zc.length 1 && Nat.beq ei.size 1 && Nat.blt 0 ei.bytes && (Nat.blt 0 n && Nat.ble n 4)) (match s with
          | .slice l (.lit (.ofNat 0)) len (.nv j) => match H.get l with
            | some ⟨.srow c e' an (some (.nv i)), true⟩ => match appS c cs with
              | some c' => cond (Nat.beq i j && IT.beq len an && decide (e = e') && Nat.ble ei.bytes 1000 && cs.all AVal.one)
                (some (.slice (nl + 1) (.lit 0) (.bin .add .i64 len (.lit (.ofNat n))) (.nv nl), (H.del l).set (nl + 1) ⟨.srow c' e (.bin .add .i64 len (.lit (.ofNat n))) (some (.nv nl)), true⟩, nl + 2, [.cmp .leq len (.lit 1000000)])) none
              | none => none
            | _ => none
          | _ => none) none
        | _, _ => none
      | _, _ => none
    | _ => none
  | _ => none
theorem strsOf_length (x : Int) : (strsOf x).length = (decL x).length := by simp [strsOf]
theorem aAppendT_ok {tys : Array TypeId} {ty : TypeId} {s x u : AVal} {sv xv : Value} {H' : Heap} {nl' : Nat} {mu : List BT} (h : aAppendT P tys s x H nl = some (u, H', nl', mu)) (hm : ∀ c ∈ mu, c.den ρ = some true) (hs : s.den ρ = some sv) (hx : x.den ρ = some xv) (hr : HRel β ρ H nl w) :
    VOk P β ρ w (Builtin.append_ tys ty #[sv, xv]) u H' nl' := by
  unfold aAppendT at h
  split at h
  rotate_left
  · cases h
  rename_i sT rest htys
  split at h
  rotate_left
  · cases h
  rename_i e hu
  split at h
  rotate_left
  · cases h
  rename_i ei z hei hz
  split at h
  rotate_left
  · cases h
  rename_i zc cs n hzc hsrc
  cases hcond : (noInt P rest.head? && Nat.beq zc.length 1 && Nat.beq ei.size 1 && Nat.blt 0 ei.bytes && (Nat.blt 0 n && Nat.ble n 4)) with
  | false => rw [hcond] at h; cases h
  | true =>
  rw [hcond] at h; simp only [cond_true] at h
  simp only [Bool.and_eq_true] at hcond
  obtain ⟨⟨⟨⟨c1, c2⟩, c3⟩, c4⟩, c5⟩ := hcond
  have hn1 : 0 < n := by rw [← Nat.blt_eq]; exact c5.1
  have hn4 : n ≤ 4 := Nat.le_of_ble_eq_true c5.2
  have c2 := Nat.eq_of_beq_eq_true c2
  have c3 := Nat.eq_of_beq_eq_true c3
  have hb0 : ei.bytes ≠ 0 := by have : 0 < ei.bytes := by rw [← Nat.blt_eq]; exact c4
                                omega
  obtain ⟨zv, hz1, hz2⟩ := zeroA_ok hz
  have hzcs := AVal.cells?_den hzc (hz2 ρ)
  have hzlen : zv.cells.size = 1 := by have := AVal.denL_length hzcs; simp at this; omega
  have ht0 : tys[0]? = some sT := by rw [← Array.getElem?_toList, htys]; rfl
  have ht1 : tys[1]? = rest.head? := by rw [← Array.getElem?_toList, htys]; cases rest <;> rfl
  have hni : ∀ xt, tys[1]? = some xt → ∃ d, P.underlying xt = some d ∧ ∀ k, d ≠ .int k := by rw [ht1]; exact noInt_ok c1
  obtain ⟨ys, hys1, hys2, hys3, hys4⟩ := srcCells_ok (P := P) hsrc hx hr
  have hylen := AVal.denL_length hys1
  split at h
  rotate_left
  · cases h
  rename_i l len j
  split at h
  rotate_left
  · cases h
  rename_i ct e' an i hg
  split at h
  rotate_left
  · cases h
  rename_i ct' hct
  cases hq : (Nat.beq i j && IT.beq len an && decide (e = e') && Nat.ble ei.bytes 1000 && cs.all AVal.one) with
  | false => rw [hq] at h; cases h
  | true =>
  rw [hq] at h; simp only [cond_true, Option.some.injEq, Prod.mk.injEq] at h
  obtain ⟨rfl, rfl, rfl, rfl⟩ := h
  simp only [Bool.and_eq_true, decide_eq_true_eq] at hq
  obtain ⟨⟨⟨⟨q1, q2⟩, qe⟩, q4⟩, q5⟩ := hq
  subst qe
  have q1 := Nat.eq_of_beq_eq_true q1
  have q2 := IT.beq_eq q2
  have q4 := Nat.le_of_ble_eq_true q4
  subst q1; subst q2
  obtain ⟨b, o', m, c', rfl, hN, hoff, hlen, hcap⟩ := den_slice hs
  obtain rfl : o' = 0 := by have := Option.some.inj hoff; exact (Int.ofNat.inj this).symm
  obtain ⟨b', ob, hb', hob, x0, c0, fr, el, rfl, hel, hd, hp, hn', hroom, hf⟩ := hr.blk l _ hg
  rw [hN] at hb'; cases hb'
  have hel := (hel rfl).symm
  subst hel
  have hmm : (decL x0).length = m := by have := hn'.symm.trans hlen; exact Int.ofNat.inj (Option.some.inj this)
  obtain ⟨N0, hN0, hroom⟩ := hroom
  have hc' : c' = N0 := by
    have := hN0.symm.trans hcap; exact (Int.ofNat.inj (Option.some.inj this)).symm
  subst hc'
  rw [Nat.mul_one] at hroom
  have hm6 : m ≤ 1000000 := by
    have := hm _ List.mem_cons_self
    simp only [BT.den, hlen, IT.den, intCmp, Option.some.injEq, decide_eq_true_eq, Int.ofNat_eq_natCast] at this
    omega
  obtain ⟨y0, hy0, hye, hyl⟩ := appS_ok hct hd hys1
  have hxl : (strsOf x0).length = m := by rw [strsOf_length, hmm]
  have hyl1 : ys.length = n := by rw [hylen, hys4, c3, Nat.mul_one]
  have hyl2 : (decL y0).length = m + n := by rw [hyl, hmm, hyl1]
  have hxc : (strsOf x0).length ≤ c0.size := by simpa using hp.length_le
  have hsame : ∀ w', w'.heap = w.heap → (Builtin.firstCells ei.size m (.slice (some ⟨b, 0, none⟩) m c')).run P w' = .ok (strsOf x0).toArray w' := by
    intro w' hw'
    have hg' : w'.heap[b]? = some (.cells c0 e fr) := by rw [hw']; exact hob
    have := loadCells_run (P := P) (o := 0) (n := m * ei.size) hg' (by rw [c3]; omega)
    have he : (c0.toList.drop 0).take (m * ei.size) = strsOf x0 := by
      obtain ⟨r, hr'⟩ := hp
      rw [← hr', List.drop_zero, List.take_append, List.take_of_length_le (by rw [c3]; omega)]
      have : m * ei.size - (strsOf x0).length = 0 := by rw [c3]; omega
      rw [this]; simp
    rw [he] at this; exact this
  have hlen1 : ∀ ρ' : Env, ρ.Le ρ' → (IT.bin .add .i64 len (.lit (.ofNat n))).den ρ' = some ((m + n : Nat) : Int) := fun ρ' hle => addn_den (IT.den_mono hle hlen) hm6 hn4
  have denS : ∀ {ρ' : Env} {bb cap : Nat}, ρ.Le ρ' → ρ'.N (nl + 1) = some bb → ρ'.N nl = some cap → (AVal.slice (nl + 1) (.lit 0) (.bin .add .i64 len (.lit (.ofNat n))) (.nv nl)).den ρ' = some (.slice (some ⟨bb, 0, none⟩) (m + n) cap) := by
    intro ρ' bb cap hle h1 h2
    have e0 : natOf ((IT.lit 0).den ρ') = some 0 := rfl
    have e1 : natOf ((IT.bin .add .i64 len (.lit (.ofNat n))).den ρ') = some (m + n) := by rw [hlen1 _ hle]; rfl
    have e2 : natOf ((IT.nv nl).den ρ') = some cap := by simp [IT.den, h2, natOf]
    simp only [AVal.den, h1, e0, e1, e2]
  by_cases hfit : m + n ≤ c'
  · obtain ⟨w', c1', hrun, hheap, hcl, htp, hos, hout⟩ := storeCells_run (P := P) ys 0 (m * ei.size) w c0 (hf rfl) hob (by rw [c3]; omega) (ones_den q5 hys1)
    rw [c3, Nat.mul_one] at hrun hcl
    have hr1 := hr.num c'
    have hle1 : ρ.Le (ρ.put nl c') := Env.le_put (hr.fresh nl (Nat.le_refl _))
    have hsz : c1'.size = c0.size := by
      have := congrArg List.length hcl
      simp at this
      omega
    have hrel : (ABlk.srow ct' e (.bin .add .i64 len (.lit (.ofNat n))) (some (.nv nl))).rel (ρ.put nl c') true (.cells c1' e fr) := by
      refine ⟨y0, c1', fr, e, rfl, fun _ => rfl, IT.den_mono hle1 hy0, ?_, by rw [hyl2]; exact hlen1 _ hle1, ⟨c', by simp only [IT.den, Env.put_same]; rfl, by rw [hsz, hroom, Nat.mul_one]⟩, fun _ => by rw [hsz]; exact hf rfl⟩
      rw [hcl, hye]
      obtain ⟨r, hr'⟩ := hp
      have e1 : List.take (m + 0) c0.toList = strsOf x0 := by rw [← hr', List.take_append]; have : m + 0 - (strsOf x0).length = 0 := by omega
                                                              rw [this, List.take_of_length_le (by omega)]; simp
      rw [e1]
      exact ⟨_, rfl⟩
    have hr2 := hr1.moveW (k' := ⟨.srow ct' e (.bin .add .i64 len (.lit (.ofNat n))) (some (.nv nl)), true⟩) hg rfl (hle1.n _ _ hN) hrel hheap htp hos hout
    have hle2 : (ρ.put nl c').Le ((ρ.put nl c').put (nl + 1) b) := Env.le_put (hr1.fresh _ (Nat.le_refl _))
    refine ⟨(ρ.put nl c').put (nl + 1) b, w', .slice (some ⟨b, 0, none⟩) (m + n) c', hle1.trans hle2, ?_, denS (hle1.trans hle2) (Env.put_same ..) (hle2.n _ _ (Env.put_same ..)), hr2⟩
    exact append_fits_run ht0 hu hei hni hys2 hys3 hfit (fun a ha => by cases ha; rw [addr_add, Nat.zero_add, c3, Nat.mul_one]; exact hrun) (fun e => by cases e)
  · have hbig : Builtin.nextslicecap (m + n) c' * ei.bytes ≤ 2 ^ 48 := by
      have := nsc_le (m + n) c' (by omega)
      exact Nat.le_trans (Nat.mul_le_mul this q4) (Nat.le_trans (Nat.mul_le_mul_right 1000 (show 2 * (m + n) + 1000 ≤ 2001008 by omega)) (by decide))
    obtain ⟨cap, hcap2, hrun⟩ := append_grow_run (ty := ty) (base := some ⟨b, 0, none⟩) ht0 hu hei hz1 hni hys2 hys3 hsame hfit hbig hb0
    have hr0 := (hr.del l).drew
    have h1 := hr0.num cap
    have hle1 : ρ.Le (ρ.put nl cap) := Env.le_put (hr.fresh nl (Nat.le_refl _))
    let c : Array Value := (strsOf x0 ++ ys).toArray ++ (Builtin.zeroCells zv.cells (cap - (m + n)))
    have hcs : c.size = cap := by
      simp only [c, Array.size_append, List.size_toArray, Builtin.zeroCells, Array.size_map, Array.size_range, List.length_append, hxl, hyl1, hzlen]; omega
    have hrel : (ABlk.srow ct' e (.bin .add .i64 len (.lit (.ofNat n))) (some (.nv nl))).rel (ρ.put nl cap) true (.cells c e (0, 0)) := by
      refine ⟨y0, c, (0, 0), e, rfl, fun _ => rfl, IT.den_mono hle1 hy0, ?_, by rw [hyl2]; exact hlen1 _ hle1, ⟨cap, by simp only [IT.den, Env.put_same]; rfl, by rw [hcs, Nat.mul_one]⟩, fun _ => .inl (Nat.le_refl _)⟩
      rw [hye]
      exact ⟨(Builtin.zeroCells zv.cells (cap - (m + n))).toList, by simp [c]⟩
    have h2 := h1.new _ _ true hrel
    have hle2 : (ρ.put nl cap).Le ((ρ.put nl cap).put (nl + 1) w.heap.size) := Env.le_put (h1.fresh _ (Nat.le_refl _))
    refine ⟨_, _, .slice (some ⟨w.heap.size, 0, none⟩) (m + n) cap, hle1.trans hle2, ?_, denS (hle1.trans hle2) (Env.put_same ..) (hle2.n _ _ (Env.put_same ..)), h2⟩
    rw [hrun]
    simp only [newRow, Sem.run_bind, run_newObj, Result.andThen_ok, Sem.run_pure]
    rfl

/-- A row is taken for what it begins with. -/
def narrow (s : AVal) (H : Heap) : Option (Heap × BT) :=
  match s with
  | .slice l (.lit (.ofNat 0)) len (.nv _) => match H.get l with
    | some ⟨.arr t [k] e an (.lit (.ofNat 0)) cp, true⟩ => match t.codeT with
      | some c => some (H.set l ⟨.arr (.code [k] (.un 10 c len)) [k] e len (.lit 0) cp, true⟩, .cmp .leq len an)
      | none => none
    | _ => none
  | _ => none
theorem rowOf_take (ks : List IntKind) (l : List Int) (k : Nat) : rowOf ks (l.take k) = (rowOf ks l).take k := by
  apply List.ext_getElem?
  intro i
  rw [rowOf_get, List.getElem?_take, List.getElem?_take, rowOf_get]
  split <;> rfl
theorem HRel.weak (h : HRel β ρ H nl w) {l : Nat} {k : HB} {k' : ABlk} (hl : H.get l = some k) (hrw : k.rw = true) (hk : ∀ o, k.k.rel ρ true o → k'.rel ρ true o) (hnb : k'.nb = true := by rfl) : HRel β ρ (H.set l ⟨k', true⟩) nl w := by
  obtain ⟨b, o, hb, ho, hk0⟩ := h.blk l k hl
  rw [hrw] at hk0
  refine h.write (k' := ⟨k', true⟩) hl hrw hb (w' := w) (o' := o) (hk o hk0) ?_ rfl rfl rfl hnb
  apply Array.ext_getElem?
  intro i
  rw [Array.getElem?_setIfInBounds]
  by_cases hi : b = i
  · subst hi
    have hlt := (Array.getElem?_eq_some_iff.1 ho).1
    simp [hlt, (Array.getElem?_eq_some_iff.1 ho).2]
  · simp [hi]
theorem narrow_ok {s : AVal} {sv : Value} {H1 : Heap} {b : BT} (h : narrow s H = some (H1, b)) (hb : b.den ρ = some true) (hs : s.den ρ = some sv) (hr : HRel β ρ H nl w) : HRel β ρ H1 nl w := by
  unfold narrow at h
  split at h
  · rename_i l len j
    split at h
    · rename_i t k e an cp hl
      split at h
      · rename_i c hc
        simp only [Option.some.injEq, Prod.mk.injEq] at h
        obtain ⟨rfl, rfl⟩ := h
        obtain ⟨bb, o, n, cap, rfl, _, _, hlen, _⟩ := den_slice hs
        refine hr.weak hl rfl fun ob hob => ?_
        obtain ⟨xs, c1, fr, el, m, b0, ho, hel, hd, hoff, ⟨hp1, hp2⟩, hn, hty, hroom, hf⟩ := hob
        simp only [BT.den, hlen, hn, intCmp, Option.some.injEq, decide_eq_true_eq] at hb
        have hnm : n ≤ m := by
          have : Int.ofNat n ≤ (m : Int) := hb
          have e9 : Int.ofNat n = (n : Int) := rfl
          omega
        obtain ⟨y, hy, hdy⟩ := codeT_ok hc hd
        have hxl : xs.length = m := by rw [hty.1]; simp
        have hrow : rowOf [k] (xs.map toZ) = xs := hty.rowOf.symm
        have hden : (AT.code [k] (.un 10 c len)).den ρ = some (xs.take n) := by
          have e10 : (IT.un 10 c len).den ρ = some (encL ((xs.map toZ).take n)) := by
            simp only [IT.den, hy, hlen, univ, hdy]
            rfl
          simp only [AT.den, e10, Option.map_some, decL_encL, rowOf_take, hrow]
        refine ⟨xs.take n, c1, fr, el, n, b0, ho, hel, hden, hoff, ⟨hp1, (List.take_prefix n xs).trans hp2⟩, hlen, ?_, hroom, hf⟩
        rw [← hrow, ← rowOf_take]
        exact rowOf_typed (by simp; omega)
      · cases h
    · cases h
  · cases h
def aAppendE0 (P : Program) (tys : Array TypeId) (s x : AVal) (H : Heap) (nl : Nat) : Option (AVal × Heap × Nat × List BT) :=
  match aAppendV P tys s x H nl with
  | some p => some p
  | none => match aAppendT P tys s x H nl with
    | some p => some p
    | none => aAppendS P tys s x H nl
theorem aAppendE0_ok {tys : Array TypeId} {ty : TypeId} {s x u : AVal} {sv xv : Value} {H' : Heap} {nl' : Nat} {mu : List BT} (h : aAppendE0 P tys s x H nl = some (u, H', nl', mu)) (hm : ∀ c ∈ mu, c.den ρ = some true) (hs : s.den ρ = some sv) (hx : x.den ρ = some xv) (hr : HRel β ρ H nl w) :
    VOk P β ρ w (Builtin.append_ tys ty #[sv, xv]) u H' nl' := by
  unfold aAppendE0 at h
  split at h
  · rename_i p hp
    cases h
    exact aAppendV_ok hp hm hs hx hr
  · split at h
    · rename_i p hp
      cases h
      exact aAppendT_ok hp hm hs hx hr
    · exact aAppendS_ok h hm hs hx hr

/-- A whole row behind nothing: a copy of it. -/
def aAppendR (P : Program) (tys : Array TypeId) (s x : AVal) (H : Heap) (nl : Nat) : Option (AVal × Heap × Nat × List BT) :=
  match tys.toList with
  | sT :: rest => match P.underlying sT with
    | some (.slice e) => match P.info? e, zeroA P e with
      | some ei, some z => match z.cells? with
        | some zc => match s, x with
          | .slice _ _ l0 c0, .slice l2 o2 n2 _ => match H.get l2 with
            | some ⟨.arr t ks _ an off _, _⟩ => cond (noInt P rest.head? && Nat.beq zc.length ei.size && Nat.blt 0 ei.size && Nat.blt 0 ei.bytes && Nat.ble ei.bytes 1000 && (isZ l0 && isZ c0) && IT.beq n2 an && IT.beq o2 off && Nat.beq ks.length ei.size)
              (some (.slice (nl + 1) (.lit 0) n2 (.nv nl), H.set (nl + 1) ⟨.arr t ks e n2 (.lit 0) (some (.nv nl)), true⟩, nl + 2, [.cmp .geq n2 (.lit 1), .cmp .leq n2 (.lit 1000000)])) none
            | _ => none
          | _, _ => none
        | none => none
      | _, _ => none
    | _ => none
  | _ => none
theorem aAppendR_ok {tys : Array TypeId} {ty : TypeId} {s x u : AVal} {sv xv : Value} {H' : Heap} {nl' : Nat} {mu : List BT} (h : aAppendR P tys s x H nl = some (u, H', nl', mu)) (hm : ∀ c ∈ mu, c.den ρ = some true) (hs : s.den ρ = some sv) (hx : x.den ρ = some xv) (hr : HRel β ρ H nl w) :
    VOk P β ρ w (Builtin.append_ tys ty #[sv, xv]) u H' nl' := by
  unfold aAppendR at h
  split at h
  rotate_left
  · cases h
  rename_i sT rest htys
  split at h
  rotate_left
  · cases h
  rename_i e hu
  split at h
  rotate_left
  · cases h
  rename_i ei z hei hz
  split at h
  rotate_left
  · cases h
  rename_i zc hzc
  split at h
  rotate_left
  · cases h
  rename_i l1 o1 l0 c0 l2 o2 n2 c2'
  split at h
  rotate_left
  · cases h
  rename_i t ks el0 an off cp0 rw0 hg
  cases hq : (noInt P rest.head? && Nat.beq zc.length ei.size && Nat.blt 0 ei.size && Nat.blt 0 ei.bytes && Nat.ble ei.bytes 1000 && (isZ l0 && isZ c0) && IT.beq n2 an && IT.beq o2 off && Nat.beq ks.length ei.size) with
  | false => rw [hq] at h; cases h
  | true =>
  rw [hq] at h; simp only [cond_true, Option.some.injEq, Prod.mk.injEq] at h
  obtain ⟨rfl, rfl, rfl, rfl⟩ := h
  simp only [Bool.and_eq_true] at hq
  obtain ⟨⟨⟨⟨⟨⟨⟨⟨c1, c2⟩, c3⟩, c4⟩, q4⟩, z1, z2⟩, q5⟩, q6⟩, q3⟩ := hq
  have hsz0 : 0 < ei.size := by rw [← Nat.blt_eq]; exact c3
  have hb0 : ei.bytes ≠ 0 := by have : 0 < ei.bytes := by rw [← Nat.blt_eq]; exact c4
                                omega
  have q4 := Nat.le_of_ble_eq_true q4
  have q3 := Nat.eq_of_beq_eq_true q3
  obtain rfl := isZ_eq z1
  obtain rfl := isZ_eq z2
  obtain rfl := IT.beq_eq q5
  obtain rfl := IT.beq_eq q6
  have hzl := Nat.eq_of_beq_eq_true c2
  obtain ⟨zv, hz1, hz2⟩ := zeroA_ok hz
  have hzcs := AVal.cells?_den hzc (hz2 ρ)
  have hzlen : zv.cells.toList.length = ei.size := by rw [AVal.denL_length hzcs]; exact hzl
  have ht0 : tys[0]? = some sT := by rw [← Array.getElem?_toList, htys]; rfl
  have ht1 : tys[1]? = rest.head? := by rw [← Array.getElem?_toList, htys]; cases rest <;> rfl
  have hni : ∀ xt, tys[1]? = some xt → ∃ d, P.underlying xt = some d ∧ ∀ k, d ≠ .int k := by rw [ht1]; exact noInt_ok c1
  obtain ⟨b, o', m', c', rfl, hN, hoff, hlen, hcap⟩ := den_slice hs
  obtain rfl : m' = 0 := by have := Option.some.inj hlen; exact (Int.ofNat.inj this).symm
  obtain rfl : c' = 0 := by have := Option.some.inj hcap; exact (Int.ofNat.inj this).symm
  obtain ⟨b2, o2', m, cap2, rfl, hN2, hoff2, hlen2, _⟩ := den_slice hx
  obtain ⟨b2', ob, hb2', hob, xs, cc, fr, el, m1, st, rfl, _, hd, hst, ⟨h4, h5⟩, hn', hty, _, _⟩ := hr.blk l2 _ hg
  rw [hN2] at hb2'; cases hb2'
  have e1 : m1 = m := by have := hn'.symm.trans hlen2; exact Int.ofNat.inj (Option.some.inj this)
  have e2 : st = o2' := by have := hst.symm.trans hoff2; exact Int.ofNat.inj (Option.some.inj this)
  subst e1; subst e2
  have m1' := hm _ List.mem_cons_self
  have m2' := hm _ (List.mem_cons_of_mem _ List.mem_cons_self)
  simp only [BT.den, IT.den, hlen2, intCmp, Option.some.injEq, decide_eq_true_eq] at m1' m2'
  have hm1 : 1 ≤ m1 := by
    have : (1 : Int) ≤ (m1 : Int) := m1'
    omega
  have hm2 : m1 ≤ 1000000 := by
    have : (m1 : Int) ≤ 1000000 := m2'
    omega
  have hxl : xs.length = m1 * ei.size := by rw [hty.1, q3]
  have hxc : st + m1 * ei.size ≤ cc.size := by
    have h6 := h5.length_le
    rw [List.length_drop] at h6
    have h7 : cc.toList.length = cc.size := Array.length_toList
    have h8 : xs.length = m1 * ei.size := hxl
    generalize m1 * ei.size = q at h8 ⊢
    omega
  have hys2 : ∀ w, (Builtin.lenOf (.slice (some ⟨b2, st, none⟩) m1 cap2)).run P w = .ok m1 w := fun _ => rfl
  have hys3 : ∀ w', w'.heap = w.heap → (Builtin.firstCells ei.size m1 (.slice (some ⟨b2, st, none⟩) m1 cap2)).run P w' = .ok xs.toArray w' := fun w' hw' => by
    have hg' : w'.heap[b2]? = some (.cells cc el fr) := by rw [hw']; exact hob
    have := loadCells_run (P := P) hg' hxc
    have he : (cc.toList.drop st).take (m1 * ei.size) = xs := by
      obtain ⟨r, hr'⟩ := h5
      rw [← hr', ← hxl, List.take_left]
    rw [he] at this
    exact this
  have hold : ∀ w', w'.heap = w.heap → (Builtin.firstCells ei.size 0 (.slice (some ⟨b, o', none⟩) 0 0)).run P w' = .ok ([] : List Value).toArray w' := fun w' _ => by
    have h9 := run_loadCells_list (P := P) (w := w') (⟨b, o', none⟩ : Addr) [] (fun j v hj => by simp at hj)
    simpa [Builtin.firstCells] using h9
  have hbig : Builtin.nextslicecap (0 + m1) 0 * ei.bytes ≤ 2 ^ 48 := by
    have := nsc_le (0 + m1) 0 (by omega)
    exact Nat.le_trans (Nat.mul_le_mul this q4) (Nat.le_trans (Nat.mul_le_mul_right 1000 (show 2 * (0 + m1) + 1000 ≤ 2001008 by omega)) (by decide))
  obtain ⟨cap, hcap2, hrun⟩ := append_grow_run (ty := ty) (base := some ⟨b, o', none⟩) ht0 hu hei hz1 hni hys2 hys3 hold (by omega) hbig hb0
  have h1 := hr.drew.num cap
  have hle1 : ρ.Le (ρ.put nl cap) := Env.le_put (hr.fresh nl (Nat.le_refl _))
  let c : Array Value := ([] ++ xs).toArray ++ (Builtin.zeroCells zv.cells (cap - (0 + m1)))
  have hcs : c.size = cap * ei.size := by
    have hz' : zv.cells.size = ei.size := by simpa using hzlen
    simp only [c, Array.size_append, List.size_toArray, Builtin.zeroCells, Array.size_map, Array.size_range, List.length_append, hxl, hz', List.length_nil]
    rw [Nat.zero_add, ← Nat.add_mul]; congr 1; omega
  have hrel : (ABlk.arr t ks e n2 (.lit 0) (some (.nv nl))).rel (ρ.put nl cap) true (.cells c e (0, 0)) := by
    refine ⟨xs, c, (0, 0), e, m1, 0, rfl, fun _ => rfl, AT.den_mono hle1 hd, rfl, ⟨Nat.zero_le _, ?_⟩, IT.den_mono hle1 hlen2, hty, ⟨cap, by simp only [IT.den, Env.put_same]; rfl, by rw [Nat.sub_zero, hcs, q3]⟩, fun _ => .inl (Nat.le_refl _)⟩
    exact ⟨(Builtin.zeroCells zv.cells (cap - (0 + m1))).toList, by simp [c]⟩
  have h2 := h1.new _ _ true hrel
  have hle2 : (ρ.put nl cap).Le ((ρ.put nl cap).put (nl + 1) w.heap.size) := Env.le_put (h1.fresh _ (Nat.le_refl _))
  refine ⟨_, _, .slice (some ⟨w.heap.size, 0, none⟩) (0 + m1) cap, hle1.trans hle2, ?_, ?_, h2⟩
  · rw [hrun]
    show (do pure (.slice (some (← newRow e c)) (0 + m1) cap) : Sem Value).run P { w with drawn := w.drawn + 1 } = _
    simp [newRow]
    exact ⟨rfl, rfl, rfl⟩
  · have e0 : natOf ((IT.lit 0).den ((ρ.put nl cap).put (nl + 1) w.heap.size)) = some 0 := rfl
    have e1 : natOf (n2.den ((ρ.put nl cap).put (nl + 1) w.heap.size)) = some m1 := by rw [IT.den_mono (hle1.trans hle2) hlen2]; rfl
    have e2 : natOf ((IT.nv nl).den ((ρ.put nl cap).put (nl + 1) w.heap.size)) = some cap := by
      have : ((ρ.put nl cap).put (nl + 1) w.heap.size).N nl = some cap := hle2.n _ _ (Env.put_same ..)
      simp [IT.den, this, natOf]
    simp only [AVal.den, Env.put_same, e0, e1, e2, Nat.zero_add]

-- A ROW OF NUMBERS BEHIND A ROW
def pieceOf (c an off o2 n2 : IT) (cp : Option IT) : Option (IT × IT × List BT) :=
  match off, o2, n2, cp with
  | .lit (.ofNat 0), .elem (.lit (.ofNat 0)) 1 0 (.un 13 a cap), .un 14 h a', some cap' => cond (IT.beq a a' && IT.beq h an && IT.beq cap cap') (some (.un 11 c a, .un 14 h a', [.cmp .leq an (.lit 1000000), .cmp .geq a (.lit 0), .cmp .leq a an])) none
  | _, _, _, _ => none
theorem pieceOf_eq {c an off o2 n2 : IT} {cp : Option IT} {r : IT × IT × List BT} (h : pieceOf c an off o2 n2 cp = some r) :
    ∃ a cap, off = .lit (.ofNat 0) ∧ o2 = .elem (.lit (.ofNat 0)) 1 0 (.un 13 a cap) ∧ n2 = .un 14 an a ∧ cp = some cap ∧ r = (.un 11 c a, .un 14 an a, [.cmp .leq an (.lit 1000000), .cmp .geq a (.lit 0), .cmp .leq a an]) := by
  unfold pieceOf at h
  split at h
  · rename_i a cap h' a' cap'
    cases hq : (IT.beq a a' && IT.beq h' an && IT.beq cap cap') with
    | false => rw [hq] at h; cases h
    | true =>
      rw [hq] at h
      simp only [cond_true, Option.some.injEq] at h
      simp only [Bool.and_eq_true] at hq
      obtain ⟨⟨q1, q2⟩, q3⟩ := hq
      obtain rfl := IT.beq_eq q1
      obtain rfl := IT.beq_eq q2
      obtain rfl := IT.beq_eq q3
      exact ⟨a, cap, rfl, rfl, rfl, rfl, h.symm⟩
  · cases h
/-- What is read of a row: all of it, or what lies behind so many. -/
def srcRow (k : IntKind) (x : AVal) (H : Heap) : Option (IT × IT × List BT) :=
  match x with
  | .slice l2 o2 n2 _ => match H.get l2 with
    | some ⟨.arr t [k'] _ an off cp, _⟩ => match t.codeT with
      | some c => cond (decide (k = k')) (cond (IT.beq o2 off && IT.beq n2 an) (some (c, n2, [.cmp .leq n2 (.lit 1000000)]))
          (pieceOf c an off o2 n2 cp)) none
      | none => none
    | _ => none
  | _ => none
theorem srcRow_ok {k : IntKind} {x : AVal} {xv : Value} {c len : IT} {mu : List BT} (h : srcRow k x H = some (c, len, mu)) (hm : ∀ b ∈ mu, b.den ρ = some true) (hx : x.den ρ = some xv) (hr : HRel β ρ H nl w) :
    ∃ (y : Int) (n : Nat), c.den ρ = some y ∧ len.den ρ = some (n : Int) ∧ (decL y).length = n ∧ n ≤ 1000000 ∧ (∀ w, (Builtin.lenOf xv).run P w = .ok n w) ∧ ∀ w', w'.heap = w.heap → (Builtin.firstCells 1 n xv).run P w' = .ok (rowOf [k] (decL y)).toArray w' := by
  unfold srcRow at h
  split at h
  rotate_left
  · cases h
  rename_i l2 o2 n2 cap2
  split at h
  rotate_left
  · cases h
  rename_i t k' el an off cp rw hg
  split at h
  rotate_left
  · cases h
  rename_i ct hct
  cases hk : decide (k = k') with
  | false => rw [hk] at h; cases h
  | true =>
  rw [hk] at h
  simp only [cond_true] at h
  obtain rfl := of_decide_eq_true hk
  obtain ⟨b, o, n, q, rfl, hN, hoff, hlen, hcap⟩ := den_slice hx
  obtain ⟨b', ob, hb', hob, xs, c0, fr, el', m, st, rfl, _, hd, hst, ⟨hstc, hp⟩, hn', hty, hroom, _⟩ := hr.blk l2 _ hg
  rw [hN] at hb'; cases hb'
  obtain ⟨y, hy, hdy⟩ := codeT_ok hct hd
  have hrow : rowOf [k] (decL y) = xs := by rw [hdy]; exact hty.rowOf.symm
  have hxl : xs.length = m := by rw [hty.1]; simp
  have hyl : (decL y).length = m := by rw [hdy, List.length_map, hxl]
  have hpl := hp.length_le
  rw [List.length_drop, hxl] at hpl
  have hc0 : c0.toList.length = c0.size := Array.length_toList
  have lenO : ∀ w, (Builtin.lenOf (.slice (some ⟨b, o, none⟩) n q)).run P w = .ok n w := fun _ => rfl
  have rd : ∀ w', w'.heap = w.heap → o + n ≤ c0.size → (Builtin.firstCells 1 n (.slice (some ⟨b, o, none⟩) n q)).run P w' = .ok ((c0.toList.drop o).take n).toArray w' := fun w' hw' hle => by
    have hg' : w'.heap[b]? = some (.cells c0 el' fr) := by rw [hw']; exact hob
    have := loadCells_run (P := P) (o := o) (n := n * 1) hg' (by omega)
    rw [Nat.mul_one] at this
    simpa [Builtin.firstCells] using this
  cases hq : (IT.beq o2 off && IT.beq n2 an) with
  | true =>
    rw [hq] at h
    simp only [cond_true, Option.some.injEq, Prod.mk.injEq] at h
    obtain ⟨rfl, rfl, rfl⟩ := h
    simp only [Bool.and_eq_true] at hq
    obtain rfl := IT.beq_eq hq.1
    obtain rfl := IT.beq_eq hq.2
    have e1 : m = n := by have := hn'.symm.trans hlen; exact Int.ofNat.inj (Option.some.inj this)
    have e2 : st = o := by have := hst.symm.trans hoff; exact Int.ofNat.inj (Option.some.inj this)
    subst e1; subst e2
    have hm6 := hm _ List.mem_cons_self
    simp only [BT.den, IT.den, hn', intCmp, Option.some.injEq, decide_eq_true_eq] at hm6
    refine ⟨y, m, hy, hn', hyl, by omega, lenO, fun w' hw' => ?_⟩
    rw [rd w' hw' (by omega), hrow]
    obtain ⟨r, hr'⟩ := hp
    rw [← hr', ← hxl, List.take_left]
  | false =>
    rw [hq] at h
    simp only [cond_false] at h
    obtain ⟨a, cap, rfl, rfl, rfl, rfl, he⟩ := pieceOf_eq h
    cases he
    obtain rfl : st = 0 := by have := Option.some.inj hst; exact (Int.ofNat.inj this).symm
    obtain ⟨N0, hN0, hsz⟩ := hroom
    have hsz : c0.size - 0 = N0 * 1 := hsz
    have m1 := hm _ List.mem_cons_self
    have m2 := hm _ (List.mem_cons_of_mem _ List.mem_cons_self)
    have m3 := hm _ (List.mem_cons_of_mem _ (List.mem_cons_of_mem _ List.mem_cons_self))
    cases ha : a.den ρ with
    | none => simp only [BT.den, ha] at m2; cases m2
    | some z =>
    simp only [BT.den, IT.den, ha, hn', intCmp, Option.some.injEq, decide_eq_true_eq] at m1 m2 m3
    have e3 : n = m - z.toNat := by
      have := hlen
      simp only [IT.den, hn', ha, univ] at this
      rw [if_pos m3] at this
      have := Option.some.inj this
      have e9 : Int.ofNat n = (n : Int) := rfl
      omega
    have e4 : o = if z = (N0 : Int) then 0 else z.toNat := by
      have := hoff
      simp only [IT.den, ha, hN0, univ] at this
      have := Int.ofNat.inj (Option.some.inj this)
      rw [← this]
      split <;> simp
    have hcode : (IT.un 11 ct a).den ρ = some (encL ((decL y).drop z.toNat)) := by simp only [IT.den, hy, ha, univ]
    refine ⟨_, n, hcode, hlen, by rw [decL_encL, List.length_drop, hyl, e3], by omega, lenO, fun w' hw' => ?_⟩
    rw [decL_encL]
    have hrd : rowOf [k] ((decL y).drop z.toNat) = xs.drop z.toNat := by
      rw [← hrow]
      apply List.ext_getElem?
      intro i
      rw [rowOf_get, List.getElem?_drop, List.getElem?_drop, rowOf_get]
      simp [Nat.mod_one]
    rw [hrd]
    rw [List.drop_zero] at hp
    obtain ⟨r, hr'⟩ := hp
    by_cases hz : z = (N0 : Int)
    · rw [if_pos hz] at e4
      have e5 : n = 0 := by omega
      rw [rd w' hw' (by omega), e5, List.take_zero, List.drop_eq_nil_of_le (by omega)]
    · rw [if_neg hz] at e4
      rw [rd w' hw' (by omega), e4, ← hr', List.drop_append_of_le_length (by omega), e3]
      have e6 : (xs.drop z.toNat).length = m - z.toNat := by rw [List.length_drop, hxl]
      rw [← e6, List.take_left]
def aAppendW (P : Program) (tys : Array TypeId) (s x : AVal) (H : Heap) (nl : Nat) : Option (AVal × Heap × Nat × List BT) :=
  match tys.toList with
  | sT :: rest => match P.underlying sT with
    | some (.slice e) => match P.info? e, zeroA P e with
      | some ei, some z => match z.cells? with
        | some zc => cond (noInt P rest.head? && Nat.beq zc.length ei.size && Nat.beq ei.size 1 && Nat.blt 0 ei.bytes && Nat.ble ei.bytes 1000) (match s with
          | .slice l (.lit (.ofNat 0)) len cap => match H.get l with
            | some ⟨.arr t [k] e' an (.lit (.ofNat 0)) (some cap'), true⟩ => match t.codeT, srcRow k x H with
              | some c, some (c2, n2, mu) =>
                cond (IT.beq cap cap' && IT.beq len an && decide (e = e'))
                  (some (.slice (nl + 1) (.lit 0) (.bin .add .i64 len n2) (.nv nl), (H.del l).set (nl + 1) ⟨.arr (.code [k] (.un 12 c c2)) [k] e (.bin .add .i64 len n2) (.lit 0) (some (.nv nl)), true⟩, nl + 2, .cmp .leq len (.lit 1000000) :: mu)) none
              | _, _ => none
            | _ => none
          | _ => none) none
        | none => none
      | _, _ => none
    | _ => none
  | _ => none
theorem ints_one (k : IntKind) (L : List Int) : ∀ v ∈ rowOf [k] L, isOne v = true := fun v hv => by
  obtain ⟨i, hi, rfl⟩ := List.getElem_of_mem hv
  have h1 := rowOf_get [k] L i
  rw [List.getElem?_eq_getElem hi] at h1
  cases hL : L[i]? with
  | none => rw [hL] at h1; cases h1
  | some z =>
    rw [hL, Option.map_some, Option.some.injEq] at h1
    rw [h1]; rfl
theorem rowOf_app (k : IntKind) (L M : List Int) : rowOf [k] (L ++ M) = rowOf [k] L ++ rowOf [k] M := by
  apply List.ext_getElem?
  intro i
  rw [rowOf_get]
  rcases Nat.lt_or_ge i L.length with h | h
  · rw [List.getElem?_append_left h, List.getElem?_append_left (by rw [rowOf_length]; exact h), rowOf_get]
  · rw [List.getElem?_append_right h, List.getElem?_append_right (by rw [rowOf_length]; exact h), rowOf_length, rowOf_get]
    simp [Nat.mod_one]
theorem addm_den {a b : IT} {m n : Nat} (h : a.den ρ = some (m : Int)) (g : b.den ρ = some (n : Int)) (hm : m ≤ 1000000) (hn : n ≤ 1000000) : (IT.bin .add .i64 a b).den ρ = some ((m + n : Nat) : Int) := by
  have hw : IntKind.i64.wrap ((m + n : Nat) : Int) = ((m + n : Nat) : Int) := wrap_in .i64 _ (by simp only [lo]; omega) (by simp only [hi]; omega)
  simp only [IT.den, h, g, intBin]
  exact congrArg some hw
theorem aAppendW_ok {tys : Array TypeId} {ty : TypeId} {s x u : AVal} {sv xv : Value} {H' : Heap} {nl' : Nat} {mu : List BT} (h : aAppendW P tys s x H nl = some (u, H', nl', mu)) (hm : ∀ c ∈ mu, c.den ρ = some true) (hs : s.den ρ = some sv) (hx : x.den ρ = some xv) (hr : HRel β ρ H nl w) :
    VOk P β ρ w (Builtin.append_ tys ty #[sv, xv]) u H' nl' := by
  unfold aAppendW at h
  split at h
  rotate_left
  · cases h
  rename_i sT rest htys
  split at h
  rotate_left
  · cases h
  rename_i e hu
  split at h
  rotate_left
  · cases h
  rename_i ei z hei hz
  split at h
  rotate_left
  · cases h
  rename_i zc hzc
  cases hcond : (noInt P rest.head? && Nat.beq zc.length ei.size && Nat.beq ei.size 1 && Nat.blt 0 ei.bytes && Nat.ble ei.bytes 1000) with
  | false => rw [hcond] at h; cases h
  | true =>
  rw [hcond] at h; simp only [cond_true] at h
  simp only [Bool.and_eq_true] at hcond
  obtain ⟨⟨⟨⟨c1, c2⟩, c3⟩, c4⟩, q4⟩ := hcond
  have hsz : ei.size = 1 := Nat.eq_of_beq_eq_true c3
  have hb0 : ei.bytes ≠ 0 := by have : 0 < ei.bytes := by rw [← Nat.blt_eq]; exact c4
                                omega
  have q4 := Nat.le_of_ble_eq_true q4
  have hzl := Nat.eq_of_beq_eq_true c2
  obtain ⟨zv, hz1, hz2⟩ := zeroA_ok hz
  have hzcs := AVal.cells?_den hzc (hz2 ρ)
  have hzlen : zv.cells.toList.length = ei.size := by rw [AVal.denL_length hzcs]; exact hzl
  have ht0 : tys[0]? = some sT := by rw [← Array.getElem?_toList, htys]; rfl
  have ht1 : tys[1]? = rest.head? := by rw [← Array.getElem?_toList, htys]; cases rest <;> rfl
  have hni : ∀ xt, tys[1]? = some xt → ∃ d, P.underlying xt = some d ∧ ∀ k, d ≠ .int k := by rw [ht1]; exact noInt_ok c1
  split at h
  rotate_left
  · cases h
  rename_i l len cap
  split at h
  rotate_left
  · cases h
  rename_i t k e' an cap' hg
  split at h
  rotate_left
  · cases h
  rename_i ct c2' n2 mu' hct hsrc
  cases hq : (IT.beq cap cap' && IT.beq len an && decide (e = e')) with
  | false => rw [hq] at h; cases h
  | true =>
  rw [hq] at h; simp only [cond_true, Option.some.injEq, Prod.mk.injEq] at h
  obtain ⟨rfl, rfl, rfl, rfl⟩ := h
  simp only [Bool.and_eq_true, decide_eq_true_eq] at hq
  obtain ⟨⟨q1, q2⟩, qe⟩ := hq
  subst qe
  obtain rfl := IT.beq_eq q1
  obtain rfl := IT.beq_eq q2
  obtain ⟨y2, n, hy2, hn2, hyl2, hn6, hys2, hys3⟩ := srcRow_ok (P := P) hsrc (fun c hc => hm c (List.mem_cons_of_mem _ hc)) hx hr
  rw [← hsz] at hys3
  obtain ⟨b, o', m, c', rfl, hN, hoff, hlen, hcap⟩ := den_slice hs
  obtain rfl : o' = 0 := by have := Option.some.inj hoff; exact (Int.ofNat.inj this).symm
  obtain ⟨b', ob, hb', hob, xs, c0, fr, el, m', st, rfl, hel, hd, hst, ⟨hstc, hp⟩, hn', hty, hroom, hf⟩ := hr.blk l _ hg
  rw [hN] at hb'; cases hb'
  obtain rfl : st = 0 := by have := Option.some.inj hst; exact (Int.ofNat.inj this).symm
  have hel := (hel rfl).symm
  subst hel
  have hmm : m' = m := by have := hn'.symm.trans hlen; exact Int.ofNat.inj (Option.some.inj this)
  subst hmm
  obtain ⟨y1, hy1, hdy1⟩ := codeT_ok hct hd
  have hrow : rowOf [k] (decL y1) = xs := by rw [hdy1]; exact hty.rowOf.symm
  obtain ⟨N0, hN0, hroom⟩ := hroom
  rw [Nat.sub_zero] at hroom
  simp only [List.length_cons, List.length_nil, Nat.zero_add, Nat.mul_one] at hroom
  rw [List.drop_zero] at hp
  have hc' : c' = N0 := by
    have := hN0.symm.trans hcap; exact (Int.ofNat.inj (Option.some.inj this)).symm
  subst hc'
  have hm6 : m' ≤ 1000000 := by
    have := hm _ List.mem_cons_self
    simp only [BT.den, hlen, IT.den, intCmp, Option.some.injEq, decide_eq_true_eq, Int.ofNat_eq_natCast] at this
    omega
  have hxl : xs.length = m' := by rw [hty.1]; simp
  have hyl1 : (decL y1).length = m' := by rw [hdy1, List.length_map, hxl]
  have hyl : (rowOf [k] (decL y2)).length = n := by rw [rowOf_length, hyl2]
  have hxc : xs.length ≤ c0.size := by simpa using hp.length_le
  have hcode : ∀ ρ' : Env, ρ.Le ρ' → (AT.code [k] (.un 12 ct c2')).den ρ' = some (xs ++ rowOf [k] (decL y2)) := fun ρ' hle => by
    have e1 : (IT.un 12 ct c2').den ρ' = some (encL (decL y1 ++ decL y2)) := by simp only [IT.den, IT.den_mono hle hy1, IT.den_mono hle hy2, univ]
    simp only [AT.den, e1, Option.map_some, decL_encL, rowOf_app, hrow]
  have hty2 : Typed [k] (m' + n) (xs ++ rowOf [k] (decL y2)) := by
    rw [← hrow, ← rowOf_app]
    exact rowOf_typed (by rw [List.length_append, hyl1, hyl2]; simp)
  have hsame : ∀ w', w'.heap = w.heap → (Builtin.firstCells ei.size m' (.slice (some ⟨b, 0, none⟩) m' c')).run P w' = .ok xs.toArray w' := by
    intro w' hw'
    have hg' : w'.heap[b]? = some (.cells c0 e fr) := by rw [hw']; exact hob
    have := loadCells_run (P := P) (o := 0) (n := m' * ei.size) hg' (by rw [hsz]; omega)
    have he : (c0.toList.drop 0).take (m' * ei.size) = xs := by
      obtain ⟨r, hr'⟩ := hp
      rw [← hr', List.drop_zero, hsz, Nat.mul_one, ← hxl, List.take_left]
    rw [he] at this; exact this
  have hlen1 : ∀ ρ' : Env, ρ.Le ρ' → (IT.bin .add .i64 len n2).den ρ' = some ((m' + n : Nat) : Int) := fun ρ' hle => addm_den (IT.den_mono hle hlen) (IT.den_mono hle hn2) hm6 hn6
  have hys3' : ∀ w', w'.heap = w.heap → (Builtin.firstCells ei.size n xv).run P w' = .ok (rowOf [k] (decL y2)).toArray w' := hys3
  by_cases hfit : m' + n ≤ c'
  · obtain ⟨w', c1', hrun, hheap, hcl, htp, hos, hout⟩ := storeCells_run (P := P) (rowOf [k] (decL y2)) 0 (m' * ei.size) w c0 (hf rfl) hob (by rw [hsz, hyl]; omega) (ints_one k _)
    have hr1 := hr.num c'
    have hle1 : ρ.Le (ρ.put nl c') := Env.le_put (hr.fresh nl (Nat.le_refl _))
    have hsz1 : c1'.size = c0.size := by
      have := congrArg List.length hcl
      simp [hyl, hsz] at this
      omega
    have hrel : (ABlk.arr (.code [k] (.un 12 ct c2')) [k] e (.bin .add .i64 len n2) (.lit 0) (some (.nv nl))).rel (ρ.put nl c') true (.cells c1' e fr) := by
      refine ⟨xs ++ rowOf [k] (decL y2), c1', fr, e, m' + n, 0, rfl, fun _ => rfl, hcode _ hle1, rfl, ⟨Nat.zero_le _, ?_⟩, hlen1 _ hle1, hty2, ⟨c', by simp only [IT.den, Env.put_same]; rfl, by rw [Nat.sub_zero, hsz1, hroom]; simp⟩, fun _ => by rw [hsz1]; exact hf rfl⟩
      rw [List.drop_zero, hcl]
      obtain ⟨r, hr'⟩ := hp
      have e1 : List.take (m' * ei.size + 0) c0.toList = xs := by rw [← hr', hsz, Nat.mul_one, Nat.add_zero, ← hxl, List.take_left]
      rw [e1]
      exact ⟨_, rfl⟩
    have hr2 := hr1.moveW (k' := ⟨.arr (.code [k] (.un 12 ct c2')) [k] e (.bin .add .i64 len n2) (.lit 0) (some (.nv nl)), true⟩) hg rfl (hle1.n _ _ hN) hrel hheap htp hos hout
    have hle2 : (ρ.put nl c').Le ((ρ.put nl c').put (nl + 1) b) := Env.le_put (hr1.fresh _ (Nat.le_refl _))
    refine ⟨(ρ.put nl c').put (nl + 1) b, w', .slice (some ⟨b, 0, none⟩) (m' + n) c', hle1.trans hle2, ?_, ?_, hr2⟩
    · exact append_fits_run ht0 hu hei hni hys2 hys3' hfit (fun a ha => by cases ha; rw [addr_add, Nat.zero_add]; exact hrun) (fun e => by cases e)
    · have e0 : natOf ((IT.lit 0).den ((ρ.put nl c').put (nl + 1) b)) = some 0 := rfl
      have e1 : natOf ((IT.bin .add .i64 len n2).den ((ρ.put nl c').put (nl + 1) b)) = some (m' + n) := by rw [hlen1 _ (hle1.trans hle2)]; rfl
      have e2 : natOf ((IT.nv nl).den ((ρ.put nl c').put (nl + 1) b)) = some c' := by
        have : ((ρ.put nl c').put (nl + 1) b).N nl = some c' := hle2.n _ _ (Env.put_same ..)
        simp [IT.den, this, natOf]
      simp only [AVal.den, Env.put_same, e0, e1, e2]
  · have hbig : Builtin.nextslicecap (m' + n) c' * ei.bytes ≤ 2 ^ 48 := by
      have := nsc_le (m' + n) c' (by omega)
      exact Nat.le_trans (Nat.mul_le_mul this q4) (Nat.le_trans (Nat.mul_le_mul_right 1000 (show 2 * (m' + n) + 1000 ≤ 4001000 by omega)) (by decide))
    obtain ⟨cap, hcap2, hrun⟩ := append_grow_run (ty := ty) (base := some ⟨b, 0, none⟩) ht0 hu hei hz1 hni hys2 hys3' hsame hfit hbig hb0
    have hr0 := (hr.del l).drew
    have h1 := hr0.num cap
    have hle1 : ρ.Le (ρ.put nl cap) := Env.le_put (hr.fresh nl (Nat.le_refl _))
    let c : Array Value := (xs ++ rowOf [k] (decL y2)).toArray ++ (Builtin.zeroCells zv.cells (cap - (m' + n)))
    have hcs : c.size = cap := by
      have hz' : zv.cells.size = 1 := by rw [← hsz]; simpa using hzlen
      simp only [c, Array.size_append, List.size_toArray, Builtin.zeroCells, Array.size_map, Array.size_range, List.length_append, hxl, hyl, hz']
      omega
    have hrel : (ABlk.arr (.code [k] (.un 12 ct c2')) [k] e (.bin .add .i64 len n2) (.lit 0) (some (.nv nl))).rel (ρ.put nl cap) true (.cells c e (0, 0)) := by
      refine ⟨xs ++ rowOf [k] (decL y2), c, (0, 0), e, m' + n, 0, rfl, fun _ => rfl, hcode _ hle1, rfl, ⟨Nat.zero_le _, ?_⟩, hlen1 _ hle1, hty2, ⟨cap, by simp only [IT.den, Env.put_same]; rfl, by rw [Nat.sub_zero, hcs]; simp⟩, fun _ => .inl (Nat.le_refl _)⟩
      exact ⟨(Builtin.zeroCells zv.cells (cap - (m' + n))).toList, by simp [c]⟩
    have h2 := h1.new _ _ true hrel
    have hle2 : (ρ.put nl cap).Le ((ρ.put nl cap).put (nl + 1) w.heap.size) := Env.le_put (h1.fresh _ (Nat.le_refl _))
    refine ⟨_, _, .slice (some ⟨w.heap.size, 0, none⟩) (m' + n) cap, hle1.trans hle2, ?_, ?_, h2⟩
    · rw [hrun]
      show (do pure (.slice (some (← newRow e c)) (m' + n) cap) : Sem Value).run P { w with drawn := w.drawn + 1 } = _
      simp [newRow]
      exact ⟨rfl, rfl, rfl⟩
    · have e0 : natOf ((IT.lit 0).den ((ρ.put nl cap).put (nl + 1) w.heap.size)) = some 0 := rfl
      have e1 : natOf ((IT.bin .add .i64 len n2).den ((ρ.put nl cap).put (nl + 1) w.heap.size)) = some (m' + n) := by rw [hlen1 _ (hle1.trans hle2)]; rfl
      have e2 : natOf ((IT.nv nl).den ((ρ.put nl cap).put (nl + 1) w.heap.size)) = some cap := by
        have : ((ρ.put nl cap).put (nl + 1) w.heap.size).N nl = some cap := hle2.n _ _ (Env.put_same ..)
        simp [IT.den, this, natOf]
      simp only [AVal.den, Env.put_same, e0, e1, e2]
/-- Cells that are known, and numbers all, are a row. -/
def widen (s : AVal) (H : Heap) : Option Heap :=
  match s with
  | .slice l (.lit (.ofNat 0)) (.lit (.ofNat m)) _ => match H.get l with
    | some ⟨.cells (.int k t :: r) e none, true⟩ => cond (kinds1 (repK m [k]) (.int k t :: r)) (some (H.set l ⟨.arr (.lits (.int k t :: r)) [k] e (.lit (.ofNat m)) (.lit 0) (some (.lit (.ofNat m))), true⟩)) none
    | _ => none
  | _ => none
theorem widen_ok {s : AVal} {H1 : Heap} (h : widen s H = some H1) (hr : HRel β ρ H nl w) : HRel β ρ H1 nl w := by
  unfold widen at h
  split at h
  rotate_left
  · cases h
  rename_i l m cap
  split at h
  rotate_left
  · cases h
  rename_i k t r e hl
  cases hq : kinds1 (repK m [k]) (.int k t :: r) with
  | false => rw [hq] at h; cases h
  | true =>
  rw [hq] at h
  simp only [cond_true, Option.some.injEq] at h
  subst h
  refine hr.weak hl rfl fun o ho => ?_
  obtain ⟨xs, c, fr, rfl, hd, hp, htail, hf⟩ := ho
  obtain ⟨k1, k2⟩ := kinds1_ok hq hd
  have k1 : xs.length = m := by rw [k1, repK_length]; simp
  have hvl := AVal.denL_length hd
  have htail : c.size = (AVal.int k t :: r).length := htail
  refine ⟨xs, c, fr, e, m, 0, rfl, fun _ => rfl, hd, rfl, ⟨Nat.zero_le _, by rw [List.drop_zero]; exact hp⟩, rfl, ⟨by rw [k1]; simp, fun i j k' hi hk => ?_⟩, ⟨m, rfl, by rw [htail, ← hvl, k1]; simp⟩, hf⟩
  have := repK_get (n := m) (i := i) (ks := [k]) (j := j) hi hk
  exact k2 _ _ this
/-- A row's piece behind nothing: a copy of it. -/
def kindOf (x : AVal) (H : Heap) : Option IntKind := match x with
  | .slice l2 _ _ _ => match H.get l2 with
    | some ⟨.arr _ [k] _ _ _ _, _⟩ => some k
    | _ => none
  | _ => none
def aAppendP (P : Program) (tys : Array TypeId) (s x : AVal) (H : Heap) (nl : Nat) : Option (AVal × Heap × Nat × List BT) :=
  match tys.toList with
  | sT :: rest => match P.underlying sT with
    | some (.slice e) => match P.info? e, zeroA P e with
      | some ei, some z => match z.cells? with
        | some zc => match s, kindOf x H with
          | .slice _ _ l0 c0, some k => match srcRow k x H with
            | some (c, n2, mu) => cond (noInt P rest.head? && Nat.beq zc.length 1 && Nat.beq ei.size 1 && Nat.blt 0 ei.bytes && Nat.ble ei.bytes 1000 && (isZ l0 && isZ c0))
              (some (.slice (nl + 1) (.lit 0) n2 (.nv nl), H.set (nl + 1) ⟨.arr (.code [k] c) [k] e n2 (.lit 0) (some (.nv nl)), true⟩, nl + 2, .cmp .geq n2 (.lit 1) :: mu)) none
            | none => none
          | _, _ => none
        | none => none
      | _, _ => none
    | _ => none
  | _ => none
theorem aAppendP_ok {tys : Array TypeId} {ty : TypeId} {s x u : AVal} {sv xv : Value} {H' : Heap} {nl' : Nat} {mu : List BT} (h : aAppendP P tys s x H nl = some (u, H', nl', mu)) (hm : ∀ c ∈ mu, c.den ρ = some true) (hs : s.den ρ = some sv) (hx : x.den ρ = some xv) (hr : HRel β ρ H nl w) :
    VOk P β ρ w (Builtin.append_ tys ty #[sv, xv]) u H' nl' := by
  unfold aAppendP at h
  split at h
  rotate_left
  · cases h
  rename_i sT rest htys
  split at h
  rotate_left
  · cases h
  rename_i e hu
  split at h
  rotate_left
  · cases h
  rename_i ei z hei hz
  split at h
  rotate_left
  · cases h
  rename_i zc hzc
  split at h
  rotate_left
  · cases h
  rename_i l1 o1 l0 c0 k hk
  split at h
  rotate_left
  · cases h
  rename_i cT n2 mu0 hsrc
  cases hq : (noInt P rest.head? && Nat.beq zc.length 1 && Nat.beq ei.size 1 && Nat.blt 0 ei.bytes && Nat.ble ei.bytes 1000 && (isZ l0 && isZ c0)) with
  | false => rw [hq] at h; cases h
  | true =>
  rw [hq] at h; simp only [cond_true, Option.some.injEq, Prod.mk.injEq] at h
  obtain ⟨rfl, rfl, rfl, rfl⟩ := h
  simp only [Bool.and_eq_true] at hq
  obtain ⟨⟨⟨⟨⟨c1, c2⟩, c3⟩, c4⟩, q4⟩, z1, z2⟩ := hq
  have c3 := Nat.eq_of_beq_eq_true c3
  have hb0 : ei.bytes ≠ 0 := by have : 0 < ei.bytes := by rw [← Nat.blt_eq]; exact c4
                                omega
  have q4 := Nat.le_of_ble_eq_true q4
  obtain rfl := isZ_eq z1
  obtain rfl := isZ_eq z2
  have hzl := Nat.eq_of_beq_eq_true c2
  obtain ⟨zv, hz1, hz2⟩ := zeroA_ok hz
  have hzcs := AVal.cells?_den hzc (hz2 ρ)
  have hzlen : zv.cells.toList.length = 1 := by rw [AVal.denL_length hzcs]; exact hzl
  have ht0 : tys[0]? = some sT := by rw [← Array.getElem?_toList, htys]; rfl
  have ht1 : tys[1]? = rest.head? := by rw [← Array.getElem?_toList, htys]; cases rest <;> rfl
  have hni : ∀ xt, tys[1]? = some xt → ∃ d, P.underlying xt = some d ∧ ∀ k, d ≠ .int k := by rw [ht1]; exact noInt_ok c1
  obtain ⟨b, o', m', c', rfl, hN, hoff, hlen, hcap⟩ := den_slice hs
  obtain rfl : m' = 0 := by have := Option.some.inj hlen; exact (Int.ofNat.inj this).symm
  obtain rfl : c' = 0 := by have := Option.some.inj hcap; exact (Int.ofNat.inj this).symm
  obtain ⟨y, m1, hcd, hlen2, hyl, hm2, hys2, hys3⟩ := srcRow_ok hsrc (fun c hc => hm c (List.mem_cons_of_mem _ hc)) hx hr
  have m1' := hm _ List.mem_cons_self
  simp only [BT.den, IT.den, hlen2, intCmp, Option.some.injEq, decide_eq_true_eq] at m1'
  have hm1 : 1 ≤ m1 := by
    have : (1 : Int) ≤ (m1 : Int) := m1'
    omega
  rw [← c3] at hys3
  have hold : ∀ w', w'.heap = w.heap → (Builtin.firstCells ei.size 0 (.slice (some ⟨b, o', none⟩) 0 0)).run P w' = .ok ([] : List Value).toArray w' := fun w' _ => by
    have h9 := run_loadCells_list (P := P) (w := w') (⟨b, o', none⟩ : Addr) [] (fun j v hj => by simp at hj)
    simpa [Builtin.firstCells] using h9
  have hbig : Builtin.nextslicecap (0 + m1) 0 * ei.bytes ≤ 2 ^ 48 := by
    have := nsc_le (0 + m1) 0 (by omega)
    exact Nat.le_trans (Nat.mul_le_mul this q4) (Nat.le_trans (Nat.mul_le_mul_right 1000 (show 2 * (0 + m1) + 1000 ≤ 2001008 by omega)) (by decide))
  obtain ⟨cap, hcap2, hrun⟩ := append_grow_run (ty := ty) (base := some ⟨b, o', none⟩) ht0 hu hei hz1 hni hys2 hys3 hold (by omega) hbig hb0
  have h1 := hr.drew.num cap
  have hle1 : ρ.Le (ρ.put nl cap) := Env.le_put (hr.fresh nl (Nat.le_refl _))
  have hxl : (rowOf [k] (decL y)).length = m1 := by rw [rowOf_length, hyl]
  let c : Array Value := ([] ++ rowOf [k] (decL y)).toArray ++ (Builtin.zeroCells zv.cells (cap - (0 + m1)))
  have hcs : c.size = cap := by
    have hz' : zv.cells.size = 1 := by simpa using hzlen
    simp only [c, Array.size_append, List.size_toArray, Builtin.zeroCells, Array.size_map, Array.size_range, List.length_append, hxl, hz', List.length_nil]
    omega
  have hrel : (ABlk.arr (.code [k] cT) [k] e n2 (.lit 0) (some (.nv nl))).rel (ρ.put nl cap) true (.cells c e (0, 0)) := by
    refine ⟨rowOf [k] (decL y), c, (0, 0), e, m1, 0, rfl, fun _ => rfl, ?_, rfl, ⟨Nat.zero_le _, ?_⟩, IT.den_mono hle1 hlen2, rowOf_typed (by rw [hyl]; simp), ⟨cap, by simp only [IT.den, Env.put_same]; rfl, by rw [Nat.sub_zero, hcs]; simp⟩, fun _ => .inl (Nat.le_refl _)⟩
    · simp only [AT.den, IT.den_mono hle1 hcd, Option.map_some]
    · exact ⟨(Builtin.zeroCells zv.cells (cap - (0 + m1))).toList, by simp [c]⟩
  have h2 := h1.new _ _ true hrel
  have hle2 : (ρ.put nl cap).Le ((ρ.put nl cap).put (nl + 1) w.heap.size) := Env.le_put (h1.fresh _ (Nat.le_refl _))
  refine ⟨_, _, .slice (some ⟨w.heap.size, 0, none⟩) (0 + m1) cap, hle1.trans hle2, ?_, ?_, h2⟩
  · rw [hrun]
    show (do pure (.slice (some (← newRow e c)) (0 + m1) cap) : Sem Value).run P { w with drawn := w.drawn + 1 } = _
    simp [newRow]
    exact ⟨rfl, rfl, rfl⟩
  · have e0 : natOf ((IT.lit 0).den ((ρ.put nl cap).put (nl + 1) w.heap.size)) = some 0 := rfl
    have e1 : natOf (n2.den ((ρ.put nl cap).put (nl + 1) w.heap.size)) = some m1 := by rw [IT.den_mono (hle1.trans hle2) hlen2]; rfl
    have e2 : natOf ((IT.nv nl).den ((ρ.put nl cap).put (nl + 1) w.heap.size)) = some cap := by
      have : ((ρ.put nl cap).put (nl + 1) w.heap.size).N nl = some cap := hle2.n _ _ (Env.put_same ..)
      simp [IT.den, this, natOf]
    simp only [AVal.den, Env.put_same, e0, e1, e2, Nat.zero_add]
def aAppendX0 (P : Program) (tys : Array TypeId) (s x : AVal) (H : Heap) (nl : Nat) : Option (AVal × Heap × Nat × List BT) :=
  match aAppendW P tys s x H nl with
  | some p => some p
  | none => match narrow s H with
    | some (H1, b) => match aAppendW P tys s x H1 nl with
      | some (u, H', nl', mu) => some (u, H', nl', b :: mu)
      | none => none
    | none => match widen s H with
      | some H1 => aAppendW P tys s x H1 nl
      | none => none
theorem aAppendX0_ok {tys : Array TypeId} {ty : TypeId} {s x u : AVal} {sv xv : Value} {H' : Heap} {nl' : Nat} {mu : List BT} (h : aAppendX0 P tys s x H nl = some (u, H', nl', mu)) (hm : ∀ c ∈ mu, c.den ρ = some true) (hs : s.den ρ = some sv) (hx : x.den ρ = some xv) (hr : HRel β ρ H nl w) :
    VOk P β ρ w (Builtin.append_ tys ty #[sv, xv]) u H' nl' := by
  unfold aAppendX0 at h
  split at h
  · rename_i p hp
    cases h
    exact aAppendW_ok hp hm hs hx hr
  · split at h
    · rename_i H1 b hn
      split at h
      · rename_i u1 H2 nl2 mu1 hp
        cases h
        exact aAppendW_ok hp (fun c hc => hm c (List.mem_cons_of_mem _ hc)) hs hx (narrow_ok hn (hm b List.mem_cons_self) hs hr)
      · cases h
    · split at h
      · rename_i H1 hn
        exact aAppendW_ok h hm hs hx (widen_ok hn hr)
      · cases h

def aAppendX (P : Program) (tys : Array TypeId) (s x : AVal) (H : Heap) (nl : Nat) : Option (AVal × Heap × Nat × List BT) :=
  match aAppendX0 P tys s x H nl with
  | some p => some p
  | none => aAppendP P tys s x H nl
theorem aAppendX_ok {tys : Array TypeId} {ty : TypeId} {s x u : AVal} {sv xv : Value} {H' : Heap} {nl' : Nat} {mu : List BT} (h : aAppendX P tys s x H nl = some (u, H', nl', mu)) (hm : ∀ c ∈ mu, c.den ρ = some true) (hs : s.den ρ = some sv) (hx : x.den ρ = some xv) (hr : HRel β ρ H nl w) :
    VOk P β ρ w (Builtin.append_ tys ty #[sv, xv]) u H' nl' := by
  unfold aAppendX at h
  split at h
  · rename_i p hp
    cases h
    exact aAppendX0_ok hp hm hs hx hr
  · exact aAppendP_ok h hm hs hx hr
def aAppendE (P : Program) (tys : Array TypeId) (s x : AVal) (H : Heap) (nl : Nat) : Option (AVal × Heap × Nat × List BT) :=
  match aAppendE0 P tys s x H nl with
  | some p => some p
  | none => match aAppendR P tys s x H nl with
    | some p => some p
    | none => match narrow s H with
      | some (H1, b) => match aAppendV P tys s x H1 nl with
        | some (u, H', nl', mu) => some (u, H', nl', b :: mu)
        | none => aAppendX P tys s x H nl
      | none => aAppendX P tys s x H nl
theorem aAppendE_ok {tys : Array TypeId} {ty : TypeId} {s x u : AVal} {sv xv : Value} {H' : Heap} {nl' : Nat} {mu : List BT} (h : aAppendE P tys s x H nl = some (u, H', nl', mu)) (hm : ∀ c ∈ mu, c.den ρ = some true) (hs : s.den ρ = some sv) (hx : x.den ρ = some xv) (hr : HRel β ρ H nl w) :
    VOk P β ρ w (Builtin.append_ tys ty #[sv, xv]) u H' nl' := by
  unfold aAppendE at h
  split at h
  · rename_i p hp
    cases h
    exact aAppendE0_ok hp hm hs hx hr
  · split at h
    · rename_i p hp
      cases h
      exact aAppendR_ok hp hm hs hx hr
    · split at h
      · rename_i H1 b hn
        split at h
        · rename_i u1 H2 nl2 mu1 hp
          cases h
          exact aAppendV_ok hp (fun c hc => hm c (List.mem_cons_of_mem _ hc)) hs hx (narrow_ok hn (hm b List.mem_cons_self) hs hr)
        · exact aAppendX_ok h hm hs hx hr
      · exact aAppendX_ok h hm hs hx hr

end
end Go.Vm