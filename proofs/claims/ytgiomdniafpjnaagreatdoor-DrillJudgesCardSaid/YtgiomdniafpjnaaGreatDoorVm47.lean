/-
  A machine for abstract states over the model (part 32): maps from ints to any values, plainly.
-/
import Derived.Test.YtgiomdniafpjnaaGreatDoorVm31
import Derived.Maps.RangeRun
import Derived.Laws.StructEq
section
namespace Go.Vm

abbrev Kvs := List (Int × Value)
def gets : Kvs → Int → Option Value
  | [], _ => none
  | (a, v) :: r, k => if a = k then some v else gets r k
def puts : Kvs → Int → Value → Kvs
  | [], k, y => [(k, y)]
  | (a, v) :: r, k, y => if a = k then (k, y) :: r else (a, v) :: puts r k y
def dels : Kvs → Int → Kvs
  | [], _ => []
  | (a, v) :: r, k => if a = k then r else (a, v) :: dels r k
def kvI (p : Int × Value) : Value × Value := (.int .i64 p.1, p.2)
/-- A map with these entries. -/
def MapAt (w : World) (b : Nat) (l : Kvs) : Prop := ∃ es cl, w.heap[b]? = some (.map es cl) ∧ es.toList.map kvOf = l.map kvI ∧ Born es cl
theorem findG (k0 : IntKind) (k : Int) : ∀ {xs : List MapEntry} {l : Kvs} (i : Nat), xs.map kvOf = l.map kvI →
    (gets l k = none → Instr.findNow (.int k0) (.int .i64 k) xs i = some none ∧ ∀ y, puts l k y = l ++ [(k, y)]) ∧
    (∀ v, gets l k = some v → ∃ j bn, Instr.findNow (.int k0) (.int .i64 k) xs i = some (some (i + j, v)) ∧ xs[j]? = some ⟨.int .i64 k, v, bn⟩ ∧
      (∀ y bn', (xs.set j ⟨.int .i64 k, y, bn'⟩).map kvOf = (puts l k y).map kvI) ∧ (xs.eraseIdx j).map kvOf = (dels l k).map kvI)
  | [], [], i, _ => ⟨fun _ => ⟨rfl, fun _ => rfl⟩, fun v e => by cases e⟩
  | [], _ :: _, _, h => by cases h
  | _ :: _, [], _, h => by cases h
  | e :: xs, (a, v0) :: r, i, h => by
    simp only [List.map_cons, List.cons.injEq] at h
    obtain ⟨h1, h2⟩ := h
    obtain ⟨ek, ev, bn⟩ := e
    simp only [kvOf, kvI, Prod.mk.injEq] at h1
    obtain ⟨rfl, rfl⟩ := h1
    by_cases hk : a = k
    · subst hk
      refine ⟨fun e => by simp [gets] at e, fun v e => ?_⟩
      simp only [gets, if_true, Option.some.injEq] at e
      subst e
      refine ⟨0, bn, by simp [Instr.findNow, Instr.sameNow], rfl, fun y bn' => ?_, ?_⟩
      · simp only [List.set_cons_zero, List.map_cons, kvOf, kvI, puts, if_true, ← h2]
      · simp only [List.eraseIdx_cons_zero, dels, if_true, h2]
    · obtain ⟨g1, g2⟩ := findG k0 k (i + 1) h2
      have hne : (k == a) = false := by
        rw [Bool.eq_false_iff]; intro e; exact hk (by simpa using e : k = a).symm
      have hs : Instr.sameNow (.int k0) (.int .i64 k) (.int .i64 a) = some false := by
        simp only [Instr.sameNow, if_true, hne]
      refine ⟨fun e => ?_, fun v e => ?_⟩
      · simp only [gets, if_neg hk] at e
        obtain ⟨q1, q3⟩ := g1 e
        exact ⟨by simp only [Instr.findNow, hs, q1], fun y => by simp only [puts, if_neg hk, q3, List.cons_append]⟩
      · simp only [gets, if_neg hk] at e
        obtain ⟨j, bn0, q1, q2, q3, q4⟩ := g2 v e
        refine ⟨j + 1, bn0, ?_, by simpa using q2, fun y bn' => ?_, ?_⟩
        · simp only [Instr.findNow, hs, q1]
          congr 3; omega
        · simp only [List.set_cons_succ, List.map_cons, kvOf, kvI, puts, if_neg hk]
          rw [← q3 y bn']
        · simp only [List.eraseIdx_cons_succ, List.map_cons, kvOf, kvI, dels, if_neg hk]
          rw [← q4]
section
variable {P : Program} {w : World} {b : Nat} {l : Kvs} {t kt et : TypeId} {k0 : IntKind}
theorem MapAt.lookup (h : MapAt w b l) (hu : P.underlying t = some (.map kt et)) (hk : P.underlying kt = some (.int k0)) {u : AVal} (hz : zeroA P et = some u) {z : Value} (hz2 : ∀ ρ, u.den ρ = some z) (k : Int) (c : Bool) :
    (Instr.lookup t (.map (some b)) (.int .i64 k) c).run P w = .ok (if c then .tuple #[(gets l k).getD z, .bool (gets l k).isSome] else (gets l k).getD z) w := by
  obtain ⟨es, cl, hg, he, _⟩ := h
  obtain ⟨zv, hz1, hz3⟩ := zeroA_ok hz
  obtain rfl : zv = z := Option.some.inj ((hz3 ⟨fun _ => 0, fun _ => false, fun _ => default, fun _ => undef, fun _ => none, fun _ _ _ => 0, fun _ => none⟩).symm.trans (hz2 _))
  obtain ⟨_, hck⟩ := keyC_ok (P := P) (w := w) (d := .int k0) rfl (x := k)
  have hck' := hck 9999 kt es.isEmpty hk
  obtain ⟨f1, f2⟩ := findG k0 k 0 he
  cases hmg : gets l k with
  | none =>
    obtain ⟨q2, _⟩ := f1 hmg
    cases c <;> simp [Instr.lookup, run_und hu, getObj_map hg, hck', findKey_run hk q2, hz1]
  | some v =>
    obtain ⟨j, bn, q2, _⟩ := f2 v hmg
    cases c <;> simp [Instr.lookup, run_und hu, getObj_map hg, hck', findKey_run hk q2]
theorem MapAt.update (h : MapAt w b l) (hu : P.underlying t = some (.map kt et)) (hk : P.underlying kt = some (.int k0)) (k : Int) (y : Value) :
    ∃ es cl, (Instr.mapUpdate t (.map (some b)) (.int .i64 k) y).run P w = .ok () { w with heap := w.heap.setIfInBounds b (.map es cl) } ∧ es.toList.map kvOf = (puts l k y).map kvI ∧ Born es cl := by
  obtain ⟨xs, cl, hg, he, hbn⟩ := h
  obtain ⟨_, hck⟩ := keyC_ok (P := P) (w := w) (d := .int k0) rfl (x := k)
  have hck' := hck 9999 kt false hk
  obtain ⟨f1, f2⟩ := findG k0 k 0 he
  cases hmg : gets l k with
  | none =>
    obtain ⟨q2, q3⟩ := f1 hmg
    refine ⟨xs.push ⟨.int .i64 k, y, cl⟩, cl + 1, ?_, ?_, hbn.push⟩
    · simp only [Instr.mapUpdate, Sem.run_bind, run_und hu, Result.andThen_ok, getObj_map hg, hck', findKey_run hk q2, setObj_map hg]
    · rw [q3 y, Array.toList_push, List.map_append, he, List.map_append]; rfl
  | some v =>
    obtain ⟨j, bn, q2, q4, q5, _⟩ := f2 v hmg
    rw [Nat.zero_add] at q2
    have hx? : xs[j]? = some ⟨.int .i64 k, v, bn⟩ := by rw [← Array.getElem?_toList]; exact q4
    have hm' : (xs.modify j (fun e => { e with key := .int .i64 k, val := y })).toList = xs.toList.set j ⟨.int .i64 k, y, bn⟩ := by
      apply List.ext_getElem?
      intro i
      rw [Array.getElem?_toList, Array.getElem?_modify, List.getElem?_set]
      by_cases hi : j = i
      · subst hi
        have hlt : j < xs.size := (Array.getElem?_eq_some_iff.1 hx?).1
        have hb1 : xs[j].born = bn := by rw [(Array.getElem?_eq_some_iff.1 hx?).2]
        simp [hlt, hb1]
      · simp [hi]
    have hks : (Instr.keyThatStays (.int .i64 k) (.int .i64 k)).run P w = .ok (.int .i64 k) w := by simp [Instr.keyThatStays, Instr.sameBits]
    refine ⟨xs.modify j (fun e => { e with key := .int .i64 k, val := y }), cl, ?_, ?_, ?_⟩
    · simp only [Instr.mapUpdate, Sem.run_bind, run_und hu, Result.andThen_ok, getObj_map hg, hck', findKey_run hk q2, hx?, Option.map_some, Option.getD_some, hks, setObj_map hg]
    · rw [hm', q5 y bn]
    · have hmb : (xs.modify j (fun e => { e with key := .int .i64 k, val := y })).toList.map (·.born) = xs.toList.map (·.born) := by
        rw [hm']
        apply List.ext_getElem?
        intro i
        rw [List.getElem?_map, List.getElem?_map, List.getElem?_set]
        by_cases hi : j = i
        · subst hi
          have hlt : j < xs.toList.length := (List.getElem?_eq_some_iff.1 q4).1
          rw [if_pos rfl, if_pos hlt, q4]; rfl
        · rw [if_neg hi]
      exact hbn.of_map hmb
end
end Go.Vm
end

/-
  A machine for abstract states over the model (part 44): a range over a map whose entries are known goes on, whichever of them comes.
-/
section
namespace Go.Vm

def nxK (r l since cl : Nat) (seen : List Nat) (H : Heap) (nl : Nat) (cs : Cs) (e : AVal × AVal × Nat) : Leaf :=
  .ret (.tuple [.bool (.lit true), e.1, e.2.1]) (H.set r ⟨.iter l since (seen ++ [e.2.2]) cl, true⟩) nl cs
def hkNextK : OpF := fun o ev H nl cs => match o with
  | .next x false => match ev x with
    | some (.ptr r (.lit (.ofNat 0))) => match H.get r with
      | some ⟨.iter l since seen last, true⟩ => match H.get l with
        | some ⟨.map es cl, _⟩ => cond (es.all (fun e => Nat.blt e.2.2 since) && Nat.ble since last) (match Vm.leftOf es seen with
          | [] => some [.ret (.tuple [.bool (.lit false)]) H nl cs]
          | e :: L => some ((e :: L).map (nxK r l since cl seen H nl cs))) none
        | _ => none
      | _ => none
    | _ => none
  | _ => none
theorem esDen_mem {ρ : Env} : ∀ {es : List (AVal × AVal × Nat)} {xs : List MapEntry}, esDen ρ es = some xs → ∀ x ∈ xs, ∃ e ∈ es, x.born = e.2.2 ∧ e.1.den ρ = some x.key ∧ e.2.1.den ρ = some x.val
  | [], xs, h, x, hx => by cases h; cases hx
  | (a, b, n) :: r, xs, h, x, hx => by
    simp only [esDen] at h
    split at h
    · rename_i y z l hy hz hl
      cases h
      rcases List.mem_cons.1 hx with rfl | hx
      · exact ⟨(a, b, n), List.mem_cons_self, rfl, hy, hz⟩
      · obtain ⟨e, h1, h2⟩ := esDen_mem hl x hx
        exact ⟨e, List.mem_cons_of_mem _ h1, h2⟩
    · cases h
theorem hkNextK_ok {P : Program} {β : Base} : HookOk P β hkNextK := by
  intro o ev H nl cs ls ρ w f h he hh hc _
  unfold hkNextK at h
  split at h
  rotate_left
  · cases h
  rename_i xo ho
  split at h
  rotate_left
  · cases h
  rename_i r hx
  split at h
  rotate_left
  · cases h
  rename_i l since seen last hgr
  split at h
  rotate_left
  · cases h
  rename_i es cl rw hgl
  obtain ⟨br, hfx, hbr⟩ := den_ptr0 (he xo _ hx)
  obtain ⟨b, hb, hor⟩ := hh.iter hgr hbr
  obtain ⟨xs, hg, hes⟩ := hh.map hgl hb
  cases hq : (es.all (fun e => Nat.blt e.2.2 since) && Nat.ble since last) with
  | false => rw [hq] at h; cases h
  | true =>
    rw [hq] at h
    simp only [cond_true] at h
    simp only [Bool.and_eq_true] at hq
    obtain ⟨hq1, hq2⟩ := hq
    have hold : ∀ x ∈ xs, x.born < since := fun x hx => by
      obtain ⟨e, h1, h2, _⟩ := esDen_mem hes x hx
      have := List.all_eq_true.1 hq1 e h1
      rw [h2]
      simpa [Nat.blt_eq] using this
    have hlf := esDen_filter (fun n => !seen.contains n) hes
    have hleft : (Go.leftOf xs.toArray seen.toArray).toList = xs.filter fun e => !seen.contains e.born := by
      unfold Go.leftOf; simp
    have hrn := run_next_at (P := P) w o.type br b since last seen.toArray xs.toArray cl hor hg (by simpa using hold) (Nat.le_of_ble_eq_true hq2)
    rcases hrn with ⟨h0, hrun⟩ | ⟨e, hel, w1, hw1, hrun⟩
    · have h0' : xs.filter (fun e => !seen.contains e.born) = [] := by
        rw [← hleft]; exact List.eq_nil_of_length_eq_zero (by rw [Array.length_toList]; exact h0)
      have hL : Vm.leftOf es seen = [] := by
        have := (esDen_len hlf).1
        rw [h0'] at this
        exact List.eq_nil_of_length_eq_zero this.symm
      rw [hL] at h
      cases h
      have hrun' : (Instr.next (f xo) false o.type).run P w = .ok (.tuple #[.bool false]) w := by rw [hfx]; exact hrun
      exact ⟨.tuple #[.bool false], w, .inl (by simp [execOp, ho, hrun']), _, _, _, _, ρ, List.mem_cons_self, Env.Le.refl ρ, rfl, hh, hc⟩
    · rw [hleft] at hel
      obtain ⟨y, h1, h2, h3, h4⟩ := esDen_mem hlf e hel
      have hy : y ∈ Vm.leftOf es seen := h1
      have hmem : nxK r l since cl seen H nl cs y ∈ ls := by
        split at h
        · rename_i hL; rw [hL] at hy; cases hy
        · rename_i e' L hL
          cases h
          exact List.mem_map.2 ⟨y, by rw [← hL]; exact hy, rfl⟩
      have hrun' : (Instr.next (f xo) false o.type).run P w = .ok (.tuple #[.bool true, e.key, e.val]) (ChangeMaps.setBlock w1 br (.mapIter (some b) since (seen.toArray.push e.born) cl)) := by rw [hfx]; exact hrun
      have hh1 : HRel β ρ H nl w1 := by
        rcases hw1 with rfl | rfl
        · exact hh
        · exact hh.drew
      have hW := hh1.write (w' := ChangeMaps.setBlock w1 br (.mapIter (some b) since (seen.toArray.push e.born) cl)) (o' := .mapIter (some b) since (seen.toArray.push e.born) cl) (k' := ⟨.iter l since (seen ++ [y.2.2]) cl, true⟩) hgr rfl hbr ⟨b, hb, by rw [h2]; simp⟩ rfl rfl rfl rfl
      refine ⟨.tuple #[.bool true, e.key, e.val], _, .inl (by simp [execOp, ho, hrun']), _, _, _, _, ρ, hmem, Env.Le.refl ρ, ?_, hW, hc⟩
      simp only [AVal.den, AVal.denL, BT.den, h3, h4, Option.map_some]
end Go.Vm
end

/-
  A machine for abstract states over the model (part 45): two arrays of known words are compared.
-/
section
namespace Go.Vm

section
variable {P : Program} (w : World)
theorem run_equalIn_lits (d : Nat) (t e : TypeId) (n : Nat) (ht : P.underlying t = some (.array n e)) (he : P.underlying e = some (.int .u64)) (hsz : ∀ w, (sizeOf e).run P w = .ok 1 w) (xs ys : List Int) (hx : xs.length = n) (hy : ys.length = n) :
    (Op.equalIn (d + 2) t (.agg (xs.map (Value.int .u64)).toArray) (.agg (ys.map (Value.int .u64)).toArray)).run P w = .ok ((List.range' 0 n 1).all fun i => xs.getD i 0 == ys.getD i 0) w := by
  rw [Op.equalIn]
  simp only [Sem.run_bind, run_underlying ht, Result.andThen_ok, hsz, Std.Legacy.Range.forIn_eq_forIn_range', Std.Legacy.Range.size, Nat.sub_zero, Nat.add_sub_cancel, Nat.div_one]
  have hl : ∀ i ∈ List.range' 0 n 1, i < n := fun i hi => by simpa using (List.mem_range'_1.1 hi).2
  generalize List.range' 0 n 1 = l at hl ⊢
  induction l with
  | nil => simp
  | cons i l ih =>
    have hi : i < n := hl i (by simp)
    have px : ∀ zs : List Int, zs.length = n → (part e (zs.map (Value.int .u64)).toArray (i * 1)).run P w = .ok (.int .u64 (zs.getD i 0)) w := fun zs hz => by
      simp [part, isAgg, run_underlying he, List.getD, List.getElem?_eq_getElem (show i < zs.length by omega)]
    have pe : (Op.equalIn (d + 1) e (.int .u64 (xs.getD i 0)) (.int .u64 (ys.getD i 0))).run P w = .ok (xs.getD i 0 == ys.getD i 0) w := by
      rw [run_equalIn_int w d e .u64 .u64 _ _ he]
    simp only [List.forIn_cons, Sem.run_bind, px xs hx, px ys hy, pe, Result.andThen_ok, List.all_cons]
    cases hb : (xs.getD i 0 == ys.getD i 0) with
    | true =>
      simp only [Bool.not_true, Bool.false_eq_true, if_false, Sem.run_pure, Result.andThen_ok, Bool.true_and]
      exact ih fun j hj => hl j (by simp [hj])
    | false =>
      simp
end
def litsU : List AVal → Option (List Int)
  | [] => some []
  | .int .u64 (.lit a) :: r => (litsU r).map (a :: ·)
  | _ => none
theorem litsU_den {ρ : Env} : ∀ {l : List AVal} {L : List Int}, litsU l = some L → AVal.denL ρ l = some (L.map (Value.int .u64))
  | [], L, h => by cases h; rfl
  | a :: l, L, h => by
    unfold litsU at h
    split at h
    · rename_i e; cases e
    · rename_i z r e
      cases e
      obtain ⟨M, hM, rfl⟩ := Option.map_eq_some_iff.1 h
      simp only [AVal.denL, litsU_den hM, AVal.den, IT.den, Option.map_some, List.map_cons]
    · cases h
def allEq (n : Nat) (xs ys : List Int) : Bool := (List.range' 0 n 1).all fun i => xs.getD i 0 == ys.getD i 0
def hkEqL (t n : Nat) : OpF := fun o ev H nl cs => match o with
  | .binOp .eql t' x y _ => cond (Nat.beq t' t) (match ev x, ev y with
    | some (.agg xs), some (.agg ys) => match litsU xs, litsU ys with
      | some L, some M => cond (Nat.beq L.length n && Nat.beq M.length n) (some [.ret (.bool (.lit (allEq n L M))) H nl cs]) none
      | _, _ => none
    | _, _ => none) none
  | _ => none
theorem hkEqL_ok {P : Program} {β : Base} {t e : TypeId} {n : Nat} (ht : P.underlying t = some (.array n e)) (he : P.underlying e = some (.int .u64)) (hi : (P.info? e).map (·.size) = some 1) (hg : P.eqGuardType P.depth t = false) : HookOk P β (hkEqL t n) := by
  intro o ev H nl cs ls ρ w f h hev hh hc _
  unfold hkEqL at h
  split at h
  rotate_left
  · cases h
  rename_i t' x y gg ho
  cases hb : Nat.beq t' t with
  | false => rw [hb] at h; cases h
  | true =>
    rw [hb] at h; simp only [cond_true] at h
    obtain rfl := Nat.eq_of_beq_eq_true hb
    split at h
    rotate_left
    · cases h
    rename_i xs ys hx hy
    split at h
    rotate_left
    · cases h
    rename_i L M hL hM
    cases hb : (Nat.beq L.length n && Nat.beq M.length n) with
    | false => rw [hb] at h; cases h
    | true =>
      rw [hb] at h; simp only [cond_true, Option.some.injEq] at h
      subst h
      simp only [Bool.and_eq_true] at hb
      have hn := Nat.eq_of_beq_eq_true hb.1
      have hm := Nat.eq_of_beq_eq_true hb.2
      have d1 := hev x _ hx
      have d2 := hev y _ hy
      simp only [AVal.den, litsU_den hL, litsU_den hM, Option.map_some, Option.some.injEq] at d1 d2
      obtain ⟨i, hi1, hi2⟩ := Option.map_eq_some_iff.1 hi
      have hsz : ∀ w, (sizeOf e).run P w = .ok 1 w := fun w => by rw [run_size hi1, hi2]
      have hrun := run_equalIn_lits (P := P) w 9998 t' e n ht he hsz L M hn hm
      refine ⟨.bool (allEq n L M), w, .inl ?_, _, _, _, _, ρ, List.mem_cons_self, Env.Le.refl ρ, rfl, hh, hc⟩
      have hq : (do eqGuard .eql t' x y (f x) (f y); binOp .eql t' (f x) (f y) : Sem Value).run P w = .ok (.bool (allEq n L M)) w := by
        rw [← d1, ← d2]
        simp only [Sem.run_bind, run_eqGuard_agg w _ _ _ _ _ _ hg, Result.andThen_ok, run_eql_struct, hrun]
        rfl
      simp only [execOp, ho, Sem.run_bind, Sem.run_pure] at hq ⊢
      rw [hq]; rfl
/-- One, or else the other. -/
def orH (a b : OpF) : OpF := fun o ev H nl cs => match a o ev H nl cs with
  | some ls => some ls
  | none => b o ev H nl cs
theorem orH_ok {P : Program} {β : Base} {a b : OpF} (ha : HookOk P β a) (hb : HookOk P β b) : HookOk P β (orH a b) := by
  intro o ev H nl cs ls ρ w f h he hh hc hd
  unfold orH at h
  split at h
  · rename_i l hl; cases h; exact ha o ev H nl cs _ ρ w f hl he hh hc hd
  · exact hb o ev H nl cs _ ρ w f h he hh hc hd
end Go.Vm
end

/-
  A machine for abstract states over the model (part 46): how much room a slice has.
-/
section
namespace Go.Vm

def hkCap (P : Program) : OpF := fun o ev H nl cs => match o with
  | .call { callee := .builtin .cap, args, argTypes } => match args.toList, argTypes.toList with
    | [x], [t] => match P.underlying t, ev x with
      | some (.slice _), some .sliceNil => some [.ret (.int .i64 (.lit 0)) H nl cs]
      | some (.slice _), some (.slice _ _ _ c) => some [.ret (.int .i64 c) H nl cs]
      | _, _ => none
    | _, _ => none
  | _ => none
theorem hkCap_ok {P : Program} {β : Base} : HookOk P β (hkCap P) := by
  intro o ev H nl cs ls ρ w f h he hh hc _
  unfold hkCap at h
  split at h
  rotate_left
  · cases h
  rename_i args tys ho
  split at h
  rotate_left
  · cases h
  rename_i x t hargs htys
  have ha : args.map f = #[f x] := by apply Array.toList_inj.1; simp [hargs]
  have ht : tys = #[t] := by apply Array.toList_inj.1; simp [htys]
  subst ht
  split at h
  · rename_i e hu hx
    cases h
    have hfx := he x _ hx
    simp only [AVal.den, Option.some.injEq] at hfx
    refine ⟨_, w, .inl ?_, .int .i64 (.lit 0), H, nl, cs, ρ, List.mem_cons_self, Env.Le.refl ρ, rfl, hh, hc⟩
    simp [execOp, ho, resolve, invoke, builtin, ha, ← hfx, Builtin.cap_, run_und hu, goInt]
  · rename_i e l q n c hu hx
    cases h
    obtain ⟨b, oo, m, k, hfx, _, _, _, hk⟩ := den_slice (he x _ hx)
    refine ⟨.int .i64 (k : Int), w, .inl ?_, .int .i64 c, H, nl, cs, ρ, List.mem_cons_self, Env.Le.refl ρ, by simp only [AVal.den, hk]; rfl, hh, hc⟩
    simp [execOp, ho, resolve, invoke, builtin, ha, hfx, Builtin.cap_, run_und hu, goInt]
  · cases h
end Go.Vm
end

/-
  A machine for abstract states over the model (part 47): calls at one known state, of which only a part is told.
-/
section
namespace Go.Vm

def delL : List (Nat × HB) → Heap → Heap
  | [], H => H
  | p :: r, H => delL r (H.del p.1)
def setL : List (Nat × HB) → Heap → Heap
  | [], H => H
  | p :: r, H => setL r (H.set p.1 p.2)
theorem delL_get : ∀ {L : List (Nat × HB)} {H : Heap} {l : Nat} {k : HB}, (delL L H).get l = some k → H.get l = some k ∧ ∀ p ∈ L, p.1 ≠ l
  | [], H, l, k, h => ⟨h, fun _ hp => by cases hp⟩
  | p :: r, H, l, k, h => by
    obtain ⟨h1, h2⟩ := delL_get (L := r) h
    obtain ⟨hne, h3⟩ := Tr.get_del h1
    refine ⟨h3, fun q hq => ?_⟩
    rcases List.mem_cons.1 hq with rfl | hq
    · exact fun e => hne e.symm
    · exact h2 q hq
theorem setL_get : ∀ {L : List (Nat × HB)} {H : Heap} {l : Nat} {k : HB}, (setL L H).get l = some k → (l, k) ∈ L ∨ (H.get l = some k ∧ ∀ p ∈ L, p.1 ≠ l)
  | [], H, l, k, h => .inr ⟨h, fun _ hp => by cases hp⟩
  | p :: r, H, l, k, h => by
    rcases setL_get (L := r) h with h1 | ⟨h1, h2⟩
    · exact .inl (List.mem_cons_of_mem _ h1)
    · rcases Tr.get_set h1 with ⟨rfl, rfl⟩ | ⟨hne, h3⟩
      · exact .inl List.mem_cons_self
      · refine .inr ⟨h3, fun q hq => ?_⟩
        rcases List.mem_cons.1 hq with rfl | hq
        · exact fun e => hne e.symm
        · exact h2 q hq
/-- All may be written, none is an object of many blocks. -/
def allRw (L : List (Nat × HB)) : Bool := L.all fun p => p.2.rw && p.2.k.nb
theorem hasB_mem {L : List (Nat × HB)} {H : Heap} (h : hasB L H = true) {l : Nat} {k : HB} (hm : (l, k) ∈ L) : H.get l = some k := by
  have h1 := List.all_eq_true.1 h _ hm
  simp only at h1
  split at h1
  · rename_i y hy
    rw [hy, HB.beq_eq h1]
  · cases h1
/-- What of a state a call asks for is there. -/
def Clo.atF (x : Clo) (g : FuncId) (args : List AVal) (H : Heap) (nl : Nat) (cs : Cs) : Bool := Nat.beq g x.g && Nat.beq nl x.nl && List.isEmpty cs && AVal.beqL args x.args && hasB x.h H
def spFf : List Clo → FuncId → List AVal → Heap → Nat → Cs → Option (List Leaf)
  | [], _, _, _, _, _ => none
  | x :: r, g, args, H, nl, cs => cond (x.atF g args H nl cs) (some [.ret x.u (setL x.h' (delL x.h H)) x.nl' []]) (spFf r g args H nl cs)
def CloF (P : Program) (x : Clo) : Prop := ∀ ρ w own xs, AVal.denL ρ x.args = some xs → HRel ⟨w, own, fun _ _ _ _ _ => True⟩ ρ (ofP x.h) x.nl w →
  Calls P x.g xs.toArray w (fun e w' => ∃ v, e = .returned v ∧ ∃ ρ', ρ.Le ρ' ∧ x.u.den ρ' = some v ∧ HRel ⟨w, own, fun _ _ _ _ _ => True⟩ ρ' (ofP x.h') x.nl' w')
/-- What is asked of such a text. -/
def Clo.okF (x : Clo) : Bool := allRw x.h && (allRw x.h' && (hasB x.h' (ofP x.h') && hasB x.h (ofP x.h)))

section
variable {β : Base} {ρ ρ' : Env} {H : Heap} {nl : Nat} {w w' : World}
/-- A part of a state turns into another one. -/
theorem HRel.part (h : HRel β ρ H nl w) {x : Clo} (hx : x.okF = true) (hh : hasB x.h H = true) (hle : ρ.Le ρ') {nl' : Nat}
    (h' : HRel ⟨w, fun y => ∃ l k, (l, k) ∈ x.h ∧ ρ.N l = some y, fun _ _ _ _ _ => True⟩ ρ' (ofP x.h') nl' w') : HRel β ρ' (setL x.h' (delL x.h H)) nl' w' := by
  simp only [Clo.okF, Bool.and_eq_true, allRw, List.all_eq_true] at hx
  obtain ⟨a1, a2, a3, a4⟩ := hx
  have own : ∀ {y}, (∃ l k, (l, k) ∈ x.h ∧ ρ.N l = some y) → β.dom y := fun {y} ⟨l, k, hm, hn⟩ => h.own l k y (hasB_mem hh hm) (a1 _ hm).1 hn
  -- where the parts come from
  have cases2 : ∀ {l k}, (setL x.h' (delL x.h H)).get l = some k → ((l, k) ∈ x.h' ∧ (ofP x.h').get l = some k) ∨ (H.get l = some k ∧ ∀ p ∈ x.h, p.1 ≠ l) := fun {l k} hl => by
    rcases setL_get hl with h1 | ⟨h1, _⟩
    · exact .inl ⟨h1, hasB_mem a3 h1⟩
    · exact .inr (delL_get h1)
  have hlt : ∀ {l k b}, H.get l = some k → ρ.N l = some b → b < w.heap.size := fun h1 h2 => h.lt h1 h2
  have outN : ∀ {l k}, H.get l = some k → ∃ b, ρ.N l = some b ∧ ρ'.N l = some b := fun {l k} hl => by
    obtain ⟨b, _, hb, _⟩ := h.blk l k hl
    exact ⟨b, hb, hle.n _ _ hb⟩
  -- what lies outside isn't given away
  have notown : ∀ {l k b}, H.get l = some k → (∀ p ∈ x.h, p.1 ≠ l) → ρ.N l = some b → ¬ ∃ l k, (l, k) ∈ x.h ∧ ρ.N l = some b := fun {l k b} hl hn hb ⟨l2, k2, hm, hb2⟩ =>
    hn _ hm (h.inj l2 l k2 k (hasB_mem hh hm) hl (a1 _ hm).1 (hb2.trans hb.symm))
  have same : ∀ {y}, y < w.heap.size → (¬ ∃ l k, (l, k) ∈ x.h ∧ ρ.N l = some y) → w'.heap[y]? = w.heap[y]? := fun {y} hy hn => h'.frame y hy hn
  have inDom : ∀ {l k b}, (l, k) ∈ x.h' → (ofP x.h').get l = some k → ρ'.N l = some b → w.heap.size ≤ b ∨ ∃ l k, (l, k) ∈ x.h ∧ ρ.N l = some b := fun {l k b} hm hg hb => h'.own l k b hg (a2 _ hm).1 hb
  have mixed : ∀ {l k l2 k2}, (l, k) ∈ x.h' → (ofP x.h').get l = some k → H.get l2 = some k2 → (∀ p ∈ x.h, p.1 ≠ l2) → ρ'.N l ≠ ρ'.N l2 := fun {l k l2 k2} hm hg h2 hn e => by
    obtain ⟨b, hb, hb'⟩ := outN h2
    rw [hb'] at e
    rcases inDom hm hg e with h1 | h1
    · have := hlt h2 hb; omega
    · exact notown h2 hn hb h1
  obtain ⟨Fp, hB⟩ := h.big
  refine ⟨fun l k hl => ?_, fun l l2 k k2 hl hl2 hr he => ?_, fun l k b hl hr hb => ?_, h'.fresh, h'.ownN, Nat.le_trans h.size h'.size, fun b hb hno => ?_, h'.tape.trans h.tape, h'.os.trans h.os, h'.out.trans h.out, ?_, Fp, ⟨fun l k c rw hl => ?_, fun l l2 k c rw k2 hl hl2 hne y hy => ?_⟩⟩
  · rcases cases2 hl with ⟨_, hg⟩ | ⟨hg, hn⟩
    · exact h'.blk l k hg
    · obtain ⟨b, o, hb, ho, hk⟩ := h.blk l k hg
      exact ⟨b, o, hle.n _ _ hb, by rw [same (hlt hg hb) (notown hg hn hb)]; exact ho, ABlk.rel_mono hle hk⟩
  · rcases cases2 hl with ⟨hm, hg⟩ | ⟨hg, hn⟩
    · rcases cases2 hl2 with ⟨hm2, hg2⟩ | ⟨hg2, hn2⟩
      · exact h'.inj _ _ _ _ hg hg2 hr he
      · exact absurd he (mixed hm hg hg2 hn2)
    · rcases cases2 hl2 with ⟨hm2, hg2⟩ | ⟨hg2, hn2⟩
      · exact absurd he.symm (mixed hm2 hg2 hg hn)
      · obtain ⟨b, hb, hb'⟩ := outN hg
        obtain ⟨b2, hb2, hb2'⟩ := outN hg2
        rw [hb', hb2'] at he
        exact h.inj _ _ _ _ hg hg2 hr (by rw [hb, hb2, he])
  · rcases cases2 hl with ⟨hm, hg⟩ | ⟨hg, hn⟩
    · rcases inDom hm hg hb with h1 | h1
      · exact .inl (Nat.le_trans h.size h1)
      · exact own h1
    · obtain ⟨b2, hb2, hb2'⟩ := outN hg
      rw [hb] at hb2'; cases hb2'
      exact h.own _ _ _ hg hr hb2
  · rw [same (Nat.lt_of_lt_of_le hb h.size) (fun hF => (own hF).elim (fun e => by omega) hno)]
    exact h.frame b hb hno
  · rw [hle.i, hle.b, hle.s, hle.v, hle.f]; exact h.g
  · rcases cases2 hl with ⟨hm, _⟩ | ⟨hg, hn⟩
    · have := (a2 _ hm).2; cases this
    · obtain ⟨b, z, e1, e2, e3, e4⟩ := hB.ok _ _ _ _ hg
      refine ⟨b, z, hle.n _ _ e1, IT.den_mono hle e2, fam_local e3 fun y hy => same (fam_lt e3 hy) ?_, e4⟩
      rintro ⟨l2, k2, hm, hb2⟩
      exact (hB.apart _ _ _ _ _ _ hg (hasB_mem hh hm) (fun e => hn _ hm e.symm) y hy).1 hb2
  · rcases cases2 hl with ⟨hm, _⟩ | ⟨hg, hn⟩
    · have := (a2 _ hm).2; cases this
    · obtain ⟨b, z, e1, e2, e3, e4⟩ := hB.ok _ _ _ _ hg
      rcases cases2 hl2 with ⟨hm2, hg2⟩ | ⟨hg2, hn2⟩
      · refine ⟨fun e => ?_, fun hnb => by have := (a2 _ hm2).2; rw [hnb] at this; cases this⟩
        rcases inDom hm2 hg2 e with h1 | ⟨l3, k3, hm3, hb3⟩
        · have := fam_lt e3 hy; omega
        · exact (hB.apart _ _ _ _ _ _ hg (hasB_mem hh hm3) (fun e => hn _ hm3 e.symm) y hy).1 hb3
      · obtain ⟨q1, q2⟩ := hB.apart _ _ _ _ _ _ hg hg2 hne y hy
        obtain ⟨b2, hb2, hb2'⟩ := outN hg2
        exact ⟨fun e => q1 (by rw [hb2, ← hb2', e]), q2⟩
theorem HRel.partOf (h : HRel β ρ H nl w) {x : Clo} (hx : x.okF = true) (hh : hasB x.h H = true) : HRel ⟨w, fun y => ∃ l k, (l, k) ∈ x.h ∧ ρ.N l = some y, fun _ _ _ _ _ => True⟩ ρ (ofP x.h) nl w := by
  simp only [Clo.okF, Bool.and_eq_true, allRw, List.all_eq_true] at hx
  obtain ⟨a1, a2, a3, a4⟩ := hx
  refine HRel.owned x.h (fun p hp => ?_) (fun p hp q hq hr he => ?_) (fun p hp hr b hb => ⟨p.1, p.2, hp, hb⟩) h.fresh trivial (List.all_eq_true.2 fun p hp => (a1 p hp).2) h.ownN
  · obtain ⟨b, o, hb, ho, hk⟩ := h.blk p.1 p.2 (hasB_mem hh hp)
    exact ⟨b, o, hb, ho, hk⟩
  · exact h.inj _ _ _ _ (hasB_mem hh hp) (hasB_mem hh hq) hr he
end
theorem spFf_ok {P : Program} {β : Base} : ∀ {L : List Clo}, (∀ x ∈ L, x.okF = true ∧ CloF P x) → FnOk P β (spFf L)
  | [], _ => fun _ _ _ _ _ _ _ _ _ h => by cases h
  | x :: r, hL => by
    intro g args H nl cs ls ρ w xs h hx hr hc hd
    simp only [spFf] at h
    cases hb : x.atF g args H nl cs with
    | false =>
      rw [hb] at h
      exact spFf_ok (fun y hy => hL y (List.mem_cons_of_mem _ hy)) g args H nl cs ls ρ w xs h hx hr hc hd
    | true =>
      rw [hb] at h
      simp only [cond_true, Option.some.injEq] at h
      simp only [Clo.atF, Bool.and_eq_true] at hb
      obtain ⟨⟨⟨⟨b1, b2⟩, b3⟩, b4⟩, b5⟩ := hb
      obtain rfl := Nat.eq_of_beq_eq_true b1
      obtain rfl := Nat.eq_of_beq_eq_true b2
      obtain rfl := AVal.beqL_eq _ _ b4
      have hcs : cs = [] := List.isEmpty_iff.1 b3
      subst hcs
      obtain ⟨ok, hcl⟩ := hL x List.mem_cons_self
      refine (hcl ρ w _ xs hx (hr.partOf ok b5)).mono fun e w' ⟨v, hv, ρ', hle, hu, hr'⟩ => ⟨v, hv, x.u, _, x.nl', [], ρ', ?_, hle, hu, hr.part ok b5 hle hr', fun _ hq => by cases hq⟩
      rw [← h]; exact List.mem_cons_self
theorem cloF_of_run {P : Program} (hc : NoCount P) {E : Exts} (hE : ExtOk P E) {sp : CallF} (hsp : ∀ β, CallOk P β sp) (hm : P.follows .mixedOrders = true) {x : Clo} {n : Nat} {fn : Func} {c : Code} (hf : P.funcs[x.g]? = some fn) (hb : fn.body = some c)
    (hrun : (run P E sp n false x.g (entry fn c x.args (ofP x.h) x.nl [])).map x.ends = some true) : CloF P x := by
  intro ρ w own xs hx hr
  obtain ⟨ls, hls, he⟩ := Option.map_eq_some_iff.1 hrun
  obtain ⟨H, rfl, hb2⟩ := Clo.ends_eq he
  refine run_calls hc hE (hsp _) hm hf hb hls hx hr (fun _ h => by cases h) (R := fun v w' => ∃ ρ', ρ.Le ρ' ∧ x.u.den ρ' = some v ∧ HRel ⟨w, own, fun _ _ _ _ _ => True⟩ ρ' (ofP x.h') x.nl' w') (fun l hl => ?_)
  obtain rfl := List.mem_singleton.1 hl
  exact fun ρ' w' v hle hv hr' _ => ⟨ρ', hle, hv, hr'.sub fun _ _ h => hasB_get hb2 h⟩
theorem cloT_of_run {P : Program} (hc : NoCount P) {E : Exts} (hE : ExtOk P E) {sp : CallF} (hsp : ∀ β, CallOk P β sp) (hm : P.follows .mixedOrders = true) {x : Clo} {n : Nat} {fn : Func} {c : Code} (hf : P.funcs[x.g]? = some fn) (hb : fn.body = some c)
    (hrun : (run P E sp n false x.g (entry fn c x.args (ofP x.h) x.nl [])).map (fun ls => x.ends (thin x.nl ls)) = some true) : CloF P x := by
  intro ρ w own xs hx hr
  obtain ⟨ls, hls, he⟩ := Option.map_eq_some_iff.1 hrun
  obtain ⟨H, hth, hb2⟩ := Clo.ends_eq he
  have hgood := thin_ok (P := P) (β := ⟨w, own, fun _ _ _ _ _ => True⟩) (lo := x.nl) (ls := ls) (f := x.g) (ro := none) hr.fresh hr.ownN (fun l hl => by
    rw [hth, List.mem_singleton] at hl
    subst hl; trivial)
  refine (calls_of_goes hf hb (runX_sound hc hE (hsp _) hm n {} none false x.g _ ls ρ _ w _ hls (entry_ok hx hr (fun _ h => by cases h)) (fun _ h => by cases h) trivial hgood)).mono fun e w' ⟨v, hv, u, H', nl', cs', ρ', hmem, hle, hu, hr', hcs⟩ => ?_
  rw [hth, List.mem_singleton] at hmem
  cases hmem
  exact ⟨v, hv, ρ', hle, hu, hr'.sub fun _ _ h => hasB_get hb2 h⟩
end Go.Vm
end
