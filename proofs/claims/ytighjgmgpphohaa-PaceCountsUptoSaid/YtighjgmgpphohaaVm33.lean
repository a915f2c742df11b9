/- A machine for abstract states over the model (part 30): blocks that a call has laid are taken over, one by one. -/
import Derived.Test.YtighjgmgpphohaaLp1
section
namespace Go.Vm
structure HX (β : Base) (ρ : Env) (H : Heap) (nl : Nat) (w : World) (s : Nat) (A : Nat -> Prop) : Prop where
 h : HRel β ρ H nl w
 bl : ∀ l k b, H.get l = some k -> ρ.N l = some b -> b < s ∨ A b
 bg : ∃ Fp, BigAt ρ H β.dom w Fp /\ ∀ l k c rw y, H.get l = some ⟨.big k c, rw⟩ -> Fp l y -> y < s ∨ A y
 le : β.w0.heap.size <= s
section
variable {β : Base} {ρ : Env} {H : Heap} {nl : Nat} {w w' : World} {s : Nat} {A : Nat -> Prop}
end
end Go.Vm
end
section
namespace Go.Vm
section
variable {β : Base} {ρ : Env} {H : Heap} {nl : Nat} {w : World}
theorem HRel.bigGive (h : HRel β ρ H nl w) {l k r : Nat} {c : IT} {kb : ABlk} (hl : H.get l = some ⟨.big k c, true⟩) (hr : H.get r = some ⟨kb, true⟩) (hnb : kb.nb = true) :
 ∃ b x F y0 o, ρ.N l = some b /\ c.den ρ = some x /\ fam k x w b F /\ ρ.N r = some y0 /\ w.heap[y0]? = some o /\ kb.rel ρ true o /\ ¬ F y0 /\ ∀ {w' : World} {k' : Nat} {c' : IT} {x' : Int} {F' : Nat -> Prop}, BigStep w w' F (fun y => F' y /\ y ≠ y0) -> fam k' x' w' b F' -> c'.den ρ = some x' ->
  HRel β ρ ((H.del r).set l ⟨.big k' c', true⟩) nl w' := by
 obtain ⟨Fp, hB⟩ := h.big
 obtain ⟨b, x, hN, hx, hf, h0⟩ := hB.ok _ _ _ _ hl
 obtain ⟨y0, o, hNr, ho, hrel⟩ := h.blk r _ hr
 have hlr : l ≠ r := fun e => by
  subst e; rw [hl] at hr; cases hr; cases hnb
 have hF0 : ¬ Fp l y0 := fun e => (hB.apart _ _ _ _ _ _ hl hr hlr y0 e).1 hNr
 refine ⟨b, x, Fp l, y0, o, hN, hx, hf, hNr, ho, hrel, hF0, fun {w' k' c' x' F'} s hf' hx' => ?_⟩
 have h0 := h0 rfl
 have hlt : ∀ {l1 k1 b1}, H.get l1 = some k1 -> ρ.N l1 = some b1 -> b1 < w.heap.size := fun h1 h2 => h.lt h1 h2
 have apart1 : ∀ {l1 k1}, H.get l1 = some k1 -> l1 ≠ l -> ∀ {y}, ρ.N l1 = some y -> ¬ Fp l y := fun {_ _} h1 hne {y} hy hF => (hB.apart _ _ _ _ _ _ hl h1 (Ne.symm hne) y hF).1 hy
 have y0ge : β.dom y0 := h.own r _ y0 hr rfl hNr
 have other0 : ∀ {l1 k1}, H.get l1 = some k1 -> r ≠ l1 -> ρ.N l1 ≠ some y0 := fun {l1 k1} h1 hne e => hne (h.inj r l1 _ _ hr h1 rfl (hNr.trans e.symm))
 have big0 : ∀ {l1 k1 c1 rw1}, H.get l1 = some ⟨.big k1 c1, rw1⟩ -> l1 ≠ r -> ¬ Fp l1 y0 := fun {_ _ _ _} h1 hne e => (hB.apart _ _ _ _ _ _ h1 hr hne y0 e).1 hNr
 have subF : ∀ {y}, F' y -> Fp l y ∨ y = y0 ∨ w.heap.size <= y := fun {y} hy => by
  by_cases e : y = y0
  · exact .inr (.inl e)
  · exact (s.sub y ⟨hy, e⟩).elim .inl fun h => .inr (.inr h)
 have old : ∀ {l1 k1 c1 rw1}, H.get l1 = some ⟨.big k1 c1, rw1⟩ -> ∀ {y}, Fp l1 y -> y < w.heap.size := fun {_ _ _ _} h1 {y} hy => by
  obtain ⟨_, _, _, _, e3, _⟩ := hB.ok _ _ _ _ h1
  exact fam_lt e3 hy
 refine ⟨fun l1 k1 h1 => ?_, fun l1 l2 k1 k2 h1 h2 hr1 he => ?_, fun l1 k1 b1 h1 hr1 hb1 => ?_, h.fresh, h.ownN, Nat.le_trans h.size s.size, fun y hy hn => ?_, s.tape.trans h.tape, s.os.trans h.os, s.out.trans h.out, h.g, fun l1 => if l1 = l then F' else Fp l1, ⟨fun l1 k1 c1 rw1 h1 => ?_, fun l1 l2 k1 c1 rw1 h' h1 h2 hne y hy => ?_⟩⟩
 · rcases Tr.get_set h1 with ⟨rfl, rfl⟩ | ⟨hne, h1⟩
   · have := fam_lt hf' (fam_root hf')
     exact ⟨b, w'.heap[b], hN, Array.getElem?_eq_getElem this, x', hx'⟩
   · have h1 := (Tr.get_del h1).2
     obtain ⟨b1, o1, hb1, ho1, hk⟩ := h.blk l1 k1 h1
     exact ⟨b1, o1, hb1, by rw [s.same b1 (hlt h1 hb1) (apart1 h1 hne hb1)]; exact ho1, hk⟩
 · rcases Tr.get_set h1 with ⟨e1, e2⟩ | ⟨hne1, g1⟩
   · rcases Tr.get_set h2 with ⟨e3, e4⟩ | ⟨hne2, g2⟩
     · rw [e1, e3]
     · rw [e1]; rw [e1] at he; exact h.inj _ _ _ _ hl (Tr.get_del g2).2 rfl he
   · rcases Tr.get_set h2 with ⟨e3, e4⟩ | ⟨hne2, g2⟩
     · rw [e3]; rw [e3] at he; exact (h.inj _ _ _ _ hl (Tr.get_del g1).2 rfl he.symm).symm
     · exact h.inj _ _ _ _ (Tr.get_del g1).2 (Tr.get_del g2).2 hr1 he
 · rcases Tr.get_set h1 with ⟨rfl, rfl⟩ | ⟨hne, h1⟩
   · exact h.own _ _ b1 hl rfl hb1
   · exact h.own l1 k1 b1 (Tr.get_del h1).2 hr1 hb1
 · rw [s.same y (Nat.lt_of_lt_of_le hy h.size) (fun hF => (h0 y hF).elim (fun e => by omega) hn)]
   exact h.frame y hy hn
 · rcases Tr.get_set h1 with ⟨rfl, e⟩ | ⟨hne, h1⟩
   · cases e
     simp only [if_true]
     refine ⟨b, x', hN, hx', hf', fun _ y hy => ?_⟩
     rcases subF hy with h2 | rfl | h2
     · exact h0 y h2
     · exact y0ge
     · exact .inl (Nat.le_trans h.size h2)
   · simp only [if_neg hne]
     have h1 := (Tr.get_del h1).2
     obtain ⟨b1, x1, e1, e2, e3, e4⟩ := hB.ok _ _ _ _ h1
     exact ⟨b1, x1, e1, e2, fam_local e3 fun y hy => s.same y (fam_lt e3 hy) (fun hF => (hB.apart _ _ _ _ _ _ hl h1 (Ne.symm hne) y hF).2 rfl hy), e4⟩
 · rcases Tr.get_set h1 with ⟨rfl, e⟩ | ⟨hne1, g1⟩
   · rcases Tr.get_set h2 with ⟨e3, _⟩ | ⟨hne2, g2⟩
     · exact absurd e3.symm hne
     · obtain ⟨hr2, g2⟩ := Tr.get_del g2
       simp only [if_true] at hy
       rw [if_neg hne2]
       rcases subF hy with hF | rfl | hge
       · exact hB.apart _ _ _ _ _ _ hl g2 hne y hF
       · refine ⟨other0 g2 (fun e => hr2 e.symm), fun hnb2 hy2 => ?_⟩
         obtain ⟨n, c2, hk⟩ := ABlk.nb_of hnb2
         obtain ⟨hk', r'⟩ := h'
         simp only at hk; subst hk
         exact big0 g2 hr2 hy2
       · refine ⟨fun e => by have := hlt g2 e; omega, fun hnb2 hy2 => ?_⟩
         obtain ⟨n, c2, hk⟩ := ABlk.nb_of hnb2
         obtain ⟨hk', r'⟩ := h'
         simp only at hk; subst hk
         have := old g2 hy2; omega
   · simp only [if_neg hne1] at hy
     obtain ⟨hr1, g1⟩ := Tr.get_del g1
     rcases Tr.get_set h2 with ⟨rfl, e⟩ | ⟨hne2, g2⟩
     · cases e
       obtain ⟨a1, a2⟩ := hB.apart _ _ _ _ _ _ g1 hl hne y hy
       refine ⟨a1, fun _ hy2 => ?_⟩
       simp only [if_true] at hy2
       rcases subF hy2 with hF | rfl | hge
       · exact a2 rfl hF
       · exact big0 g1 hr1 hy
       · have := old g1 hy; omega
     · rw [if_neg hne2]
       exact hB.apart _ _ _ _ _ _ g1 (Tr.get_del g2).2 hne y hy
end
end Go.Vm
end
section
namespace Go.Vm
abbrev Kvs := List (Int × Value)
def gets : Kvs -> Int -> Option Value
 | [], _ => none
 | (a, v) :: r, k => if a = k then some v else gets r k
def puts : Kvs -> Int -> Value -> Kvs
 | [], k, y => [(k, y)]
 | (a, v) :: r, k, y => if a = k then (k, y) :: r else (a, v) :: puts r k y
def dels : Kvs -> Int -> Kvs
 | [], _ => []
 | (a, v) :: r, k => if a = k then r else (a, v) :: dels r k
def kvI (p : Int × Value) : Value × Value := (.int .i64 p.1, p.2)
def MapAt (w : World) (b : Nat) (l : Kvs) : Prop := ∃ es cl, w.heap[b]? = some (.map es cl) /\ es.toList.map kvOf = l.map kvI /\ Born es cl
theorem findG (k0 : IntKind) (k : Int) : ∀ {xs : List MapEntry} {l : Kvs} (i : Nat), xs.map kvOf = l.map kvI ->
 (gets l k = none -> Instr.findNow (.int k0) (.int .i64 k) xs i = some none /\ ∀ y, puts l k y = l ++ [(k, y)]) ∧
 (∀ v, gets l k = some v -> ∃ j bn, Instr.findNow (.int k0) (.int .i64 k) xs i = some (some (i + j, v)) /\ xs[j]? = some ⟨.int .i64 k, v, bn⟩ ∧
  (∀ y bn', (xs.set j ⟨.int .i64 k, y, bn'⟩).map kvOf = (puts l k y).map kvI) /\ (xs.eraseIdx j).map kvOf = (dels l k).map kvI)
 | [], [], i, _ => ⟨fun _ => ⟨rfl, fun _ => rfl⟩, fun v e => by cases e⟩
 | [], _ :: _, _, h => by cases h
 | _ :: _, [], _, h => by cases h
 | e :: xs, (a, v0) :: r, i, h => by
  simp only [List.map_cons, List.cons.injEq] at h
  obtain ⟨h1, h2⟩ := h
  obtain ⟨ek, ev, bn⟩ := e
  simp only [kvOf, kvI, Prod.mk.injEq] at h1
  obtain ⟨rfl, rfl⟩ := h1
  by_cases hk : a = k
  · subst hk
    refine ⟨fun e => by simp [gets] at e, fun v e => ?_⟩
    simp only [gets, if_true, Option.some.injEq] at e
    subst e
    refine ⟨0, bn, by simp [Instr.findNow, Instr.sameNow], rfl, fun y bn' => ?_, ?_⟩
    · simp only [List.set_cons_zero, List.map_cons, kvOf, kvI, puts, if_true, <- h2]
    · simp only [List.eraseIdx_cons_zero, dels, if_true, h2]
  · obtain ⟨g1, g2⟩ := findG k0 k (i + 1) h2
    have hne : (k == a) = false := by
     rw [Bool.eq_false_iff]; intro e; exact hk (by simpa using e : k = a).symm
    have hs : Instr.sameNow (.int k0) (.int .i64 k) (.int .i64 a) = some false := by
     simp only [Instr.sameNow, if_true, hne]
    refine ⟨fun e => ?_, fun v e => ?_⟩
    · simp only [gets, if_neg hk] at e
      obtain ⟨q1, q3⟩ := g1 e
      exact ⟨by simp only [Instr.findNow, hs, q1], fun y => by simp only [puts, if_neg hk, q3, List.cons_append]⟩
    · simp only [gets, if_neg hk] at e
      obtain ⟨j, bn0, q1, q2, q3, q4⟩ := g2 v e
      refine ⟨j + 1, bn0, ?_, by simpa using q2, fun y bn' => ?_, ?_⟩
      · simp only [Instr.findNow, hs, q1]
        congr 3; omega
      · simp only [List.set_cons_succ, List.map_cons, kvOf, kvI, puts, if_neg hk]
        rw [<- q3 y bn']
      · simp only [List.eraseIdx_cons_succ, List.map_cons, kvOf, kvI, dels, if_neg hk]
        rw [<- q4]
section
variable {P : Program} {w : World} {b : Nat} {l : Kvs} {t kt et : TypeId} {k0 : IntKind}
theorem MapAt.lookup (h : MapAt w b l) (hu : P.underlying t = some (.map kt et)) (hk : P.underlying kt = some (.int k0)) {u : AVal} (hz : zeroA P et = some u) {z : Value} (hz2 : ∀ ρ, u.den ρ = some z) (k : Int) (c : Bool) :
 (Instr.lookup t (.map (some b)) (.int .i64 k) c).run P w = .ok (if c then .tuple #[(gets l k).getD z, .bool (gets l k).isSome] else (gets l k).getD z) w := by
 obtain ⟨es, cl, hg, he, _⟩ := h
 obtain ⟨zv, hz1, hz3⟩ := zeroA_ok hz
 obtain rfl : zv = z := Option.some.inj ((hz3 ⟨fun _ => 0, fun _ => false, fun _ => default, fun _ => undef, fun _ => none, fun _ _ _ => 0⟩).symm.trans (hz2 _))
 obtain ⟨_, hck⟩ := keyC_ok (P := P) (w := w) (d := .int k0) rfl (x := k)
 have hck' := hck 9999 kt es.isEmpty hk
 obtain ⟨f1, f2⟩ := findG k0 k 0 he
 cases hmg : gets l k with
 | none =>
  obtain ⟨q2, _⟩ := f1 hmg
  cases c <;> simp [Instr.lookup, run_und hu, getObj_map hg, hck', findKey_run hk q2, hz1]
 | some v =>
  obtain ⟨j, bn, q2, _⟩ := f2 v hmg
  cases c <;> simp [Instr.lookup, run_und hu, getObj_map hg, hck', findKey_run hk q2]
theorem MapAt.update (h : MapAt w b l) (hu : P.underlying t = some (.map kt et)) (hk : P.underlying kt = some (.int k0)) (k : Int) (y : Value) :
 ∃ es cl, (Instr.mapUpdate t (.map (some b)) (.int .i64 k) y).run P w = .ok () { w with heap := w.heap.setIfInBounds b (.map es cl) } /\ es.toList.map kvOf = (puts l k y).map kvI /\ Born es cl := by
 obtain ⟨xs, cl, hg, he, hbn⟩ := h
 obtain ⟨_, hck⟩ := keyC_ok (P := P) (w := w) (d := .int k0) rfl (x := k)
 have hck' := hck 9999 kt false hk
 obtain ⟨f1, f2⟩ := findG k0 k 0 he
 cases hmg : gets l k with
 | none =>
  obtain ⟨q2, q3⟩ := f1 hmg
  refine ⟨xs.push ⟨.int .i64 k, y, cl⟩, cl + 1, ?_, ?_, hbn.push⟩
  · simp only [Instr.mapUpdate, Sem.run_bind, run_und hu, Result.andThen_ok, getObj_map hg, hck', findKey_run hk q2, setObj_map hg]
  · rw [q3 y, Array.toList_push, List.map_append, he, List.map_append]; rfl
 | some v =>
  obtain ⟨j, bn, q2, q4, q5, _⟩ := f2 v hmg
  rw [Nat.zero_add] at q2
  have hx? : xs[j]? = some ⟨.int .i64 k, v, bn⟩ := by rw [<- Array.getElem?_toList]; exact q4
  have hm' : (xs.modify j (fun e => { e with key := .int .i64 k, val := y })).toList = xs.toList.set j ⟨.int .i64 k, y, bn⟩ := by
   apply List.ext_getElem?
   intro i
   rw [Array.getElem?_toList, Array.getElem?_modify, List.getElem?_set]
   by_cases hi : j = i
   · subst hi
     have hlt : j < xs.size := (Array.getElem?_eq_some_iff.1 hx?).1
     have hb1 : xs[j].born = bn := by rw [(Array.getElem?_eq_some_iff.1 hx?).2]
     simp [hlt, hb1]
   · simp [hi]
  have hks : (Instr.keyThatStays (.int .i64 k) (.int .i64 k)).run P w = .ok (.int .i64 k) w := by simp [Instr.keyThatStays, Instr.sameBits]
  refine ⟨xs.modify j (fun e => { e with key := .int .i64 k, val := y }), cl, ?_, ?_, ?_⟩
  · simp only [Instr.mapUpdate, Sem.run_bind, run_und hu, Result.andThen_ok, getObj_map hg, hck', findKey_run hk q2, hx?, Option.map_some, Option.getD_some, hks, setObj_map hg]
  · rw [hm', q5 y bn]
  · have hmb : (xs.modify j (fun e => { e with key := .int .i64 k, val := y })).toList.map (·.born) = xs.toList.map (·.born) := by
     rw [hm']
     apply List.ext_getElem?
     intro i
     rw [List.getElem?_map, List.getElem?_map, List.getElem?_set]
     by_cases hi : j = i
     · subst hi
       have hlt : j < xs.toList.length := (List.getElem?_eq_some_iff.1 q4).1
       rw [if_pos rfl, if_pos hlt, q4]; rfl
     · rw [if_neg hi]
    exact hbn.of_map hmb
end
end Go.Vm
end
section
namespace Go.Vm
namespace Mb
def getE : Es -> Int -> Option (List Int)
 | [], _ => none
 | (a, L) :: r, k => if a = k then some L else getE r k
def putE : Es -> Int -> List Int -> Es
 | [], k, L => [(k, L)]
 | (a, M) :: r, k, L => if a = k then (k, L) :: r else (a, M) :: putE r k L
theorem getE_mem : ∀ {es : Es} {k : Int} {L : List Int}, getE es k = some L -> (k, L) ∈ es
 | (a, M) :: r, k, L, h => by
  simp only [getE] at h
  split at h
  · rename_i e; cases h; rw [e]; exact List.mem_cons_self
  · exact List.mem_cons_of_mem _ (getE_mem h)
theorem getE_none : ∀ {es : Es} {k : Int}, getE es k = none -> ∀ p ∈ es, p.1 ≠ k
 | (a, M) :: r, k, h, p, hp => by
  simp only [getE] at h
  split at h
  · cases h
  · rename_i hne
    rcases List.mem_cons.1 hp with rfl | hp
    · exact hne
    · exact getE_none h p hp
theorem putE_new : ∀ {es : Es} {k : Int} {L : List Int}, getE es k = none -> putE es k L = es ++ [(k, L)]
 | [], _, _, _ => rfl
 | (a, M) :: r, k, L, h => by
  simp only [getE] at h
  split at h
  · cases h
  · rename_i hne
    simp only [putE, if_neg hne, putE_new h, List.cons_append]
theorem putE_keys : ∀ {es : Es} {k : Int} {L M : List Int}, getE es k = some M -> (putE es k L).map (·.1) = es.map (·.1)
 | (a, N) :: r, k, L, M, h => by
  simp only [getE] at h
  by_cases e : a = k
  · simp only [putE, if_pos e, List.map_cons]; rw [e]
  · rw [if_neg e] at h
    simp only [putE, if_neg e, List.map_cons, putE_keys h]
theorem mem_putE : ∀ {es : Es} {k : Int} {L : List Int} {p : Int × List Int}, (es.map (·.1)).Nodup -> p ∈ putE es k L -> p = (k, L) ∨ (p ∈ es /\ p.1 ≠ k)
 | [], k, L, p, _, h => .inl (List.mem_singleton.1 h)
 | (a, M) :: r, k, L, p, hn, h => by
  simp only [List.map_cons, List.nodup_cons] at hn
  by_cases e : a = k
  · simp only [putE, if_pos e] at h
    rcases List.mem_cons.1 h with h | h
    · exact .inl h
    · exact .inr ⟨List.mem_cons_of_mem _ h, fun hk => hn.1 (by rw [e, <- hk]; exact List.mem_map.2 ⟨p, h, rfl⟩)⟩
  · simp only [putE, if_neg e] at h
    rcases List.mem_cons.1 h with rfl | h
    · exact .inr ⟨List.mem_cons_self, e⟩
    · rcases mem_putE hn.2 h with h | ⟨h, h2⟩
      · exact .inl h
      · exact .inr ⟨List.mem_cons_of_mem _ h, h2⟩
theorem putE_nodup {es : Es} {k : Int} {L : List Int} (hn : (es.map (·.1)).Nodup) : ((putE es k L).map (·.1)).Nodup := by
 cases h : getE es k with
 | none =>
  rw [putE_new h, List.map_append]
  refine List.nodup_append.2 ⟨hn, by simp, fun a ha b hb => ?_⟩
  obtain ⟨p, hp, rfl⟩ := List.mem_map.1 ha
  obtain rfl : b = k := by simpa using hb
  exact getE_none h p hp
 | some M => rw [putE_keys h]; exact hn
theorem gets_val {f : Int × List Int -> Value} : ∀ {es : Es} {k : Int}, gets (es.map fun p => (p.1, f p)) k = (getE es k).map fun L => f (k, L)
 | [], _ => rfl
 | (a, L) :: r, k => by
  simp only [List.map_cons, gets, getE]
  by_cases e : a = k
  · subst e; simp only [if_true, Option.map_some]
  · simp only [if_neg e]; exact gets_val
theorem puts_val {f g : Int × List Int -> Value} {k : Int} {L : List Int} {v : Value} (hv : g (k, L) = v) : ∀ {es : Es}, (∀ p ∈ es, p.1 ≠ k -> g p = f p) -> (es.map (·.1)).Nodup -> puts (es.map fun p => (p.1, f p)) k v = (putE es k L).map fun p => (p.1, g p)
 | [], _, _ => by simp only [List.map_nil, puts, putE, List.map_cons, hv]
 | (a, M) :: r, h, hn => by
  simp only [List.map_cons, List.nodup_cons] at hn
  simp only [List.map_cons, puts, putE]
  by_cases e : a = k
  · subst e
    simp only [if_true, List.map_cons, hv]
    congr 1
    refine List.map_congr_left fun p hp => ?_
    have hne : p.1 ≠ a := fun h2 => hn.1 (by rw [<- h2]; exact List.mem_map.2 ⟨p, hp, rfl⟩)
    rw [h p (List.mem_cons_of_mem _ hp) hne]
  · simp only [if_neg e, List.map_cons, h _ List.mem_cons_self e]
    rw [puts_val hv (fun p hp => h p (List.mem_cons_of_mem _ hp)) hn.2]
theorem getE_of_mem : ∀ {es : Es} {k : Int} {L : List Int}, (es.map (·.1)).Nodup -> (k, L) ∈ es -> getE es k = some L
 | (a, M) :: r, k, L, hn, h => by
  simp only [List.map_cons, List.nodup_cons] at hn
  simp only [getE]
  rcases List.mem_cons.1 h with e | h
  · cases e; rw [if_pos rfl]
  · rw [if_neg (fun e : a = k => hn.1 (by rw [e]; exact List.mem_map.2 ⟨_, h, rfl⟩))]
    exact getE_of_mem hn.2 h
theorem getE_perm {es es0 : Es} (hp : es.Perm es0) (hn : (es.map (·.1)).Nodup) (k : Int) : getE es k = getE es0 k := by
 have hn0 : (es0.map (·.1)).Nodup := (hp.map (·.1)).nodup_iff.1 hn
 cases h : getE es k with
 | some L => exact (getE_of_mem hn0 (hp.mem_iff.1 (getE_mem h))).symm
 | none =>
  cases h0 : getE es0 k with
  | none => rfl
  | some L => exact absurd rfl (getE_none h _ (hp.mem_iff.2 (getE_mem h0)))
def delE : Es -> Int -> Es
 | [], _ => []
 | (a, M) :: r, k => if a = k then r else (a, M) :: delE r k
theorem delE_sub : ∀ {es : Es} {k : Int} {p : Int × List Int}, p ∈ delE es k -> p ∈ es
 | (a, M) :: r, k, p, h => by
  simp only [delE] at h
  split at h
  · exact List.mem_cons_of_mem _ h
  · rcases List.mem_cons.1 h with rfl | h
    · exact List.mem_cons_self
    · exact List.mem_cons_of_mem _ (delE_sub h)
theorem delE_subl : ∀ {es : Es} {k : Int}, (delE es k).Sublist es
 | [], _ => List.Sublist.refl _
 | (a, M) :: r, k => by
  simp only [delE]
  split
  · exact List.sublist_cons_self _ _
  · exact (delE_subl).cons_cons _
theorem dels_val {f : Int × List Int -> Value} {k : Int} : ∀ {es : Es}, dels (es.map fun p => (p.1, f p)) k = (delE es k).map fun p => (p.1, f p)
 | [] => rfl
 | (a, M) :: r => by
  simp only [List.map_cons, dels, delE]
  by_cases e : a = k
  · simp only [if_pos e]
  · simp only [if_neg e, List.map_cons, dels_val]
def blkV (L : List Int) (y c : Nat) : Value := .agg #[.int .u64 (L.headD 0), .slice (some ⟨y, 0, none⟩) L.tail.length c]
theorem BlksIn.look {es : Es} {w : World} {b : Nat} {F : Nat -> Prop} (h : BlksIn es w b F) {k : Int} {L : List Int} (hk : getE es k = some L) :
 ∃ l y0 c o, MapAt w b l /\ gets l k = some (blkV L y0 c) /\ F y0 /\ y0 ≠ b /\ w.heap[y0]? = some o /\ RowM L.tail c o := by
 obtain ⟨hn, hsm, m, cl, ad, cap, h1, hb, hm, h2, h3, hF⟩ := h
 have hmem := getE_mem hk
 obtain ⟨hne, o, ho, hr⟩ := h2 _ hmem
 have hg : gets (es.map (valB ad cap)) k = some (blkV L (ad k) (cap k)) := by
  have := gets_val (f := fun p => (valB ad cap p).2) (es := es) (k := k)
  rw [hk] at this
  exact this
 exact ⟨_, ad k, cap k, o, ⟨m, cl, h1, hm, hb⟩, hg, (hF _).2 (.inr ⟨_, hmem, rfl⟩), hne, ho, hr⟩
theorem BlksIn.lookN {es : Es} {w : World} {b : Nat} {F : Nat -> Prop} (h : BlksIn es w b F) {k : Int} (hk : getE es k = none) : ∃ l, MapAt w b l /\ gets l k = none := by
 obtain ⟨hn, hsm, m, cl, ad, cap, h1, hb, hm, h2, h3, hF⟩ := h
 have := gets_val (f := fun p => (valB ad cap p).2) (es := es) (k := k)
 rw [hk] at this
 exact ⟨_, ⟨m, cl, h1, hm, hb⟩, this⟩
theorem BlksIn.put {es : Es} {w : World} {b : Nat} {F : Nat -> Prop} (h : BlksIn es w b F) (k : Int) {y0 c : Nat} {o : Obj} {L : List Int} (hF0 : ¬ F y0) (ho : w.heap[y0]? = some o) (hr : RowM L.tail c o) (hL : 1 <= L.tail.length /\ L.tail.length <= 2048) :
 ∃ l, MapAt w b l /\ ∀ m cl, m.toList.map kvOf = (puts l k (blkV L y0 c)).map kvI -> Born m cl -> ∃ F', BlksIn (putE es k L) { w with heap := w.heap.setIfInBounds b (.map m cl) } b F' /\ ∀ y, F' y -> F y ∨ y = y0 := by
 have hroot := h.root
 have hblt := h.lt hroot
 obtain ⟨hn, hsm, m0, cl0, ad, cap, h1, hb, hm, h2, h3, hF⟩ := h
 refine ⟨_, ⟨m0, cl0, h1, hm, hb⟩, fun m cl hm2 hb2 => ?_⟩
 have hyb : y0 ≠ b := fun e => hF0 (e ▸ hroot)
 have same : ∀ y, y ≠ b -> (w.heap.setIfInBounds b (.map m cl))[y]? = w.heap[y]? := fun y hy => by simp [hy.symm]
 refine ⟨fun y => y = b ∨ ∃ p ∈ putE es k L, y = if p.1 = k then y0 else ad p.1, ⟨putE_nodup hn, fun p hp => (mem_putE hn hp).elim (fun e => by rw [e]; exact hL) fun h => hsm p h.1, m, cl, fun x => if x = k then y0 else ad x, fun x => if x = k then c else cap x, by simp [hblt], hb2, ?_, fun p hp => ?_, fun p hp q hq e => ?_, fun y => Iff.rfl⟩, fun y hy => ?_⟩
 · have hp := puts_val (f := fun p => (valB ad cap p).2) (g := fun p => (valB (fun x => if x = k then y0 else ad x) (fun x => if x = k then c else cap x) p).2) (k := k) (L := L) (v := blkV L y0 c) (by simp [valB, blkV]) (es := es) (fun p hp hne => by simp [valB, hne]) hn
   exact hm2.trans (congrArg (List.map kvI) hp)
 · rcases mem_putE hn hp with rfl | ⟨hp, hne⟩
   · simp only [if_true]
     exact ⟨hyb, o, (same y0 hyb).trans ho, hr⟩
   · simp only [if_neg hne]
     obtain ⟨a1, o1, a2, a3⟩ := h2 p hp
     exact ⟨a1, o1, (same _ a1).trans a2, a3⟩
 · simp only at e
   rcases mem_putE hn hp with rfl | ⟨hp, hne⟩
   · rcases mem_putE hn hq with rfl | ⟨hq, hne2⟩
     · rfl
     · simp only [if_true, if_neg hne2] at e
       exact absurd ((hF _).2 (.inr ⟨q, hq, e⟩)) hF0
   · rcases mem_putE hn hq with rfl | ⟨hq, hne2⟩
     · simp only [if_true, if_neg hne] at e
       exact absurd ((hF _).2 (.inr ⟨p, hp, e.symm⟩)) hF0
     · simp only [if_neg hne, if_neg hne2] at e
       exact h3 p hp q hq e
 · rcases hy with rfl | ⟨p, hp, rfl⟩
   · exact .inl hroot
   · rcases mem_putE hn hp with rfl | ⟨hp, hne⟩
     · simp
     · simp only [if_neg hne]
       exact .inl ((hF _).2 (.inr ⟨p, hp, rfl⟩))
theorem BlksIn.del {es : Es} {w : World} {b : Nat} {F : Nat -> Prop} (h : BlksIn es w b F) (k : Int) :
 ∃ l, MapAt w b l /\ ∀ m cl, m.toList.map kvOf = (dels l k).map kvI -> Born m cl -> ∃ F', BlksIn (delE es k) { w with heap := w.heap.setIfInBounds b (.map m cl) } b F' /\ ∀ y, F' y -> F y := by
 have hroot := h.root
 have hblt := h.lt hroot
 obtain ⟨hn, hsm, m0, cl0, ad, cap, h1, hb, hm, h2, h3, hF⟩ := h
 refine ⟨_, ⟨m0, cl0, h1, hm, hb⟩, fun m cl hm2 hb2 => ?_⟩
 have same : ∀ y, y ≠ b -> (w.heap.setIfInBounds b (.map m cl))[y]? = w.heap[y]? := fun y hy => by simp [hy.symm]
 refine ⟨fun y => y = b ∨ ∃ p ∈ delE es k, y = ad p.1, ⟨(delE_subl.map _).nodup hn, fun p hp => hsm p (delE_sub hp), m, cl, ad, cap, by simp [hblt], hb2, ?_, fun p hp => ?_, fun p hp q hq e => h3 p (delE_sub hp) q (delE_sub hq) e, fun y => Iff.rfl⟩, fun y hy => ?_⟩
 · have hp := dels_val (f := fun p => (valB ad cap p).2) (k := k) (es := es)
   exact hm2.trans (congrArg (List.map kvI) hp)
 · obtain ⟨a1, o1, a2, a3⟩ := h2 p (delE_sub hp)
   exact ⟨a1, o1, (same _ a1).trans a2, a3⟩
 · rcases hy with rfl | ⟨p, hp, rfl⟩
   · exact hroot
   · exact (hF _).2 (.inr ⟨p, delE_sub hp, rfl⟩)
end Mb
section
variable {β : Base} {ρ : Env} {H : Heap} {nl : Nat} {w : World}
def bigsRw (H : Heap) : Bool := Tr.allK (fun _ x => x.k.nb || x.rw) 1 0 H
theorem bigsRw_ok (h : bigsRw H = true) {l k : Nat} {c : IT} {rw : Bool} (hl : H.get l = some ⟨.big k c, rw⟩) : rw = true := by
 have := Tr.allK_get h hl
 simpa [ABlk.nb] using this
theorem HRel.seen (h : HRel β ρ H nl w) {b : Nat} {o : Obj} (hb : b < β.w0.heap.size) (hno : ¬ β.own b) (ho : w.heap[b]? = some o) {k : ABlk} (hk : k.rel (ρ.put nl b) false o) (hnb : k.nb = true) (hrw : bigsRw H = true) : HRel β (ρ.put nl b) (H.set nl ⟨k, false⟩) (nl + 1) w := by
 have hle : ρ.Le (ρ.put nl b) := Env.le_put (h.fresh nl (Nat.le_refl _))
 have hn := h.num b
 have hdom : ¬ β.dom b := fun e => e.elim (fun e => by omega) hno
 have hlt : ∀ {l1 k1}, H.get l1 = some k1 -> l1 ≠ nl := fun {l1 k1} g1 e => by
  obtain ⟨b1, _, hb1, _⟩ := h.blk l1 k1 g1
  rw [e, h.fresh nl (Nat.le_refl _)] at hb1; cases hb1
 obtain ⟨Fp, hB⟩ := h.big
 refine ⟨fun l k' hl => ?_, fun l l' k1 k2 hl hl' hr he => ?_, fun l k' b' hl hr hb' => ?_, hn.fresh, hn.ownN, hn.size, hn.frame, hn.tape, hn.os, hn.out, hn.g, Fp, (hB.le hle fun l k' hl => Env.put_other ρ b (hlt hl)).set hnb (Env.put_same ..) (fun l k' c rw hl _ hy => ?_) (fun _ _ _ => rfl)⟩
 · rcases Tr.get_set hl with ⟨rfl, rfl⟩ | ⟨hne, hl⟩
   · exact ⟨b, o, Env.put_same .., ho, hk⟩
   · exact hn.blk l k' hl
 · rcases Tr.get_set hl with ⟨e1, e2⟩ | ⟨hne1, g1⟩
   · rw [e2] at hr; cases hr
   · rcases Tr.get_set hl' with ⟨e3, e4⟩ | ⟨hne2, g2⟩
     · exfalso
       rw [e3, Env.put_same, Env.put_other ρ b hne1] at he
       exact hdom (h.own l k1 b g1 hr he)
     · exact hn.inj l l' k1 k2 g1 g2 hr he
 · rcases Tr.get_set hl with ⟨rfl, rfl⟩ | ⟨hne, hl⟩
   · cases hr
   · exact hn.own l k' b' hl hr hb'
 · obtain ⟨_, _, _, _, _, e4⟩ := hB.ok _ _ _ _ hl
   exact hdom (e4 (bigsRw_ok hrw hl) b hy)
end
end Go.Vm
end
