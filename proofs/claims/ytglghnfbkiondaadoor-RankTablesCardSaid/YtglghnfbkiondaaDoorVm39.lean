/-
  A machine for abstract states over the model (part 37): a range over a map of rows begins.
-/
import Derived.Test.YtglghnfbkiondaaDoorVm36
import Derived.Maps.RangeRun
section
namespace Go.Vm
open Mr

/-- The map that is ranged over: where its iterator lies, its entries, the keys that have come. -/
def rgT (r : Nat) (c s : IT) : IT := .un 3 (.un 1 (.nv r) c) s
section
variable {P : Program} {β : Base} {t kt et : TypeId} {ρ : Env}
theorem un_inv {k : Nat} {a b : IT} {v : Int} (h : (IT.un k a b).den ρ = some v) : ∃ x y, a.den ρ = some x ∧ b.den ρ = some y ∧ v = univ k x y := by
  cases ha : a.den ρ with
  | none => simp only [IT.den, ha] at h; cases h
  | some x => cases hb : b.den ρ with
    | none => simp only [IT.den, ha, hb] at h; cases h
    | some y => exact ⟨x, y, rfl, rfl, (Option.some.inj ((unD ha hb).symm.trans h)).symm⟩
theorem encL_inj {a b : List Int} (h : encL a = encL b) : a = b := by
  have := congrArg decL h
  rwa [decL_encL, decL_encL] at this
theorem rgT_den {r b : Nat} {c s : IT} {x y : Int} (h1 : ρ.N r = some b) (h2 : c.den ρ = some x) (h3 : s.den ρ = some y) : (rgT r c s).den ρ = some (encL [(b : Int), x, y]) := by
  rw [rgT, unD (unD (nvD h1) h2) h3]
  show some (encL (decL (encL [(b : Int), x]) ++ [y])) = _
  rw [decL_encL]; rfl
theorem rgT_inv {r b : Nat} {c s : IT} {x y : Int} (h : (rgT r c s).den ρ = some (encL [(b : Int), x, y])) : ρ.N r = some b ∧ c.den ρ = some x ∧ s.den ρ = some y := by
  obtain ⟨p, q, h1, h2, e⟩ := un_inv h
  obtain ⟨p1, q1, h3, h4, rfl⟩ := un_inv h1
  have e2 : encL [(b : Int), x, y] = encL [p1, q1, q] := by
    rw [e]
    show encL (decL (encL [p1, q1]) ++ [q]) = _
    rw [decL_encL]; rfl
  have e3 := encL_inj e2
  simp only [List.cons.injEq, and_true] at e3
  obtain ⟨e4, rfl, rfl⟩ := e3
  refine ⟨?_, h4, h2⟩
  simp only [IT.den] at h3
  obtain ⟨n, hn, e5⟩ := map_some h3
  rw [hn]
  have : Int.ofNat n = (b : Int) := by rw [e4]; exact e5.symm ▸ rfl
  exact congrArg some (Int.ofNat.inj this)
def hkRange (t : TypeId) : OpF := fun o ev H nl cs => match o with
  | .range t' x => cond (Nat.beq t' t) (match ev x with
    | some (.map l) => match H.get l with
      | some ⟨.big 0 c, true⟩ => some [.ret (.ptr nl (.lit 0)) (H.set l ⟨.big 3 (rgT nl c (.lit 0)), true⟩) (nl + 1) cs]
      | _ => none
    | _ => none) none
  | _ => none
theorem hkRange_ok (hu : P.underlying t = some (.map kt et)) : HookOk P β (hkRange t) := by
  intro o ev H nl cs ls ρ w f h he hh hc _
  unfold hkRange at h
  split at h
  rotate_left
  · cases h
  rename_i t' xo ho
  cases hb : Nat.beq t' t with
  | false => rw [hb] at h; cases h
  | true =>
    rw [hb] at h; simp only [cond_true] at h
    obtain rfl := Nat.eq_of_beq_eq_true hb
    split at h
    rotate_left
    · cases h
    rename_i l hm
    split at h
    rotate_left
    · cases h
    rename_i c hl
    simp only [Option.some.injEq] at h
    subst h
    obtain ⟨b, hfm, hNl⟩ := den_map (he xo _ hm)
    have h1 := hh.num w.heap.size
    have hle : ρ.Le (ρ.put nl w.heap.size) := Env.le_put (hh.fresh nl (Nat.le_refl _))
    obtain ⟨b', x, F, hN', hx, hfam, cont⟩ := h1.bigTurn hl
    obtain rfl : b' = b := by have := hle.n _ _ hNl; rw [hN'] at this; exact Option.some.inj this
    have hR : ∃ es, x = codeE es ∧ RowsIn none es w b' F := by
      rcases hfam with ⟨_, h⟩ | ⟨h, _⟩ | ⟨h, _⟩ | ⟨h, _⟩ | ⟨h, _⟩ | ⟨h, _⟩
      · exact h
      all_goals cases h
    obtain ⟨es, rfl, hR⟩ := hR
    have hR0 := hR
    obtain ⟨hn, m, cl, sv, ad, cap, hg, hb, _⟩ := hR
    have hrun := run_range_map (P := P) w t' kt et b' m cl hu hg
    have hsame : ∀ y, y < w.heap.size → (w.alloc (.mapIter (some b') cl #[] cl)).heap[y]? = w.heap[y]? := fun y hy => heap_alloc_old w _ hy
    have hnew := heap_alloc_new w (.mapIter (some b') cl #[] cl)
    have hG : RangeIn none w.heap.size es [] (w.alloc (.mapIter (some b') cl #[] cl)) b' (fun y => F y ∨ y = w.heap.size) :=
      ⟨⟨F, hR0.local fun y hy => hsame y (hR0.lt hy), fun e => absurd (hR0.lt e) (Nat.lt_irrefl _), fun y => Iff.rfl⟩, ⟨m, cl, cl, #[], by rw [hsame b' (hR0.lt hR0.root)]; exact hg, hnew, hb.1, Nat.le_refl _, fun e _ k _ => by simp, fun k hk => by cases hk⟩, List.nodup_nil, fun k hk => by cases hk⟩
    have hr := cont rfl (w.alloc (.mapIter (some b') cl #[] cl)) 3 (rgT nl c (.lit 0)) (encL [(w.heap.size : Int), codeE es, encL []]) (fun y => F y ∨ y = w.heap.size) ⟨(by show w.heap.size ≤ (w.heap.push _).size; rw [Array.size_push]; exact Nat.le_succ _), fun y hy _ => hsame y hy, rfl, rfl, rfl, fun y hy => hy.elim .inl fun e => .inr (by rw [e]; exact Nat.le_refl _)⟩
      (.inr (.inr (.inr (.inl ⟨rfl, _, es, [], rfl, hG⟩)))) (rgT_den (Env.put_same ..) hx rfl)
    have hrun' : (Instr.range t' (f xo)).run P w = .ok (.pointer (some ⟨w.heap.size, 0, none⟩)) (w.alloc (.mapIter (some b') cl #[] cl)) := by rw [hfm]; exact hrun
    exact ⟨.pointer (some ⟨w.heap.size, 0, none⟩), w.alloc (.mapIter (some b') cl #[] cl), .inl (by simp [execOp, ho, hrun']), .ptr nl (.lit 0), _, _, cs, _, List.mem_cons_self, hle, by simp only [AVal.den, Env.put_same]; rfl, hr, hc.mono hle⟩
end
end Go.Vm
end

/-
  A machine for abstract states over the model (part 38): a range over a map of rows goes on.
-/
section
namespace Go.Vm
open Mr

def fAll (x s : Int) : Int := if (esOf x).all (fun p => (decL s).contains p.1) then 1 else 0
def fKey (x i : Int) : Int := (((esOf x)[i.toNat]?).map (·.1)).getD 0
def GRg : GP := fun _ _ _ _ F => F 64 = fAll ∧ F 65 = fKey
def allT (c s : IT) : BT := .cmp .eql (.fn 64 c s) (.lit 1)
def nxNo (c s : IT) (H : Heap) (nl : Nat) (cs : Cs) : Leaf := .ret (.tuple [.bool (.lit false)]) H nl ((allT c s, true) :: cs)
def nxYes (l r : Nat) (c s : IT) (H : Heap) (nl : Nat) (cs : Cs) : Leaf :=
  .ret (.tuple [.bool (.lit true), .int .i64 (.fn 65 c (.nv nl)), .slice (nl + 1) (.lit 0) (.fn 62 c (.fn 65 c (.nv nl))) (.nv (nl + 2))]) (H.set l ⟨.big 3 (rgT r c (.un 3 s (.fn 65 c (.nv nl)))), true⟩) (nl + 3) ((.cmp .geq (.nv nl) (.lit 0), true) :: (allT c s, false) :: cs)
def hkNext (l : Nat) : OpF := fun o ev H nl cs => match o with
  | .next x false => match ev x with
    | some (.ptr r (.lit (.ofNat 0))) => match H.get l with
      | some ⟨.big 3 (.un 3 (.un 1 (.nv r') c) s), true⟩ => cond (Nat.beq r' r) (match lookB cs (allT c s) with
        | some true => some [nxNo c s H nl cs]
        | some false => some [nxYes l r c s H nl cs]
        | none => some [nxNo c s H nl cs, nxYes l r c s H nl cs]) none
      | _ => none
    | _ => none
  | _ => none
section
variable {P : Program} {β : Base} {ρ : Env}
/-- Where the keys are as told, so are the entries. -/
theorem entry_at {m : List MapEntry} {l : Kvs} (h : m.map kvOf = l.map kvI) {i : Nat} {e : MapEntry} (he : m[i]? = some e) : ∃ k v, l[i]? = some (k, v) ∧ e.key = .int .i64 k ∧ e.val = v := by
  have h1 := congrArg (fun x => x[i]?) h
  simp only [List.getElem?_map, he, Option.map_some] at h1
  cases hl : l[i]? with
  | none => rw [hl] at h1; cases h1
  | some p =>
    rw [hl] at h1
    simp only [Option.map_some, Option.some.injEq, kvOf, kvI, Prod.mk.injEq] at h1
    exact ⟨p.1, p.2, rfl, h1.1, h1.2⟩
theorem at_entry {m : List MapEntry} {l : Kvs} (h : m.map kvOf = l.map kvI) {i : Nat} {p : Int × Value} (hp : l[i]? = some p) : ∃ e, m[i]? = some e ∧ e.key = .int .i64 p.1 := by
  have h1 := congrArg (fun x => x[i]?) h
  simp only [List.getElem?_map, hp, Option.map_some] at h1
  cases hl : m[i]? with
  | none => rw [hl] at h1; cases h1
  | some e =>
    rw [hl] at h1
    simp only [Option.map_some, Option.some.injEq, kvOf, kvI, Prod.mk.injEq] at h1
    exact ⟨e, rfl, h1.1⟩
theorem getE_at : ∀ {es : Es} {i : Nat} {k : Int} {L : List Int}, (es.map (·.1)).Nodup → es[i]? = some (k, L) → getE es k = some L
  | (a, M) :: r, 0, k, L, _, h => by
    simp only [List.getElem?_cons_zero, Option.some.injEq, Prod.mk.injEq] at h
    obtain ⟨rfl, rfl⟩ := h
    simp [getE]
  | (a, M) :: r, i + 1, k, L, hn, h => by
    simp only [List.map_cons, List.nodup_cons] at hn
    simp only [List.getElem?_cons_succ] at h
    have hne : a ≠ k := fun e => hn.1 (by rw [e]; exact List.mem_map.2 ⟨_, List.mem_of_getElem? h, rfl⟩)
    simp only [getE, if_neg hne]
    exact getE_at hn.2 h
theorem hkNext_ok (hG : ∀ I B S V F, β.G I B S V F → GMr I B S V F ∧ GRg I B S V F) (l : Nat) : HookOk P β (hkNext l) := by
  intro o ev H nl cs ls ρ w f h he hh hc _
  unfold hkNext at h
  split at h
  rotate_left
  · cases h
  rename_i xo ho
  split at h
  rotate_left
  · cases h
  rename_i r hx
  split at h
  rotate_left
  · cases h
  rename_i r' c s hl
  cases hb : Nat.beq r' r with
  | false => rw [hb] at h; cases h
  | true =>
    rw [hb] at h; simp only [cond_true] at h
    obtain rfl := Nat.eq_of_beq_eq_true hb
    obtain ⟨bi0, hfx, hNr⟩ := den_ptr0 (he xo _ hx)
    obtain ⟨b, x, F, hN, hxd, hfam, _⟩ := hh.bigTurn hl
    have hR : ∃ (bi : Nat) (es : Es) (seen : List Int), x = encL [(bi : Int), codeE es, encL seen] ∧ RangeIn none bi es seen w b F := by
      rcases hfam with ⟨h, _⟩ | ⟨h, _⟩ | ⟨h, _⟩ | ⟨_, bi, es, seen, h⟩ | ⟨h, _⟩ | ⟨h, _⟩
      · cases h
      · cases h
      · cases h
      · exact ⟨bi, es, seen, h⟩
      · cases h
      · cases h
    obtain ⟨bi, es, seen, rfl, hR⟩ := hR
    obtain ⟨hNr2, hcd, hsd⟩ := rgT_inv hxd
    obtain rfl : bi0 = bi := by rw [hNr] at hNr2; exact Option.some.inj hNr2
    obtain ⟨⟨g60, g61, g62, g63⟩, g64, g65⟩ := hG _ _ _ _ _ hh.g
    have hR0 := hR
    obtain ⟨⟨F0, hRow, hF0, hF⟩, ⟨m, cl, since, sn, hgm, hgi, hold, hsc, hseen, hlast⟩, honce, hkeys⟩ := hR
    have hAll : (allT c s).den ρ = some (fAll (codeE es) (encL seen) == 1) := by
      have e1 : (IT.fn 64 c s).den ρ = some (fAll (codeE es) (encL seen)) := by rw [fnD hcd hsd, g64]
      unfold allT
      rw [cmpD e1 (litD 1)]
      rfl
    have hRow0 := hRow
    obtain ⟨hnd, m2, cl2, sv, ad, cap, hg2, hb2, hm2, hrow2, _, _⟩ := hRow
    obtain ⟨rfl, rfl⟩ : m2 = m ∧ cl2 = cl := by
      have := hg2.symm.trans hgm
      simp only [Option.some.injEq, Obj.map.injEq] at this
      exact this
    have hlist : m2.toList.map kvOf = (es.map (valR none sv ad cap)).map kvI := hm2
    have hbi : b ≠ bi0 := fun e => hF0 (e ▸ hRow0.root)
    rcases run_next_at (P := P) w o.type bi0 b since cl2 sn m2 cl2 hgi hgm hold hsc with ⟨h0, hrun⟩ | ⟨e, hel, w1, hw1, hrun⟩
    · have hall : ∀ p ∈ es, p.1 ∈ seen := fun p hp => by
        obtain ⟨i, hi⟩ := List.getElem?_of_mem hp
        have hi2 : (es.map (valR none sv ad cap))[i]? = some (valR none sv ad cap p) := by rw [List.getElem?_map, hi]; rfl
        obtain ⟨e, he1, he2⟩ := at_entry hlist hi2
        have hem := List.mem_of_getElem? he1
        refine (hseen e hem p.1 he2).1 ?_
        cases hcn : sn.contains e.born with
        | true => rfl
        | false =>
          exfalso
          have hin : e ∈ (Go.leftOf m2 sn).toList := by
            unfold Go.leftOf
            rw [Array.toList_filter]
            exact List.mem_filter.2 ⟨hem, by rw [hcn]; rfl⟩
          have := List.length_pos_of_mem hin
          rw [Array.length_toList, h0] at this
          exact absurd this (Nat.lt_irrefl _)
      have hf : (allT c s).den ρ = some true := by
        rw [hAll]
        have : ((esOf (codeE es)).all fun p => (decL (encL seen)).contains p.1) = true := List.all_eq_true.2 fun p hp => by
          rw [esOf_code] at hp
          rw [decL_encL]
          exact List.contains_iff_mem.2 (hall p hp)
        unfold fAll
        rw [if_pos this]
        rfl
      have hmem : nxNo c s H nl cs ∈ ls := by
        split at h
        · cases h; exact List.mem_cons_self
        · rename_i hb1; have := lookB_ok hb1 hc; rw [hf] at this; cases this
        · cases h; exact List.mem_cons_self
      have hrun' : (Instr.next (f xo) false o.type).run P w = .ok (.tuple #[.bool false]) w := by rw [hfx]; exact hrun
      exact ⟨.tuple #[.bool false], w, .inl (by simp [execOp, ho, hrun']), _, _, _, _, ρ, hmem, Env.Le.refl ρ, rfl, hh, c1 hf hc⟩
    · obtain ⟨hem, hcn⟩ := mem_left hel
      obtain ⟨i, hi⟩ := List.getElem?_of_mem hem
      obtain ⟨k, v, hiv, hek, hev⟩ := entry_at hlist hi
      obtain ⟨L, hiL, hv⟩ : ∃ L, es[i]? = some (k, L) ∧ v = .slice (some ⟨ad k, 0, none⟩) L.length (cap k) := by
        rw [List.getElem?_map] at hiv
        cases hes : es[i]? with
        | none => rw [hes] at hiv; cases hiv
        | some p =>
          rw [hes] at hiv
          simp only [Option.map_some, Option.some.injEq, valR, Prod.mk.injEq] at hiv
          obtain ⟨rfl, rfl⟩ := hiv
          exact ⟨p.2, rfl, by simp⟩
      have hgE := getE_at hnd hiL
      have hmemk : (k, L) ∈ es := List.mem_of_getElem? hiL
      have hnk : k ∉ seen := fun hk => by
        have := (hseen e hem k hek).2 hk
        rw [hcn] at this; cases this
      have hf : (allT c s).den ρ = some false := by
        rw [hAll]
        have : ((esOf (codeE es)).all fun p => (decL (encL seen)).contains p.1) = false := by
          rw [Bool.eq_false_iff]
          intro hq
          have := List.all_eq_true.1 hq (k, L) (by rw [esOf_code]; exact hmemk)
          rw [decL_encL] at this
          exact hnk (List.contains_iff_mem.1 this)
        unfold fAll
        rw [if_neg (by rw [this]; exact Bool.false_ne_true)]
        rfl
      have hmem : nxYes l r' c s H nl cs ∈ ls := by
        split at h
        · rename_i hb1; have := lookB_ok hb1 hc; rw [hf] at this; cases this
        · cases h; exact List.mem_cons_self
        · cases h; exact List.mem_cons_of_mem _ List.mem_cons_self
      have q1 := hh.num i
      have q2 := q1.num (ad k)
      have q3 := q2.num (cap k)
      have l1 : ρ.Le (ρ.put nl i) := Env.le_put (hh.fresh nl (Nat.le_refl _))
      have l2 : (ρ.put nl i).Le ((ρ.put nl i).put (nl + 1) (ad k)) := Env.le_put (q1.fresh (nl + 1) (Nat.le_refl _))
      have l3 : ((ρ.put nl i).put (nl + 1) (ad k)).Le (((ρ.put nl i).put (nl + 1) (ad k)).put (nl + 2) (cap k)) := Env.le_put (q2.fresh (nl + 2) (Nat.le_refl _))
      have hle := (l1.trans l2).trans l3
      obtain ⟨ρ3, hρ3⟩ : ∃ ρ3, ρ3 = ((ρ.put nl i).put (nl + 1) (ad k)).put (nl + 2) (cap k) := ⟨_, rfl⟩
      have n0 : ρ3.N nl = some i := by rw [hρ3]; exact l3.n _ _ (l2.n _ _ (Env.put_same ..))
      have n1 : ρ3.N (nl + 1) = some (ad k) := by rw [hρ3]; exact l3.n _ _ (Env.put_same ..)
      have n2 : ρ3.N (nl + 2) = some (cap k) := by rw [hρ3]; exact Env.put_same ..
      rw [← hρ3] at hle q3
      have hcd3 := IT.den_mono hle hcd
      have hsd3 := IT.den_mono hle hsd
      have ek : (IT.fn 65 c (.nv nl)).den ρ3 = some k := by
        rw [fnD hcd3 (nvD n0), hle.f, g65]
        simp [fKey, esOf_code, hiL]
      have e62 : (IT.fn 62 c (.fn 65 c (.nv nl))).den ρ3 = some (L.length : Int) := by
        rw [fnD hcd3 ek, hle.f, g62]; simp [fLen, esOf_code, hgE]
      have es' : (IT.un 3 s (.fn 65 c (.nv nl))).den ρ3 = some (encL (seen ++ [k])) := by
        rw [unD hsd3 ek]
        show some (encL (decL (encL seen) ++ [k])) = _
        rw [decL_encL]
      obtain ⟨b2, x2, F2, hN2, hx2, hfam2, cont⟩ := q3.bigTurn hl
      obtain rfl : b2 = b := by have := hle.n _ _ hN; rw [hN2] at this; exact Option.some.inj this
      have hR2 : RangeIn none bi0 es seen w b2 F2 := by
        have e2 := IT.den_mono hle hxd
        rw [hx2] at e2
        have e2 := Option.some.inj e2
        rcases hfam2 with ⟨h, _⟩ | ⟨h, _⟩ | ⟨h, _⟩ | ⟨_, bi3, es3, seen3, e3, hR3⟩ | ⟨h, _⟩ | ⟨h, _⟩
        · cases h
        · cases h
        · cases h
        · have e4 := encL_inj (e3.symm.trans e2)
          simp only [List.cons.injEq, and_true] at e4
          obtain ⟨a1, a2, a3⟩ := e4
          rw [← codeE_inj a2, ← encL_inj a3, ← Int.ofNat.inj a1]; exact hR3
        · cases h
        · cases h
      obtain ⟨⟨F3, hRow3, hF3, hFF⟩, _, _, _⟩ := hR2
      obtain ⟨w', hw'⟩ : ∃ w', w' = Go.ChangeMaps.setBlock w1 bi0 (.mapIter (some b2) since (sn.push e.born) cl2) := ⟨_, rfl⟩
      have hh1 : w1.heap = w.heap := by rcases hw1 with rfl | rfl <;> rfl
      have hht : w1.tape = w.tape ∧ w1.os = w.os ∧ w1.output = w.output := by rcases hw1 with rfl | rfl <;> exact ⟨rfl, rfl, rfl⟩
      have hbil : bi0 < w.heap.size := (Array.getElem?_eq_some_iff.1 hgi).1
      have hsz : w'.heap.size = w.heap.size := by rw [hw', Go.ChangeMaps.setBlock]; simp [hh1]
      have hsame : ∀ y, y ≠ bi0 → w'.heap[y]? = w.heap[y]? := fun y hy => by rw [hw', Go.ChangeMaps.setBlock]; simp [hh1, hy.symm]
      have hnew : w'.heap[bi0]? = some (.mapIter (some b2) since (sn.push e.born) cl2) := by rw [hw', Go.ChangeMaps.setBlock]; simp [hh1, hbil]
      have same_e : ∀ e' ∈ m2.toList, e'.born = e.born → e' = e := fun e' he' hbb => by
        have f1 := find_born e m2.toList hb2.2 hem
        have f2 := find_born e' m2.toList hb2.2 he'
        rw [hbb, f1] at f2
        exact (Option.some.inj f2).symm
      have hG2 : RangeIn none bi0 es (seen ++ [k]) w' b2 F2 := by
        refine ⟨⟨F3, hRow3.local fun y hy => hsame y fun e => hF3 (e ▸ hy), hF3, hFF⟩, ⟨m2, cl2, since, sn.push e.born, (hsame b2 hbi).trans hgm, hnew, hold, hsc, fun e' he' k' hk' => ?_, fun k' hk' => ?_⟩, ?_, fun k' hk' => ?_⟩
        · rw [contains_push, Bool.or_eq_true, hseen e' he' k' hk', List.mem_append, List.mem_singleton]
          constructor
          · rintro (h1 | h1)
            · exact .inl h1
            · have := same_e e' he' (by simpa using h1)
              subst this
              rw [hek] at hk'
              exact .inr (by have := Value.int.inj hk'; exact this.2.symm)
          · rintro (h1 | rfl)
            · exact .inl h1
            · right
              obtain ⟨i', hi'⟩ := List.getElem?_of_mem he'
              obtain ⟨k2, v2, hiv2, hek2, _⟩ := entry_at hlist hi'
              rw [hk'] at hek2
              obtain rfl := (Value.int.inj hek2).2
              have hes2 : (es.map (·.1))[i']? = some k' := by
                rw [List.getElem?_map] at hiv2 ⊢
                cases hq : es[i']? with
                | none => rw [hq] at hiv2; cases hiv2
                | some p =>
                  rw [hq] at hiv2
                  simp only [Option.map_some, Option.some.injEq, valR, Prod.mk.injEq] at hiv2
                  simp only [Option.map_some, hiv2.1]
              have hes1 : (es.map (·.1))[i]? = some k' := by rw [List.getElem?_map, hiL]; rfl
              have hlt := (List.getElem?_eq_some_iff.1 hes1).1
              obtain rfl := (List.getElem?_inj hlt hnd).1 (hes1.trans hes2.symm)
              rw [hi] at hi'
              cases hi'
              simp
        · rw [List.getLast?_append, List.getLast?_singleton] at hk'
          simp only [Option.some_or, Option.some.injEq] at hk'
          subst hk'
          exact ⟨e, hem, hek, sn, rfl⟩
        · exact List.nodup_append.2 ⟨honce, by simp, fun a ha b hb e => hnk (by rw [← List.mem_singleton.1 hb, ← e]; exact ha)⟩
        · rcases List.mem_append.1 hk' with h1 | h1
          · exact hkeys k' h1
          · exact ⟨_, hmemk, (List.mem_singleton.1 h1).symm⟩
      have hr := cont rfl w' 3 (rgT r' c (.un 3 s (.fn 65 c (.nv nl)))) (encL [(bi0 : Int), codeE es, encL (seen ++ [k])]) F2
        ⟨Nat.le_of_eq hsz.symm, fun y _ hy => hsame y fun e => hy (e ▸ (hFF bi0).2 (.inr rfl)), by rw [hw']; exact hht.1, by rw [hw']; exact hht.2.1, by rw [hw']; exact hht.2.2, fun y hy => .inl hy⟩
        (.inr (.inr (.inr (.inl ⟨rfl, _, es, _, rfl, hG2⟩)))) (rgT_den (hle.n _ _ hNr) hcd3 es')
      have hrun' : (Instr.next (f xo) false o.type).run P w = .ok (.tuple #[.bool true, e.key, e.val]) w' := by rw [hfx, hw']; exact hrun
      refine ⟨.tuple #[.bool true, e.key, e.val], w', .inl (by simp [execOp, ho, hrun']), _, _, _, _, ρ3, hmem, hle, ?_, hr, c1 (geqT (nvD n0) (litD 0) (Int.natCast_nonneg i)) (c1 (BT.den_mono hle hf) (hc.mono hle))⟩
      rw [hek, hev, hv]
      have d3 := den_slice_of n1 (off := .lit 0) (o := 0) rfl e62 (nvD n2)
      simp only [AVal.den, AVal.denL, BT.den, ek, Option.map_some] at d3 ⊢
      rw [d3]; rfl
end
end Go.Vm
end

/-
  A machine for abstract states over the model (part 39): the entry that has come, its row lent.
-/
section
namespace Go.Vm
open Mr

/-- Every row has one number at least, three hundred at most. -/
def fSmall (x _ : Int) : Int := if (esOf x).all (fun p => Nat.ble 1 p.2.length && Nat.ble p.2.length 300) then 1 else 0
def smallT (c : IT) : BT := .cmp .eql (.fn 73 c (.lit 0)) (.lit 1)
def enLeaf (l r : Nat) (c s kt : IT) (H : Heap) (nl : Nat) (cs : Cs) : Leaf := .ret (.tuple [.int .i64 kt, .slice (nl + 1) (.lit 0) (.fn 62 c kt) (.nv nl)]) ((H.set l ⟨.big 4 (.un 3 (.un 3 (.un 3 (rgT r c (.un 3 s kt)) kt) (.nv (nl + 1))) (.nv nl)), true⟩).set (nl + 1) ⟨rowB c kt nl, true⟩) (nl + 2) ((.cmp .geq (.fn 62 c kt) (.lit 1), true) :: (.cmp .leq (.fn 62 c kt) (.lit 300), true) :: cs)
def hkEntry (l : Nat) : OpF := fun o ev H nl cs => match o with
  | .entry x => match ev x with
    | some (.ptr r (.lit (.ofNat 0))) => match H.get l with
      | some ⟨.big 3 (.un 3 (.un 1 (.nv r') c) (.un 3 s kt)), true⟩ => cond (Nat.beq r' r && isB (lookB cs (smallT c)) true) (some [enLeaf l r c s kt H nl cs]) none
      | _ => none
    | _ => none
  | _ => none
section
variable {P : Program} {β : Base} {ρ : Env}
/-- The row that lies under a key, from any account of the entries. -/
theorem lend_same {es : Es} {w : World} {b : Nat} {F : Nat → Prop} (h : RowsIn none es w b F) {m : Array MapEntry} {cl : Nat} (hg : w.heap[b]? = some (.map m cl)) {e : MapEntry} (he : e ∈ m.toList) {k : Int} (hek : e.key = .int .i64 k) :
    ∃ L y0 c o, getE es k = some L ∧ e.val = .slice (some ⟨y0, 0, none⟩) L.length c ∧ F y0 ∧ w.heap[y0]? = some o ∧ RowM L c o ∧ RowsIn (some k) es w b fun y => F y ∧ y ≠ y0 := by
  have h0 := h
  obtain ⟨hnd, m2, cl2, sv, ad, cap, hg2, hb2, hm2, _⟩ := h
  obtain ⟨rfl, rfl⟩ : m2 = m ∧ cl2 = cl := by
    have := hg2.symm.trans hg
    simp only [Option.some.injEq, Obj.map.injEq] at this
    exact this
  have hlist : m2.toList.map kvOf = (es.map (valR none sv ad cap)).map kvI := hm2
  obtain ⟨i, hi⟩ := List.getElem?_of_mem he
  obtain ⟨k2, v, hiv, hek2, hev⟩ := entry_at hlist hi
  rw [hek] at hek2
  obtain rfl := (Value.int.inj hek2).2
  obtain ⟨L, hiL, hv⟩ : ∃ L, es[i]? = some (k, L) ∧ v = .slice (some ⟨ad k, 0, none⟩) L.length (cap k) := by
    rw [List.getElem?_map] at hiv
    cases hes : es[i]? with
    | none => rw [hes] at hiv; cases hiv
    | some p =>
      rw [hes] at hiv
      simp only [Option.map_some, Option.some.injEq, valR, Prod.mk.injEq] at hiv
      obtain ⟨rfl, rfl⟩ := hiv
      exact ⟨p.2, rfl, by simp⟩
  have hgE := getE_at hnd hiL
  obtain ⟨y0, c, o, ⟨lv, hM, hgv⟩, hF, _, ho, hr, hR⟩ := h0.lend hgE
  obtain ⟨es1, cl1, q1, q2, _⟩ := hM
  obtain ⟨rfl, rfl⟩ : es1 = m2 ∧ cl1 = cl2 := by
    have := q1.symm.trans hg
    simp only [Option.some.injEq, Obj.map.injEq] at this
    exact this
  have hlv : lv = es.map (valR none sv ad cap) := by
    have := q2.symm.trans hlist
    exact List.map_inj_right (fun a b e => by
      obtain ⟨a1, a2⟩ := a; obtain ⟨b1, b2⟩ := b
      simp only [kvI, Prod.mk.injEq, Value.int.injEq] at e
      rw [e.1.2, e.2]) |>.1 this
  subst hlv
  have hg3 : gets (es.map (valR none sv ad cap)) k = some (.slice (some ⟨ad k, 0, none⟩) L.length (cap k)) := by
    have := gets_val (f := fun p => (valR none sv ad cap p).2) (es := es) (k := k)
    rw [hgE] at this
    exact this
  rw [hg3] at hgv
  exact ⟨L, y0, c, o, hgE, by rw [hev, hv]; exact Option.some.inj hgv, hF, ho, hr, hR⟩
theorem hkEntry_ok (hG : ∀ I B S V F, β.G I B S V F → (GMr I B S V F ∧ GRg I B S V F) ∧ F 73 = fSmall) (l : Nat) : HookOk P β (hkEntry l) := by
  intro o ev H nl cs ls ρ w f h he hh hc _
  unfold hkEntry at h
  split at h
  rotate_left
  · cases h
  rename_i xo ho
  split at h
  rotate_left
  · cases h
  rename_i r hx
  split at h
  rotate_left
  · cases h
  rename_i r' c s kt hl
  cases hb : (Nat.beq r' r && isB (lookB cs (smallT c)) true) with
  | false => rw [hb] at h; cases h
  | true =>
    rw [hb] at h; simp only [cond_true, Option.some.injEq] at h
    simp only [Bool.and_eq_true] at hb
    obtain ⟨hb, hsm⟩ := hb
    obtain rfl := Nat.eq_of_beq_eq_true hb
    subst h
    obtain ⟨bi0, hfx, hNr⟩ := den_ptr0 (he xo _ hx)
    obtain ⟨b, x, F, hN, hxd, hfam, _⟩ := hh.bigTurn hl
    have hR : ∃ (bi : Nat) (es : Es) (seen : List Int), x = encL [(bi : Int), codeE es, encL seen] ∧ RangeIn none bi es seen w b F := by
      rcases hfam with ⟨h, _⟩ | ⟨h, _⟩ | ⟨h, _⟩ | ⟨_, bi, es, seen, h⟩ | ⟨h, _⟩ | ⟨h, _⟩
      · cases h
      · cases h
      · cases h
      · exact ⟨bi, es, seen, h⟩
      · cases h
      · cases h
    obtain ⟨bi, es, seen, rfl, hR⟩ := hR
    obtain ⟨hNr2, hcd, hsd⟩ := rgT_inv hxd
    obtain rfl : bi0 = bi := by rw [hNr] at hNr2; exact Option.some.inj hNr2
    obtain ⟨⟨⟨g60, g61, g62, g63⟩, g64, g65⟩, g73⟩ := hG _ _ _ _ _ hh.g
    have hsmall : ∀ p ∈ es, 1 ≤ p.2.length ∧ p.2.length ≤ 300 := by
      unfold isB at hsm
      split at hsm
      · rename_i e0 he0
        have h1 := lookB_ok he0 hc
        rw [← eq_of_beq hsm] at h1
        have e1 : (IT.fn 73 c (.lit 0)).den ρ = some (fSmall (codeE es) 0) := by rw [fnD hcd (litD 0), g73]
        unfold smallT at h1
        rw [cmpD e1 (litD 1)] at h1
        intro p hp
        by_cases hall : (es.all fun p => Nat.ble 1 p.2.length && Nat.ble p.2.length 300) = true
        · have := List.all_eq_true.1 hall p hp
          simp only [Bool.and_eq_true, Nat.ble_eq] at this
          exact this
        · exfalso
          unfold fSmall at h1
          rw [esOf_code, if_neg hall] at h1
          cases h1
      · cases hsm
    obtain ⟨y, k, hsy, hkz, e0⟩ := un_inv hsd
    have hseen : seen = decL y ++ [k] := encL_inj e0
    obtain ⟨⟨F0, hRow, hF0, hF⟩, ⟨m, cl, since, sn, hgm, hgi, hold, hsc, hsn, hlast⟩, honce, hkeys⟩ := hR
    obtain ⟨e, hem, hek, s0, rfl⟩ := hlast k (by rw [hseen, List.getLast?_append, List.getLast?_singleton]; rfl)
    have hborn : (m.toList.map (·.born)).Nodup := by
      obtain ⟨_, m2, cl2, _, _, _, hg2, hb2, _⟩ := hRow
      have := hg2.symm.trans hgm
      simp only [Option.some.injEq, Obj.map.injEq] at this
      rw [← this.1]; exact hb2.2
    have hrun := run_entry_at (P := P) w bi0 b since s0 m cl e hgi hgm hem hborn
    obtain ⟨L, y0, cp, ob, hgE, hev, _, _, _, _⟩ := lend_same hRow hgm hem hek
    have h1 := hh.num cp
    have hle1 : ρ.Le (ρ.put nl cp) := Env.le_put (hh.fresh nl (Nat.le_refl _))
    obtain ⟨b2, x2, F2, hN2, hx2, hfam2, cont⟩ := h1.bigTake hl
    obtain rfl : b2 = b := by have := hle1.n _ _ hN; rw [hN2] at this; exact Option.some.inj this
    have hR2 : RangeIn none bi0 es seen w b2 F2 := by
      have e2 := IT.den_mono hle1 hxd
      rw [hx2] at e2
      have e2 := Option.some.inj e2
      rcases hfam2 with ⟨h, _⟩ | ⟨h, _⟩ | ⟨h, _⟩ | ⟨_, bi3, es3, seen3, e3, hR3⟩ | ⟨h, _⟩ | ⟨h, _⟩
      · cases h
      · cases h
      · cases h
      · have e4 := encL_inj (e3.symm.trans e2)
        simp only [List.cons.injEq, and_true] at e4
        obtain ⟨a1, a2, a3⟩ := e4
        rw [← codeE_inj a2, ← encL_inj a3, ← Int.ofNat.inj a1]; exact hR3
      · cases h
      · cases h
    obtain ⟨⟨F3, hRow3, hF3, hFF⟩, hit3, honce3, hkeys3⟩ := hR2
    obtain ⟨L', y1, cp1, o1, hgE1, hev1, hFy, hoy, hrow, hRowL⟩ := lend_same hRow3 hgm hem hek
    rw [hgE] at hgE1; cases hgE1
    obtain ⟨rfl, rfl⟩ : y0 = y1 ∧ cp = cp1 := by
      rw [hev] at hev1
      simp only [Value.slice.injEq, Option.some.injEq, Addr.mk.injEq] at hev1
      exact ⟨hev1.1.1, hev1.2.2⟩
    have hle2 : (ρ.put nl cp).Le ((ρ.put nl cp).put (nl + 1) y0) := Env.le_put (h1.fresh (nl + 1) (Nat.le_refl _))
    have hle : ρ.Le ((ρ.put nl cp).put (nl + 1) y0) := hle1.trans hle2
    have hcd3 := IT.den_mono hle hcd
    have hkk := IT.den_mono hle hkz
    have e61 : (IT.fn 61 c kt).den ((ρ.put nl cp).put (nl + 1) y0) = some (encL L) := by
      rw [fnD hcd3 hkk, hle.f, g61]; simp [fRow, esOf_code, hgE]
    have e62 : (IT.fn 62 c kt).den ((ρ.put nl cp).put (nl + 1) y0) = some (L.length : Int) := by
      rw [fnD hcd3 hkk, hle.f, g62]; simp [fLen, esOf_code, hgE]
    have eN : ((ρ.put nl cp).put (nl + 1) y0).N nl = some cp := hle2.n _ _ (Env.put_same ..)
    have eN1 : ((ρ.put nl cp).put (nl + 1) y0).N (nl + 1) = some y0 := Env.put_same ..
    have hyb : y0 ≠ bi0 := fun e => hF3 (e ▸ hFy)
    have hG4 : RangeIn (some k) bi0 es seen w b2 fun y => F2 y ∧ y ≠ y0 := by
      refine ⟨⟨fun y => F3 y ∧ y ≠ y0, hRowL, fun h => hF3 h.1, fun y => ?_⟩, hit3, honce3, hkeys3⟩
      rw [hFF y]
      constructor
      · rintro ⟨h1 | h1, h2⟩
        · exact .inl ⟨h1, h2⟩
        · exact .inr h1
      · rintro (⟨h1, h2⟩ | rfl)
        · exact ⟨.inl h1, h2⟩
        · exact ⟨.inr rfl, fun e => hyb e.symm⟩
    have eu : (IT.un 3 (.un 3 (.un 3 (rgT r' c (.un 3 s kt)) kt) (.nv (nl + 1))) (.nv nl)).den ((ρ.put nl cp).put (nl + 1) y0) = some (encL [(bi0 : Int), codeE es, encL seen, k, (y0 : Int), (cp : Int)]) := by
      have hxd3 : (rgT r' c (.un 3 s kt)).den ((ρ.put nl cp).put (nl + 1) y0) = some (encL [(bi0 : Int), codeE es, encL seen]) := IT.den_mono hle hxd
      rw [unD (unD (unD hxd3 hkk) (nvD eN1)) (nvD eN)]
      show some (encL (decL (encL (decL (encL (decL (encL [(bi0 : Int), codeE es, encL seen]) ++ [k])) ++ [(y0 : Int)])) ++ [(cp : Int)])) = _
      simp only [decL_encL, List.cons_append, List.nil_append]
    obtain ⟨cc, fr, rfl, hpre, hcs, hfz⟩ := hrow
    have hrel : (rowB c kt nl).rel ((ρ.put nl cp).put (nl + 1) y0) true (.cells cc 3 fr) := by
      refine ⟨rowOf [.i64] L, cc, fr, 3, L.length, 0, rfl, fun _ => rfl, ?_, rfl, ⟨Nat.zero_le _, ?_⟩, e62, rowOf_typed (by simp), ⟨cp, nvD eN, by simpa using hcs⟩, fun _ => hfz⟩
      · simp only [AT.den, e61, Option.map_some, decL_encL]
      · rw [List.drop_zero, rowOf1z]; exact hpre
    have hr := cont (k' := 4) (c' := .un 3 (.un 3 (.un 3 (rgT r' c (.un 3 s kt)) kt) (.nv (nl + 1))) (.nv nl)) (x' := encL [(bi0 : Int), codeE es, encL seen, k, (y0 : Int), (cp : Int)]) (F' := fun y => F2 y ∧ y ≠ y0) (kb := rowB c kt nl) (.inr (.inr (.inr (.inr (.inl ⟨rfl, bi0, es, seen, k, y0, cp, rfl, hG4, L, m, cl, e, getE_mem hgE, hgm, hem, hek, hev⟩))))) (fun _ h => h) ((hFF y0).2 (.inl hFy)) hoy rfl eu hrel
    have hrun' : (Instr.entry (f xo)).run P w = .ok (.tuple #[e.key, e.val]) w := by rw [hfx]; exact hrun
    refine ⟨.tuple #[e.key, e.val], w, .inl (by simp [execOp, ho, hrun']), _, _, _, _, _, List.mem_cons_self, hle, ?_, hr, c1 (geqT e62 (litD 1) (by have := (hsmall _ (getE_mem hgE)).1; simp only at this; omega)) (c1 (leqT e62 (litD 300) (by have := (hsmall _ (getE_mem hgE)).2; simp only at this; omega)) (hc.mono hle))⟩
    rw [hek, hev]
    have d3 := den_slice_of eN1 (off := .lit 0) (o := 0) rfl e62 (nvD eN)
    simp only [AVal.den, AVal.denL, hkk, Option.map_some] at d3 ⊢
    rw [d3]; rfl
end
end Go.Vm
end
