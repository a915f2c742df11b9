/-
  A machine for abstract states over the model (part 33): a map of rows lends a row, and takes one.
-/
import Derived.Test.YtglghnfbkiondaaDoorVm32
section
namespace Go.Vm
namespace Mr

def getE : Es → Int → Option (List Int)
  | [], _ => none
  | (a, L) :: r, k => if a = k then some L else getE r k
def putE : Es → Int → List Int → Es
  | [], k, L => [(k, L)]
  | (a, M) :: r, k, L => if a = k then (k, L) :: r else (a, M) :: putE r k L
theorem getE_mem : ∀ {es : Es} {k : Int} {L : List Int}, getE es k = some L → (k, L) ∈ es
  | (a, M) :: r, k, L, h => by
    simp only [getE] at h
    split at h
    · rename_i e; cases h; rw [e]; exact List.mem_cons_self
    · exact List.mem_cons_of_mem _ (getE_mem h)
theorem getE_none : ∀ {es : Es} {k : Int}, getE es k = none → ∀ p ∈ es, p.1 ≠ k
  | (a, M) :: r, k, h, p, hp => by
    simp only [getE] at h
    split at h
    · cases h
    · rename_i hne
      rcases List.mem_cons.1 hp with rfl | hp
      · exact hne
      · exact getE_none h p hp
theorem putE_new : ∀ {es : Es} {k : Int} {L : List Int}, getE es k = none → putE es k L = es ++ [(k, L)]
  | [], _, _, _ => rfl
  | (a, M) :: r, k, L, h => by
    simp only [getE] at h
    split at h
    · cases h
    · rename_i hne
      simp only [putE, if_neg hne, putE_new h, List.cons_append]
theorem putE_keys : ∀ {es : Es} {k : Int} {L M : List Int}, getE es k = some M → (putE es k L).map (·.1) = es.map (·.1)
  | (a, N) :: r, k, L, M, h => by
    simp only [getE] at h
    by_cases e : a = k
    · simp only [putE, if_pos e, List.map_cons]; rw [e]
    · rw [if_neg e] at h
      simp only [putE, if_neg e, List.map_cons, putE_keys h]
theorem mem_putE : ∀ {es : Es} {k : Int} {L : List Int} {p : Int × List Int}, (es.map (·.1)).Nodup → p ∈ putE es k L → p = (k, L) ∨ (p ∈ es ∧ p.1 ≠ k)
  | [], k, L, p, _, h => .inl (List.mem_singleton.1 h)
  | (a, M) :: r, k, L, p, hn, h => by
    simp only [List.map_cons, List.nodup_cons] at hn
    by_cases e : a = k
    · simp only [putE, if_pos e] at h
      rcases List.mem_cons.1 h with h | h
      · exact .inl h
      · exact .inr ⟨List.mem_cons_of_mem _ h, fun hk => hn.1 (by rw [e, ← hk]; exact List.mem_map.2 ⟨p, h, rfl⟩)⟩
    · simp only [putE, if_neg e] at h
      rcases List.mem_cons.1 h with rfl | h
      · exact .inr ⟨List.mem_cons_self, e⟩
      · rcases mem_putE hn.2 h with h | ⟨h, h2⟩
        · exact .inl h
        · exact .inr ⟨List.mem_cons_of_mem _ h, h2⟩
theorem putE_self : ∀ {es : Es} {k : Int} {L : List Int}, (k, L) ∈ putE es k L
  | [], _, _ => List.mem_cons_self
  | (a, M) :: r, k, L => by
    by_cases e : a = k
    · simp only [putE, if_pos e]; exact List.mem_cons_self
    · simp only [putE, if_neg e]; exact List.mem_cons_of_mem _ putE_self
theorem putE_keep : ∀ {es : Es} {k : Int} {L : List Int} {p : Int × List Int}, p ∈ es → p.1 ≠ k → p ∈ putE es k L
  | (a, M) :: r, k, L, p, h, hne => by
    by_cases e : a = k
    · simp only [putE, if_pos e]
      rcases List.mem_cons.1 h with rfl | h
      · exact absurd e hne
      · exact List.mem_cons_of_mem _ h
    · simp only [putE, if_neg e]
      rcases List.mem_cons.1 h with rfl | h
      · exact List.mem_cons_self
      · exact List.mem_cons_of_mem _ (putE_keep h hne)
theorem putE_nodup {es : Es} {k : Int} {L : List Int} (hn : (es.map (·.1)).Nodup) : ((putE es k L).map (·.1)).Nodup := by
  cases h : getE es k with
  | none =>
    rw [putE_new h, List.map_append]
    refine List.nodup_append.2 ⟨hn, by simp, fun a ha b hb => ?_⟩
    obtain ⟨p, hp, rfl⟩ := List.mem_map.1 ha
    obtain rfl : b = k := by simpa using hb
    exact getE_none h p hp
  | some M => rw [putE_keys h]; exact hn
theorem gets_val {f : Int × List Int → Value} : ∀ {es : Es} {k : Int}, gets (es.map fun p => (p.1, f p)) k = (getE es k).map fun L => f (k, L)
  | [], _ => rfl
  | (a, L) :: r, k => by
    simp only [List.map_cons, gets, getE]
    by_cases e : a = k
    · subst e; simp only [if_true, Option.map_some]
    · simp only [if_neg e]; exact gets_val
/-- The values of the keys left alone; that of this key. -/
theorem puts_val {f g : Int × List Int → Value} {k : Int} {L : List Int} {v : Value} (hv : g (k, L) = v) : ∀ {es : Es}, (∀ p ∈ es, p.1 ≠ k → g p = f p) → (es.map (·.1)).Nodup → puts (es.map fun p => (p.1, f p)) k v = (putE es k L).map fun p => (p.1, g p)
  | [], _, _ => by simp only [List.map_nil, puts, putE, List.map_cons, hv]
  | (a, M) :: r, h, hn => by
    simp only [List.map_cons, List.nodup_cons] at hn
    simp only [List.map_cons, puts, putE]
    by_cases e : a = k
    · subst e
      simp only [if_true, List.map_cons, hv]
      congr 1
      refine List.map_congr_left fun p hp => ?_
      have hne : p.1 ≠ a := fun h2 => hn.1 (by rw [← h2]; exact List.mem_map.2 ⟨p, hp, rfl⟩)
      rw [h p (List.mem_cons_of_mem _ hp) hne]
    · simp only [if_neg e, List.map_cons, h _ List.mem_cons_self e]
      rw [puts_val hv (fun p hp => h p (List.mem_cons_of_mem _ hp)) hn.2]
theorem RowsIn.mapAt {hole : Option Int} {es : Es} {w : World} {b : Nat} {F : Nat → Prop} (h : RowsIn hole es w b F) : ∃ sv ad cap, MapAt w b (es.map (valR hole sv ad cap)) := by
  obtain ⟨_, m, cl, sv, ad, cap, h1, hb, hm, _⟩ := h
  exact ⟨sv, ad, cap, m, cl, h1, hm, hb⟩
/-- A row is lent. -/
theorem RowsIn.lend {es : Es} {w : World} {b : Nat} {F : Nat → Prop} (h : RowsIn none es w b F) {k : Int} {L : List Int} (hk : getE es k = some L) :
    ∃ y0 c o, (∃ l, MapAt w b l ∧ gets l k = some (.slice (some ⟨y0, 0, none⟩) L.length c)) ∧ F y0 ∧ y0 ≠ b ∧ w.heap[y0]? = some o ∧ RowM L c o ∧ RowsIn (some k) es w b fun y => F y ∧ y ≠ y0 := by
  obtain ⟨hn, m, cl, sv, ad, cap, h1, hb, hm, h2, h3, hF⟩ := h
  have hmem := getE_mem hk
  obtain ⟨hne, o, ho, hr⟩ := h2 _ hmem (by simp)
  have hg : gets (es.map (valR none sv ad cap)) k = some (.slice (some ⟨ad k, 0, none⟩) L.length (cap k)) := by
    have := gets_val (f := fun p => (valR none sv ad cap p).2) (es := es) (k := k)
    rw [hk] at this
    exact this
  refine ⟨ad k, cap k, o, ⟨_, ⟨m, cl, h1, hm, hb⟩, hg⟩, (hF _).2 (.inr ⟨_, hmem, by simp, rfl⟩), hne, ho, hr, hn, m, cl, .slice (some ⟨ad k, 0, none⟩) L.length (cap k), ad, cap, h1, hb, ?_, fun p hp hh => h2 p hp (by simp), fun p hp q hq _ _ => h3 p hp q hq (by simp) (by simp), fun y => ?_⟩
  · rw [hm]
    congr 1
    refine List.map_congr_left fun p hp => ?_
    obtain ⟨pk, pL⟩ := p
    simp only [valR]
    by_cases e : k = pk
    · subst e
      have : pL = L := by
        have aux : ∀ {es : Es} {k : Int} {L M : List Int}, (es.map (·.1)).Nodup → (k, L) ∈ es → (k, M) ∈ es → L = M := fun {es k L M} hn h1 h2 => by
          induction es with
          | nil => cases h1
          | cons x r ih =>
            simp only [List.map_cons, List.nodup_cons] at hn
            rcases List.mem_cons.1 h1 with e1 | h1
            · rcases List.mem_cons.1 h2 with e2 | h2
              · rw [← e1] at e2; exact (Prod.mk.inj e2).2.symm
              · exact absurd (by rw [← e1]; exact List.mem_map.2 ⟨_, h2, rfl⟩) hn.1
            · rcases List.mem_cons.1 h2 with e2 | h2
              · exact absurd (by rw [← e2]; exact List.mem_map.2 ⟨_, h1, rfl⟩) hn.1
              · exact ih hn.2 h1 h2
        exact aux hn hp hmem
      subst this
      simp
    · have : ¬ (some k = some pk) := fun h => e (Option.some.inj h)
      simp [e]
  · constructor
    · rintro ⟨hy, hne'⟩
      rcases (hF y).1 hy with rfl | ⟨p, hp, _, rfl⟩
      · exact .inl rfl
      · exact .inr ⟨p, hp, fun h => hne' (by rw [Option.some.inj h]), rfl⟩
    · rintro (rfl | ⟨p, hp, hh, rfl⟩)
      · exact ⟨(hF _).2 (.inl rfl), fun h => hne h.symm⟩
      · refine ⟨(hF _).2 (.inr ⟨p, hp, by simp, rfl⟩), fun h => hh ?_⟩
        rw [h3 p hp _ hmem (by simp) (by simp) h]
/-- A row is given. -/
theorem RowsIn.give {hole : Option Int} {es : Es} {w : World} {b : Nat} {F : Nat → Prop} (h : RowsIn hole es w b F) {k : Int} (hh : hole = some k ∨ (hole = none ∧ getE es k = none)) {y0 c : Nat} {o : Obj} {L : List Int} (hF0 : ¬ F y0) (ho : w.heap[y0]? = some o) (hr : RowM L c o) :
    ∃ l, MapAt w b l ∧ ∀ m cl, m.toList.map kvOf = (puts l k (.slice (some ⟨y0, 0, none⟩) L.length c)).map kvI → Born m cl → RowsIn none (putE es k L) { w with heap := w.heap.setIfInBounds b (.map m cl) } b fun y => F y ∨ y = y0 := by
  have hroot := h.root
  have hblt := h.lt hroot
  obtain ⟨hn, m0, cl0, sv, ad, cap, h1, hb, hm, h2, h3, hF⟩ := h
  refine ⟨_, ⟨m0, cl0, h1, hm, hb⟩, fun m cl hm2 hb2 => ?_⟩
  have hyb : y0 ≠ b := fun e => hF0 (e ▸ hroot)
  have hnk : ∀ p ∈ es, p.1 ≠ k → hole ≠ some p.1 := fun p _ hne e => by
    rcases hh with h | ⟨h, _⟩
    · rw [h] at e; exact hne (Option.some.inj e).symm
    · rw [h] at e; cases e
  have same : ∀ y, y ≠ b → (w.heap.setIfInBounds b (.map m cl))[y]? = w.heap[y]? := fun y hy => by simp [hy.symm]
  refine ⟨putE_nodup hn, m, cl, sv, fun x => if x = k then y0 else ad x, fun x => if x = k then c else cap x, by simp [hblt], hb2, ?_, fun p hp _ => ?_, fun p hp q hq _ _ e => ?_, fun y => ?_⟩
  · have hp := puts_val (f := fun p => (valR hole sv ad cap p).2) (g := fun p => (valR none sv (fun x => if x = k then y0 else ad x) (fun x => if x = k then c else cap x) p).2) (k := k) (L := L) (v := .slice (some ⟨y0, 0, none⟩) L.length c) (by simp [valR]) (es := es) (fun p hp hne => by simp [valR, hne, hnk p hp hne]) hn
    exact hm2.trans (congrArg (List.map kvI) hp)
  · rcases mem_putE hn hp with rfl | ⟨hp, hne⟩
    · simp only [if_true]
      exact ⟨hyb, o, (same y0 hyb).trans ho, hr⟩
    · simp only [if_neg hne]
      obtain ⟨a1, o1, a2, a3⟩ := h2 p hp (hnk p hp hne)
      exact ⟨a1, o1, (same _ a1).trans a2, a3⟩
  · simp only at e
    rcases mem_putE hn hp with rfl | ⟨hp, hne⟩
    · rcases mem_putE hn hq with rfl | ⟨hq, hne2⟩
      · rfl
      · simp only [if_true, if_neg hne2] at e
        exact absurd ((hF _).2 (.inr ⟨q, hq, hnk q hq hne2, e⟩)) hF0
    · rcases mem_putE hn hq with rfl | ⟨hq, hne2⟩
      · simp only [if_true, if_neg hne] at e
        exact absurd ((hF _).2 (.inr ⟨p, hp, hnk p hp hne, e.symm⟩)) hF0
      · simp only [if_neg hne, if_neg hne2] at e
        exact h3 p hp q hq (hnk p hp hne) (hnk q hq hne2) e
  · constructor
    · rintro (hy | rfl)
      · rcases (hF y).1 hy with rfl | ⟨p, hp, hh2, rfl⟩
        · exact .inl rfl
        · by_cases hpk : p.1 = k
          · exfalso
            rcases hh with h | ⟨_, h⟩
            · exact hh2 (by rw [h, hpk])
            · exact getE_none h p hp hpk
          · exact .inr ⟨p, putE_keep hp hpk, by simp, by simp [hpk]⟩
      · exact .inr ⟨_, putE_self, by simp, by simp⟩
    · rintro (rfl | ⟨p, hp, _, rfl⟩)
      · exact .inl hroot
      · rcases mem_putE hn hp with rfl | ⟨hp, hne⟩
        · simp
        · simp only [if_neg hne]
          exact .inl ((hF _).2 (.inr ⟨p, hp, hnk p hp hne, rfl⟩))
end Mr
end Go.Vm
end

/-
  A machine for abstract states over the model (part 34): what a map of rows answers, and what is put into it: as operations that are known.
-/
section
namespace Go.Vm
open Mr

theorem rowOf1z (L : List Int) : rowOf [.i64] L = L.map (Value.int .i64) := by
  apply List.ext_getElem?
  intro i
  rw [rowOf_get, List.getElem?_map]
  have : i % [IntKind.i64].length = 0 := Nat.mod_one i
  rw [this]; rfl
def fHas (x k : Int) : Int := if (getE (esOf x) k).isSome then 1 else 0
def fRow (x k : Int) : Int := encL ((getE (esOf x) k).getD [])
def fLen (x k : Int) : Int := (((getE (esOf x) k).getD []).length : Nat)
/-- One more number in the row of a key. -/
def addE (es : Es) (k v : Int) : Es := putE es k ((getE es k).getD [] ++ [v])
def fUpd (x y : Int) : Int := codeE (addE (esOf x) ((decL y).getD 0 0) ((decL y).getD 1 0))
def GMr : GP := fun _ _ _ _ F => F 60 = fHas ∧ F 61 = fRow ∧ F 62 = fLen ∧ F 63 = fUpd
def hasT (c k : IT) : BT := .cmp .eql (.fn 60 c k) (.lit 1)
def rowB (c k : IT) (cp : Nat) : ABlk := .arr (.code [.i64] (.fn 61 c k)) [.i64] 3 (.fn 62 c k) (.lit 0) (some (.nv cp))
def lkNo (c kt : IT) (H : Heap) (nl : Nat) (cs : Cs) : Leaf := .ret .sliceNil H nl ((hasT c kt, false) :: cs)
def lkYes (l : Nat) (c kt : IT) (H : Heap) (nl : Nat) (cs : Cs) : Leaf := .ret (.slice (nl + 1) (.lit 0) (.fn 62 c kt) (.nv nl)) ((H.set l ⟨.big 1 (.un 1 kt c), true⟩).set (nl + 1) ⟨rowB c kt nl, true⟩) (nl + 2) ((hasT c kt, true) :: cs)
def hkLook (t : TypeId) : OpF := fun o ev H nl cs => match o with
  | .lookup t' m k false => cond (Nat.beq t' t) (match ev m, ev k with
    | some (.map l), some (.int .i64 kt) => match H.get l with
      | some ⟨.big 0 c, true⟩ => match lookB cs (hasT c kt) with
        | some true => some [lkYes l c kt H nl cs]
        | some false => some [lkNo c kt H nl cs]
        | none => some [lkNo c kt H nl cs, lkYes l c kt H nl cs]
      | _ => none
    | _, _ => none) none
  | _ => none
section
variable {P : Program} {β : Base} {t kt et : TypeId} {k0 : IntKind}
theorem hkLook_ok (hu : P.underlying t = some (.map kt et)) (hk : P.underlying kt = some (.int k0)) (hz : zeroA P et = some .sliceNil) (hG : ∀ I B S V F, β.G I B S V F → GMr I B S V F) : HookOk P β (hkLook t) := by
  intro o ev H nl cs ls ρ w f h he hh hc _
  unfold hkLook at h
  split at h
  rotate_left
  · cases h
  rename_i t' m k ho
  cases hb : Nat.beq t' t with
  | false => rw [hb] at h; cases h
  | true =>
    rw [hb] at h; simp only [cond_true] at h
    obtain rfl := Nat.eq_of_beq_eq_true hb
    split at h
    rotate_left
    · cases h
    rename_i l kt' hm hk'
    split at h
    rotate_left
    · cases h
    rename_i c hl
    obtain ⟨b, hfm, hNl⟩ := den_map (he m _ hm)
    obtain ⟨kz, hfk, hkz⟩ := den_int (he k _ hk')
    obtain ⟨b', x, F, hN', hx, hfam, _⟩ := hh.bigAt hl
    rw [hNl] at hN'; cases hN'
    have hR : ∃ es, x = codeE es ∧ RowsIn none es w b F := by
      rcases hfam with ⟨_, h⟩ | ⟨h, _⟩ | ⟨h, _⟩ | ⟨h, _⟩ | ⟨h, _⟩ | ⟨h, _⟩
      · exact h
      all_goals cases h
    obtain ⟨es, rfl, hR⟩ := hR
    obtain ⟨g60, g61, g62, _⟩ := hG _ _ _ _ _ hh.g
    have hHas : (hasT c kt').den ρ = some (fHas (codeE es) kz == 1) := by
      have e1 : (IT.fn 60 c kt').den ρ = some (fHas (codeE es) kz) := by rw [fnD hx hkz, g60]
      unfold hasT
      rw [cmpD e1 (litD 1)]
      rfl
    cases hg : getE es kz with
    | none =>
      have hf : (hasT c kt').den ρ = some false := by rw [hHas]; simp [fHas, esOf_code, hg]
      obtain ⟨sv, ad, cap, hM⟩ := hR.mapAt
      have hrun : (Instr.lookup t' (f m) (f k) false).run P w = .ok (.slice none 0 0) w := by
        have h1 := hM.lookup hu hk hz (z := .slice none 0 0) (fun _ => rfl) kz false
        have h2 := gets_val (f := fun p => (valR none sv ad cap p).2) (es := es) (k := kz)
        rw [hg] at h2
        have h3 : gets (es.map (valR none sv ad cap)) kz = none := h2
        rw [h3] at h1
        rw [hfm, hfk]; exact h1
      have hmem : lkNo c kt' H nl cs ∈ ls := by
        split at h
        · rename_i hb1; have := lookB_ok hb1 hc; rw [hf] at this; cases this
        · cases h; exact List.mem_cons_self
        · cases h; exact List.mem_cons_self
      exact ⟨.slice none 0 0, w, .inl (by simp [execOp, ho, hrun]), .sliceNil, H, nl, _, ρ, hmem, Env.Le.refl ρ, rfl, hh, c1 hf hc⟩
    | some L =>
      have hf : (hasT c kt').den ρ = some true := by rw [hHas]; simp [fHas, esOf_code, hg]
      have h1 := hh.num 0
      obtain ⟨y0, cp, o1, ⟨lv, hM, hgv⟩, _, _, _, _, _⟩ := hR.lend hg
      have h1 := hh.num cp
      have hle1 : ρ.Le (ρ.put nl cp) := Env.le_put (hh.fresh nl (Nat.le_refl _))
      obtain ⟨b2, x2, F2, hN2, hx2, hfam2, cont⟩ := h1.bigTake hl
      obtain rfl : b2 = b := by have := hle1.n _ _ hNl; rw [hN2] at this; exact Option.some.inj this
      have ex2 : x2 = codeE es := by have := IT.den_mono hle1 hx; rw [hx2] at this; exact Option.some.inj this
      subst ex2
      have hR2 : RowsIn none es w b2 F2 := by
        rcases hfam2 with ⟨_, es2, e2, h⟩ | ⟨h, _⟩ | ⟨h, _⟩ | ⟨h, _⟩ | ⟨h, _⟩ | ⟨h, _⟩
        · have := congrArg esOf e2
          rw [esOf_code, esOf_code] at this
          rw [this]; exact h
        all_goals cases h
      obtain ⟨y1, cp1, o2, ⟨lv2, hM2, hgv2⟩, hFy, hyb, hoy, hrow, hR3⟩ := hR2.lend hg
      -- the same row
      obtain ⟨es1, cl1, q1, q2, _⟩ := hM
      obtain ⟨es2, cl2, q3, q4, _⟩ := hM2
      have hsame : (es1, cl1) = (es2, cl2) := by
        have := q1.symm.trans q3
        simp only [Option.some.injEq, Obj.map.injEq] at this
        rw [this.1, this.2]
      cases hsame
      have hlv : lv = lv2 := by
        have := q2.symm.trans q4
        exact List.map_inj_right (fun a b e => by
          obtain ⟨a1, a2⟩ := a; obtain ⟨b1, b2⟩ := b
          simp only [kvI, Prod.mk.injEq, Value.int.injEq] at e
          rw [e.1.2, e.2]) |>.1 this
      subst hlv
      have hyy : y0 = y1 ∧ cp = cp1 := by
        rw [hgv] at hgv2
        simp only [Option.some.injEq, Value.slice.injEq, Addr.mk.injEq] at hgv2
        exact ⟨hgv2.1.1, hgv2.2.2⟩
      obtain ⟨rfl, rfl⟩ := hyy
      have hle2 : (ρ.put nl cp).Le ((ρ.put nl cp).put (nl + 1) y0) := Env.le_put (h1.fresh (nl + 1) (Nat.le_refl _))
      have hle : ρ.Le ((ρ.put nl cp).put (nl + 1) y0) := hle1.trans hle2
      have hxx := IT.den_mono hle hx
      have hkk := IT.den_mono hle hkz
      have e61 : (IT.fn 61 c kt').den ((ρ.put nl cp).put (nl + 1) y0) = some (encL L) := by
        rw [fnD hxx hkk, hle.f, g61]; simp [fRow, esOf_code, hg]
      have e62 : (IT.fn 62 c kt').den ((ρ.put nl cp).put (nl + 1) y0) = some (L.length : Int) := by
        rw [fnD hxx hkk, hle.f, g62]; simp [fLen, esOf_code, hg]
      have eN : ((ρ.put nl cp).put (nl + 1) y0).N nl = some cp := hle2.n _ _ (Env.put_same ..)
      have eN1 : ((ρ.put nl cp).put (nl + 1) y0).N (nl + 1) = some y0 := Env.put_same ..
      have eu : (IT.un 1 kt' c).den ((ρ.put nl cp).put (nl + 1) y0) = some (encL [kz, codeE es]) := unD hkk hxx
      obtain ⟨cc, fr, rfl, hpre, hcs, hfz⟩ := hrow
      have hrel : (rowB c kt' nl).rel ((ρ.put nl cp).put (nl + 1) y0) true (.cells cc 3 fr) := by
        refine ⟨rowOf [.i64] L, cc, fr, 3, L.length, 0, rfl, fun _ => rfl, ?_, rfl, ⟨Nat.zero_le _, ?_⟩, e62, rowOf_typed (by simp), ⟨cp, nvD eN, by simpa using hcs⟩, fun _ => hfz⟩
        · simp only [AT.den, e61, Option.map_some, decL_encL]
        · rw [List.drop_zero, rowOf1z]; exact hpre
      have hh' := cont (k' := 1) (c' := .un 1 kt' c) (x' := encL [kz, codeE es]) (F' := fun y => F2 y ∧ y ≠ y0) (kb := rowB c kt' nl) (.inr (.inl ⟨rfl, kz, es, rfl, hR3⟩)) (fun _ h => h) hFy hoy rfl eu hrel
      have hrun : (Instr.lookup t' (f m) (f k) false).run P w = .ok (.slice (some ⟨y0, 0, none⟩) L.length cp) w := by
        have h1 := MapAt.lookup ⟨es1, cl1, q1, q2, by assumption⟩ hu hk hz (z := .slice none 0 0) (fun _ => rfl) kz false
        rw [hgv] at h1
        rw [hfm, hfk]; exact h1
      have hmem : lkYes l c kt' H nl cs ∈ ls := by
        split at h
        · cases h; exact List.mem_cons_self
        · rename_i hb1; have := lookB_ok hb1 hc; rw [hf] at this; cases this
        · cases h; exact List.mem_cons_of_mem _ List.mem_cons_self
      exact ⟨_, w, .inl (by simp [execOp, ho, hrun]), _, _, _, _, _, hmem, hle, den_slice_of eN1 rfl e62 (nvD eN), hh', c1 (BT.den_mono hle hf) (hc.mono hle)⟩
end
end Go.Vm
end

/-
  A machine for abstract states over the model (part 35): what is put into a map of rows.
-/
section
namespace Go.Vm
open Mr

def putL (l r : Nat) (c kt x : IT) (H : Heap) (nl : Nat) (cs : Cs) : Leaf := .ret (.tuple []) ((H.del r).set l ⟨.big 0 (.fn 63 c (.un 1 kt x)), true⟩) nl cs
def isB (o : Option Bool) (b : Bool) : Bool := match o with
  | some c => b == c
  | none => false
def hkPut (t : TypeId) : OpF := fun o ev H nl cs => match o with
  | .mapUpdate t' m k v => cond (Nat.beq t' t) (match ev m, ev k, ev v with
    | some (.map l), some (.int .i64 kt), some (.slice r (.lit (.ofNat 0)) n (.nv cp)) => match H.get l, H.get r with
      | some ⟨.big 0 c, true⟩, some ⟨.cells [.int .i64 x] 3 (some (cp', 1)), true⟩ => cond (Nat.beq cp' cp && (IT.beq n (.lit 1) && isB (lookB cs (hasT c kt)) false)) (some [putL l r c kt x H nl cs]) none
      | some ⟨.big 1 (.un 1 kt' c), true⟩, some ⟨.arr (.snoc (.code [.i64] u) [.int .i64 x]) [.i64] 3 n' (.lit (.ofNat 0)) (some (.nv cp')), true⟩ => cond (Nat.beq cp' cp && (IT.beq n' n && (IT.beq kt' kt && (IT.beq u (.fn 61 c kt) && isB (lookB cs (hasT c kt)) true)))) (some [putL l r c kt x H nl cs]) none
      | _, _ => none
    | _, _, _ => none) none
  | _ => none
section
variable {P : Program} {β : Base} {t kt et : TypeId} {k0 : IntKind} {ρ : Env} {H : Heap} {nl : Nat} {w : World}
theorem put_core (hu : P.underlying t = some (.map kt et)) (hk : P.underlying kt = some (.int k0)) (hh : HRel β ρ H nl w) (hown : β.own = []) {hole : Option Int} {l r k : Nat} {c : IT} {kb : ABlk} (hl : H.get l = some ⟨.big k c, true⟩) (hr : H.get r = some ⟨kb, true⟩) (hnb : kb.nb = true) {es : Es}
    (hfam : ∀ b x F, ρ.N l = some b → c.den ρ = some x → fam k x w b F → RowsIn hole es w b F) {kz : Int} (hhole : hole = some kz ∨ (hole = none ∧ getE es kz = none)) {L : List Int} {cap : Nat} (hrow : ∀ o, kb.rel ρ true o → RowM L cap o) {c' : IT} (hc' : c'.den ρ = some (codeE (putE es kz L))) :
    ∃ b y0 w', ρ.N l = some b ∧ ρ.N r = some y0 ∧ (Instr.mapUpdate t (.map (some b)) (.int .i64 kz) (.slice (some ⟨y0, 0, none⟩) L.length cap)).run P w = .ok () w' ∧ HRel β ρ ((H.del r).set l ⟨.big 0 c', true⟩) nl w' := by
  obtain ⟨b, x, F, y0, o, hN, hx, hf, hNr, ho, hrel, hF0, cont⟩ := hh.bigGive hown hl hr hnb
  have hR := hfam b x F hN hx hf
  obtain ⟨lv, hM, hgive⟩ := hR.give hhole hF0 ho (hrow o hrel)
  obtain ⟨es', cl', hrun, hm, hb⟩ := hM.update hu hk kz (.slice (some ⟨y0, 0, none⟩) L.length cap)
  have hR' := hgive es' cl' hm hb
  have hroot := hR.root
  refine ⟨b, y0, _, hN, hNr, hrun, cont (k' := 0) (x' := codeE (putE es kz L)) (F' := fun y => F y ∨ y = y0) ⟨by simp, fun y _ hy => ?_, rfl, rfl, rfl, fun y hy => ?_⟩ (.inl ⟨rfl, _, rfl, hR'⟩) hc'⟩
  · have : b ≠ y := fun e => hy (e ▸ hroot)
    simp [this]
  · rcases hy.1 with h | h
    · exact .inl h
    · exact absurd h hy.2
theorem codeE_inj {a b : Es} (h : codeE a = codeE b) : a = b := by
  have := congrArg esOf h
  rwa [esOf_code, esOf_code] at this
theorem upd_den {c kt x : IT} {es : Es} {kz z : Int} (hF : ρ.F 63 = fUpd) (hc : c.den ρ = some (codeE es)) (hk : kt.den ρ = some kz) (hx : x.den ρ = some z) : (IT.fn 63 c (.un 1 kt x)).den ρ = some (codeE (putE es kz ((getE es kz).getD [] ++ [z]))) := by
  rw [fnD hc (unD hk hx), hF]
  show some (fUpd (codeE es) (encL [kz, z])) = _
  simp only [fUpd, addE, esOf_code, decL_encL, List.getD_cons_zero, List.getD_cons_succ]
theorem hkPut_ok (hu : P.underlying t = some (.map kt et)) (hk : P.underlying kt = some (.int k0)) (hown : β.own = []) (hG : ∀ I B S V F, β.G I B S V F → GMr I B S V F) : HookOk P β (hkPut t) := by
  intro o ev H nl cs ls ρ w f h he hh hc _
  unfold hkPut at h
  split at h
  rotate_left
  · cases h
  rename_i t' m k v ho
  cases hb : Nat.beq t' t with
  | false => rw [hb] at h; cases h
  | true =>
    rw [hb] at h; simp only [cond_true] at h
    obtain rfl := Nat.eq_of_beq_eq_true hb
    obtain ⟨g60, g61, g62, g63⟩ := hG _ _ _ _ _ hh.g
    have hHas : ∀ {c kq : IT} {es : Es} {kz : Int}, c.den ρ = some (codeE es) → kq.den ρ = some kz → (hasT c kq).den ρ = some (getE es kz).isSome := fun {c kq es kz} h1 h2 => by
      have e1 : (IT.fn 60 c kq).den ρ = some (fHas (codeE es) kz) := by rw [fnD h1 h2, g60]
      unfold hasT
      rw [cmpD e1 (litD 1)]
      cases hg : (getE es kz).isSome <;> simp [fHas, esOf_code, hg, intCmp]
    have hlk : ∀ {c kq : IT} {b : Bool}, isB (lookB cs (hasT c kq)) b = true → (hasT c kq).den ρ = some b := fun {c kq b} h => by
      unfold isB at h
      split at h
      · rename_i d hd
        have := lookB_ok hd hc
        rw [eq_of_beq h]; exact this
      · cases h
    split at h
    rotate_left
    · cases h
    rename_i l kq r n cp hm hk' hv
    obtain ⟨b, hfm, hNl⟩ := den_map (he m _ hm)
    obtain ⟨kz, hfk, hkz⟩ := den_int (he k _ hk')
    obtain ⟨b1, o1, n1, cp1, hfv, hNr, hoff, hn1, hcp1⟩ := den_slice (he v _ hv)
    obtain rfl : o1 = 0 := by
      have : some (Int.ofNat 0) = some (Int.ofNat o1) := hoff
      exact (Int.ofNat.inj (Option.some.inj this)).symm
    have fin : ∀ {c x : IT} {L : List Int} {w' : World} {b' y0 : Nat}, ρ.N l = some b' → ρ.N r = some y0 → n1 = L.length → ls = [putL l r c kq x H nl cs] → (Instr.mapUpdate t' (.map (some b')) (.int .i64 kz) (.slice (some ⟨y0, 0, none⟩) L.length cp1)).run P w = .ok () w' → HRel β ρ ((H.del r).set l ⟨.big 0 (.fn 63 c (.un 1 kq x)), true⟩) nl w' →
        ∃ x w', ((execOp f o).run P w = .ok (.value x) w' ∨ ((execOp f o).run P w = .ok .skip w' ∧ x = undef)) ∧ ∃ u H' nl' cs' ρ', Leaf.ret u H' nl' cs' ∈ ls ∧ ρ.Le ρ' ∧ u.den ρ' = some x ∧ HRel β ρ' H' nl' w' ∧ CRel ρ' cs' := fun {c x L w' b' y0} e1 e2 e3 e4 hrun hr' => by
      rw [hNl] at e1; cases e1
      rw [hNr] at e2; cases e2
      subst e3
      have hrun' : (Instr.mapUpdate t' (f m) (f k) (f v)).run P w = .ok () w' := by rw [hfm, hfk, hfv]; exact hrun
      refine ⟨undef, w', .inr ⟨by simp [execOp, ho, hrun'], rfl⟩, _, _, _, _, ρ, by rw [e4]; exact List.mem_cons_self, Env.Le.refl ρ, undef_den, hr', hc⟩
    split at h
    · -- a new key
      rename_i c x cp' hl hr
      cases hb : (Nat.beq cp' cp && (IT.beq n (.lit 1) && isB (lookB cs (hasT c kq)) false)) with
      | false => rw [hb] at h; cases h
      | true =>
        rw [hb] at h; simp only [cond_true, Option.some.injEq] at h
        simp only [Bool.and_eq_true] at hb
        obtain ⟨q1, q2, q3⟩ := hb
        obtain rfl := Nat.eq_of_beq_eq_true q1
        obtain rfl := IT.beq_eq q2
        obtain ⟨b', x0, F, hN', hx, hfam, _⟩ := hh.bigAt hl
        have hR : ∃ es, x0 = codeE es := by
          rcases hfam with ⟨_, es, h, _⟩ | ⟨h, _⟩ | ⟨h, _⟩ | ⟨h, _⟩ | ⟨h, _⟩ | ⟨h, _⟩
          · exact ⟨es, h⟩
          all_goals cases h
        obtain ⟨es, rfl⟩ := hR
        have hnone : getE es kz = none := by
          have h1 := (hHas hx hkz).symm.trans (hlk q3)
          have := Option.some.inj h1
          cases hg : getE es kz with
          | none => rfl
          | some L => rw [hg] at this; cases this
        obtain ⟨yr, orr, _, _, hrr⟩ := hh.blk r _ hr
        obtain ⟨xs0, cc0, fr0, rfl, hd0, _⟩ := hrr
        have hz : ∃ z, x.den ρ = some z := by
          simp only [AVal.denL, AVal.den] at hd0
          cases hxd : x.den ρ with
          | none => rw [hxd] at hd0; cases hd0
          | some z => exact ⟨z, rfl⟩
        obtain ⟨z, hz⟩ := hz
        have hNc : ρ.N cp' = some cp1 := by
          simp only [IT.den] at hcp1
          obtain ⟨q, hq, e⟩ := map_some hcp1
          rw [hq]; exact congrArg some (Int.ofNat.inj e.symm)
        have hc' := upd_den g63 hx hkz hz
        rw [hnone] at hc'
        obtain ⟨b2, y2, w', e1, e2, hrun, hr'⟩ := put_core hu hk hh hown hl hr rfl (es := es) (hole := none) (fun b x F hNb hxb hf => by
          rw [hx] at hxb; cases hxb
          rcases hf with ⟨_, es2, h, hR⟩ | ⟨h, _⟩ | ⟨h, _⟩ | ⟨h, _⟩ | ⟨h, _⟩ | ⟨h, _⟩
          · rw [codeE_inj h]; exact hR
          all_goals cases h) (.inr ⟨rfl, hnone⟩) (L := [] ++ [z]) (cap := cp1) (fun o hrel => by
          obtain ⟨xs, cc, fr, rfl, hd, hp, ⟨hle, nn, hnn, hsz⟩, hfz⟩ := hrel
          rw [hNc] at hnn; cases hnn
          have : AVal.denL ρ [.int .i64 x] = some [.int .i64 z] := denL1 (by simp only [AVal.den, hz, Option.map_some])
          rw [this] at hd; cases hd
          exact ⟨cc, fr, rfl, hp, by omega, hfz rfl⟩) hc'
        have hn : n1 = ([] ++ [z] : List Int).length := by
          have : some (1 : Int) = some (Int.ofNat n1) := hn1
          have := Option.some.inj this
          show n1 = 1
          exact (Int.ofNat.inj this.symm)
        exact fin e1 e2 hn h.symm hrun hr'
    · -- a key that is there
      rename_i kt' c u x n' cp' hl hr
      cases hb : (Nat.beq cp' cp && (IT.beq n' n && (IT.beq kt' kq && (IT.beq u (.fn 61 c kq) && isB (lookB cs (hasT c kq)) true)))) with
      | false => rw [hb] at h; cases h
      | true =>
        rw [hb] at h; simp only [cond_true, Option.some.injEq] at h
        simp only [Bool.and_eq_true] at hb
        obtain ⟨q1, q2, q3, q4, q5⟩ := hb
        obtain rfl := Nat.eq_of_beq_eq_true q1
        obtain rfl := IT.beq_eq q2
        obtain rfl := IT.beq_eq q3
        obtain rfl := IT.beq_eq q4
        obtain ⟨b', x0, F, hN', hx0, hfam, _⟩ := hh.bigAt hl
        have hR : ∃ h0 es, x0 = encL [h0, codeE es] := by
          rcases hfam with ⟨h, _⟩ | ⟨_, h0, es, h, _⟩ | ⟨h, _⟩ | ⟨h, _⟩ | ⟨h, _⟩ | ⟨h, _⟩
          · cases h
          · exact ⟨h0, es, h⟩
          all_goals cases h
        obtain ⟨h0, es, rfl⟩ := hR
        have hcx : ∃ y, c.den ρ = some y := by
          cases hcd : c.den ρ with
          | none => simp only [IT.den, hcd, hkz] at hx0; cases hx0
          | some y => exact ⟨y, rfl⟩
        obtain ⟨y, hcy⟩ := hcx
        have he2 : encL [kz, y] = encL [h0, codeE es] := Option.some.inj ((unD hkz hcy).symm.trans hx0)
        have he3 : [kz, y] = [h0, codeE es] := by have := congrArg decL he2; rwa [decL_encL, decL_encL] at this
        simp only [List.cons.injEq, and_true] at he3
        obtain ⟨rfl, rfl⟩ := he3
        obtain ⟨L, hL⟩ : ∃ L, getE es kz = some L := by
          have h1 := (hHas hcy hkz).symm.trans (hlk q5)
          exact Option.isSome_iff_exists.1 (Option.some.inj h1)
        obtain ⟨yr, orr, _, _, hrr⟩ := hh.blk r _ hr
        have hz : ∃ z, x.den ρ = some z := by
          obtain ⟨xs, cc, fr, el, mm, bb, _, _, hd, _⟩ := hrr
          simp only [AT.den, AVal.denL, AVal.den] at hd
          cases hxd : x.den ρ with
          | none =>
            rw [hxd] at hd
            simp only [Option.map_none] at hd
            split at hd
            · rename_i h3; cases h3
            · cases hd
          | some z => exact ⟨z, rfl⟩
        obtain ⟨z, hz⟩ := hz
        have hNc : ρ.N cp' = some cp1 := by
          simp only [IT.den] at hcp1
          obtain ⟨q, hq, e⟩ := map_some hcp1
          rw [hq]; exact congrArg some (Int.ofNat.inj e.symm)
        have hc' := upd_den g63 hcy hkz hz
        rw [hL] at hc'
        have e61 : (IT.fn 61 c kt').den ρ = some (encL L) := by rw [fnD hcy hkz, g61]; simp [fRow, esOf_code, hL]
        have eAT : (AT.snoc (.code [.i64] (.fn 61 c kt')) [.int .i64 x]).den ρ = some ((L ++ [z]).map (Value.int .i64)) := by
          simp only [AT.den, e61, Option.map_some, decL_encL, AVal.denL, AVal.den, hz, rowOf1z, List.map_append, List.map_cons, List.map_nil]
        have rowOk : ∀ o, ABlk.rel ρ (.arr (.snoc (.code [.i64] (.fn 61 c kt')) [.int .i64 x]) [.i64] 3 n' (.lit (.ofNat 0)) (some (.nv cp'))) true o → RowM (L ++ [z]) cp1 o ∧ n1 = (L ++ [z]).length := fun o hrel => by
          obtain ⟨xs, cc, fr, el, mm, bb, rfl, hel, hd, hoff2, ⟨_, hp⟩, hmm, hty, ⟨nn, hnn, hsz⟩, hfz⟩ := hrel
          obtain rfl := hel rfl
          obtain rfl : bb = 0 := by
            have : some (Int.ofNat 0) = some (bb : Int) := hoff2
            exact (Int.ofNat.inj (Option.some.inj this)).symm
          rw [eAT] at hd; cases hd
          have h2 : (IT.nv cp').den ρ = some (cp1 : Int) := hcp1
          rw [h2] at hnn
          have h3 : cp1 = nn := Int.ofNat.inj (Option.some.inj hnn)
          rw [List.drop_zero] at hp
          refine ⟨⟨cc, fr, rfl, hp, by subst h3; simpa using hsz, hfz rfl⟩, ?_⟩
          have h4 : mm = n1 := Int.ofNat.inj (Option.some.inj (hmm.symm.trans hn1))
          have h5 := hty.1
          rw [List.length_map] at h5
          rw [← h4, h5]; simp
        obtain ⟨b2, y2, w', e1, e2, hrun, hr'⟩ := put_core hu hk hh hown hl hr rfl (es := es) (hole := some kz) (fun b x F hNb hxb hf => by
          rw [hx0] at hxb; cases hxb
          rcases hf with ⟨h, _⟩ | ⟨_, h1, es2, h, hR⟩ | ⟨h, _⟩ | ⟨h, _⟩ | ⟨h, _⟩ | ⟨h, _⟩
          · cases h
          · have h3 : [kz, codeE es] = [h1, codeE es2] := by have := congrArg decL h; rwa [decL_encL, decL_encL] at this
            simp only [List.cons.injEq, and_true] at h3
            rw [h3.1, codeE_inj h3.2]; exact hR
          all_goals cases h) (.inl rfl) (L := L ++ [z]) (cap := cp1) (fun o hrel => (rowOk o hrel).1) hc'
        exact fin e1 e2 (rowOk _ hrr).2 h.symm hrun hr'
    · cases h
end
end Go.Vm
end

/-
  A machine for abstract states over the model (part 36): new maps of rows and of ranks.
-/
section
namespace Go.Vm
open Mr

def hkMake (t : TypeId) (k : Nat) : OpF := fun o _ H nl cs => match o with
  | .makeMap t' none => cond (Nat.beq t' t) (some [.ret (.map nl) (H.set nl ⟨.big k (.lit 0), true⟩) (nl + 1) cs]) none
  | _ => none
theorem codeE_nil : codeE [] = 0 := rfl
section
variable {P : Program} {β : Base} {t : TypeId}
theorem hkMake_ok {k : Nat} (hk : k = 0 ∨ k = 2) : HookOk P β (hkMake t k) := by
  intro o ev H nl cs ls ρ w f h he hh hc _
  unfold hkMake at h
  split at h
  rotate_left
  · cases h
  rename_i t' ho
  cases hb : Nat.beq t' t with
  | false => rw [hb] at h; cases h
  | true =>
    rw [hb] at h; simp only [cond_true, Option.some.injEq] at h
    subst h
    have hfr : Framed w { w with heap := w.heap.push (.map #[] 0) } := ⟨by simp, fun b hb => by rw [Array.getElem?_push]; simp [Nat.ne_of_lt hb], rfl, rfl, rfl⟩
    have hg : ({ w with heap := w.heap.push (.map #[] 0) } : World).heap[w.heap.size]? = some (.map #[] 0) := by simp
    have hfam : fam k 0 { w with heap := w.heap.push (.map #[] 0) } w.heap.size (fun y => y = w.heap.size) := by
      rcases hk with rfl | rfl
      · refine .inl ⟨rfl, [], codeE_nil.symm, ⟨List.nodup_nil, #[], 0, undef, fun _ => 0, fun _ => 0, hg, ⟨fun e he => (by simp at he), List.nodup_nil⟩, rfl, fun p hp => (by cases hp), fun p hp => (by cases hp), fun y => ⟨.inl, fun h => h.elim id fun ⟨p, hp, _⟩ => (by cases hp)⟩⟩⟩
      · exact .inr (.inr (.inl ⟨rfl, [], codeE_nil.symm, ⟨List.nodup_nil, fun p hp => (by cases hp), #[], 0, hg, ⟨fun e he => (by simp at he), List.nodup_nil⟩, rfl, fun y => Iff.rfl⟩⟩))
    have hr := hh.bigNew hfr (c := .lit 0) hfam (fun y hy => by rw [hy]; exact Nat.le_refl _) rfl
    have hrun : (Instr.makeMap t' none).run P w = .ok (.map (some w.heap.size)) { w with heap := w.heap.push (.map #[] 0) } := by simp [Instr.makeMap]
    have hle : ρ.Le (ρ.put nl w.heap.size) := Env.le_put (hh.fresh nl (Nat.le_refl _))
    exact ⟨.map (some w.heap.size), _, .inl (by simp [execOp, ho, hrun]), .map nl, _, _, cs, _, List.mem_cons_self, hle, by simp [AVal.den, Env.put_same], hr, hc.mono hle⟩
end
/-- One, or else the other. -/
def orH (a b : OpF) : OpF := fun o ev H nl cs => match a o ev H nl cs with
  | some ls => some ls
  | none => b o ev H nl cs
theorem orH_ok {P : Program} {β : Base} {a b : OpF} (ha : HookOk P β a) (hb : HookOk P β b) : HookOk P β (orH a b) := by
  intro o ev H nl cs ls ρ w f h he hh hc hd
  unfold orH at h
  split at h
  · rename_i l hl; cases h; exact ha o ev H nl cs _ ρ w f hl he hh hc hd
  · exact hb o ev H nl cs _ ρ w f h he hh hc hd
end Go.Vm
end
