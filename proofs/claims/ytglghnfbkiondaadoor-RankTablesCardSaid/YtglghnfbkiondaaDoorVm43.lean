/-
  A machine for abstract states over the model (part 40): a lent row comes back, as it was.
-/
import Derived.Test.YtglghnfbkiondaaDoorVm39
section
namespace Go.Vm
open Mr

theorem mem_one : ∀ {es : Es} {k : Int} {L M : List Int}, (es.map (·.1)).Nodup → (k, L) ∈ es → (k, M) ∈ es → L = M
  | x :: r, k, L, M, hn, h1, h2 => by
    simp only [List.map_cons, List.nodup_cons] at hn
    rcases List.mem_cons.1 h1 with e1 | h1
    · rcases List.mem_cons.1 h2 with e2 | h2
      · rw [← e1] at e2; exact (Prod.mk.inj e2).2.symm
      · exact absurd (by rw [← e1]; exact List.mem_map.2 ⟨_, h2, rfl⟩) hn.1
    · rcases List.mem_cons.1 h2 with e2 | h2
      · exact absurd (by rw [← e2]; exact List.mem_map.2 ⟨_, h1, rfl⟩) hn.1
      · exact mem_one hn.2 h1 h2
theorem RowsBack {es : Es} {w : World} {b : Nat} {F : Nat → Prop} {k : Int} (h : RowsIn (some k) es w b F) {L : List Int} {y0 c : Nat} {o : Obj} (hL : (k, L) ∈ es) (hl : LentIn k y0 c es w b) (hF0 : ¬ F y0) (ho : w.heap[y0]? = some o) (hr : RowM L c o) : RowsIn none es w b fun y => F y ∨ y = y0 := by
  have hroot := h.root
  obtain ⟨hn, m, cl, sv, ad, cap, h1, hb, hm, h2, h3, hF⟩ := h
  obtain ⟨L', m', cl', e, hL', hg', hem, hek, hev⟩ := hl
  obtain rfl := mem_one hn hL hL'
  obtain ⟨rfl, rfl⟩ : m' = m ∧ cl' = cl := by
    have := hg'.symm.trans h1
    simp only [Option.some.injEq, Obj.map.injEq] at this
    exact this
  have hlist : m'.toList.map kvOf = (es.map (valR (some k) sv ad cap)).map kvI := hm
  have hsv : sv = .slice (some ⟨y0, 0, none⟩) L.length c := by
    obtain ⟨i, hi⟩ := List.getElem?_of_mem hem
    obtain ⟨k2, v, hiv, hek2, hev2⟩ := entry_at hlist hi
    rw [hek] at hek2
    obtain rfl := (Value.int.inj hek2).2
    rw [List.getElem?_map] at hiv
    cases hes : es[i]? with
    | none => rw [hes] at hiv; cases hiv
    | some p =>
      rw [hes] at hiv
      simp only [Option.map_some, Option.some.injEq, valR, Prod.mk.injEq] at hiv
      obtain ⟨e1, e2⟩ := hiv
      rw [if_pos (by rw [e1])] at e2
      rw [e2, ← hev2, hev]
  have hyb : y0 ≠ b := fun e => hF0 (e ▸ hroot)
  refine ⟨hn, m', cl', sv, fun x => if x = k then y0 else ad x, fun x => if x = k then c else cap x, h1, hb, ?_, fun p hp _ => ?_, fun p hp q hq _ _ e => ?_, fun y => ?_⟩
  · rw [hm]
    congr 1
    refine List.map_congr_left fun p hp => ?_
    by_cases e : p.1 = k
    · obtain ⟨pk, pL⟩ := p
      simp only at e; subst e
      obtain rfl := mem_one hn hp hL
      simp [valR, hsv]
    · have : ¬ (k = p.1) := fun h => e h.symm
      simp [valR, e, this]
  · by_cases e : p.1 = k
    · obtain ⟨pk, pL⟩ := p
      simp only at e; subst e
      obtain rfl := mem_one hn hp hL
      simp only [if_true]
      exact ⟨hyb, o, ho, hr⟩
    · simp only [if_neg e]
      exact h2 p hp fun h => e (Option.some.inj h).symm
  · simp only at e
    by_cases e1 : p.1 = k
    · by_cases e2 : q.1 = k
      · rw [e1, e2]
      · rw [if_pos e1, if_neg e2] at e
        exact absurd ((hF _).2 (.inr ⟨q, hq, fun h => e2 (Option.some.inj h).symm, e⟩)) hF0
    · by_cases e2 : q.1 = k
      · rw [if_neg e1, if_pos e2] at e
        exact absurd ((hF _).2 (.inr ⟨p, hp, fun h => e1 (Option.some.inj h).symm, e.symm⟩)) hF0
      · rw [if_neg e1, if_neg e2] at e
        exact h3 p hp q hq (fun h => e1 (Option.some.inj h).symm) (fun h => e2 (Option.some.inj h).symm) e
  · constructor
    · rintro (hy | rfl)
      · rcases (hF y).1 hy with rfl | ⟨p, hp, hh, rfl⟩
        · exact .inl rfl
        · exact .inr ⟨p, hp, by simp, by show ad p.1 = if p.1 = k then y0 else ad p.1; rw [if_neg fun h => hh (by rw [h])]⟩
      · exact .inr ⟨_, hL, by simp, by simp⟩
    · rintro (rfl | ⟨p, hp, _, rfl⟩)
      · exact .inl hroot
      · show F (if p.1 = k then y0 else ad p.1) ∨ (if p.1 = k then y0 else ad p.1) = y0
        by_cases e : p.1 = k
        · rw [if_pos e]; exact .inr rfl
        · rw [if_neg e]; exact .inl ((hF _).2 (.inr ⟨p, hp, fun h => e (Option.some.inj h).symm, rfl⟩))
end Go.Vm
end

/-
  A machine for abstract states over the model (part 41): a rank is put into a map of ranks, and the row that was lent for it comes back.
-/
section
namespace Go.Vm
open Mr

def pack6 (kt v1 v2 v3 v4 v5 v6 : IT) : IT := .un 3 (.un 3 (.un 3 (.un 3 (.un 3 (.un 1 kt v1) v2) v3) v4) v5) v6
def fPut (x y : Int) : Int := match decL y with
  | k :: L => codeE (putE (esOf x) k L)
  | [] => x
/-- The heap behind the row's coming back. -/
def backH (H : Heap) (l r it : Nat) (c s : IT) : Heap := (H.del r).set l ⟨.big 3 (rgT it c s), true⟩
section
variable {P : Program} {β : Base} {ρ : Env} {H : Heap} {nl : Nat} {w : World}
theorem back_ok (hh : HRel β ρ H nl w) (hown : β.own = []) (hG : GMr ρ.I ρ.B ρ.S ρ.V ρ.F) {l r it : Nat} {c s kt n : IT} {cp : Nat} (hl : H.get l = some ⟨.big 4 (.un 3 (.un 3 (.un 3 (rgT it c s) kt) (.nv r)) (.nv cp)), true⟩)
    (hr : H.get r = some ⟨.arr (.code [.i64] (.fn 61 c kt)) [.i64] 3 n (.lit (.ofNat 0)) (some (.nv cp)), true⟩) : HRel β ρ (backH H l r it c s) nl w := by
  obtain ⟨b, x, F, y0, o, hN, hx, hfam, hNr, ho, hrel, hF0, cont⟩ := hh.bigGive hown hl hr rfl
  have hR : ∃ (bi : Nat) (es : Es) (seen : List Int) (h : Int) (y1 cap : Nat), x = encL [(bi : Int), codeE es, encL seen, h, (y1 : Int), (cap : Int)] ∧ RangeIn (some h) bi es seen w b F ∧ LentIn h y1 cap es w b := by
    rcases hfam with ⟨h, _⟩ | ⟨h, _⟩ | ⟨h, _⟩ | ⟨h, _⟩ | ⟨_, h⟩ | ⟨h, _⟩
    · cases h
    · cases h
    · cases h
    · cases h
    · exact h
    · cases h
  obtain ⟨bi, es, seen, k, y1, cap, rfl, hR, hLn⟩ := hR
  obtain ⟨p1, q1, h1, h2, e1⟩ := un_inv hx
  obtain ⟨p2, q2, h3, h4, rfl⟩ := un_inv h1
  obtain ⟨p3, q3, h5, h6, rfl⟩ := un_inv h3
  obtain ⟨p4, q4, h7, h8, rfl⟩ := un_inv h5
  obtain ⟨p5, q5, h9, h10, rfl⟩ := un_inv h7
  have e2 : encL [(bi : Int), codeE es, encL seen, k, (y1 : Int), (cap : Int)] = encL [p5, q5, q4, q3, q2, q1] := by
    rw [e1]
    show encL (decL (encL (decL (encL (decL (encL (decL (encL [p5, q5]) ++ [q4])) ++ [q3])) ++ [q2])) ++ [q1]) = _
    simp only [decL_encL, List.cons_append, List.nil_append]
  have e3 := encL_inj e2
  simp only [List.cons.injEq, and_true] at e3
  obtain ⟨rfl, rfl, rfl, rfl, rfl, rfl⟩ := e3
  have nvN : ∀ {i m : Nat}, (IT.nv i).den ρ = some (m : Int) → ρ.N i = some m := fun {i m} h => by
    simp only [IT.den] at h
    obtain ⟨n, hn, e5⟩ := map_some h
    rw [hn]; exact congrArg some (Int.ofNat.inj e5.symm)
  have hNy := nvN h4
  obtain rfl : y0 = y1 := by rw [hNr] at hNy; exact Option.some.inj hNy
  obtain ⟨⟨F0, hRow, hFb, hF⟩, hit, honce, hkeys⟩ := hR
  have hLn0 := hLn
  obtain ⟨L, m, cl, e, hL, _, _, _, _⟩ := hLn
  have hgE : getE es k = some L := by
    obtain ⟨i, hi⟩ := List.getElem?_of_mem hL
    exact getE_at hRow.nodup hi
  have e61 : (IT.fn 61 c kt).den ρ = some (encL L) := by rw [fnD h10 h6, hG.2.1]; simp [fRow, esOf_code, hgE]
  have hrow : RowM L cap o := by
    obtain ⟨xs, cc, fr, el, mm, bb, rfl, hel, hd, hoff2, ⟨_, hp⟩, hmm, hty, ⟨nn, hnn, hsz⟩, hfz⟩ := hrel
    obtain rfl := hel rfl
    obtain rfl : bb = 0 := by
      have : some (Int.ofNat 0) = some (bb : Int) := hoff2
      exact (Int.ofNat.inj (Option.some.inj this)).symm
    have eAT : (AT.code [.i64] (.fn 61 c kt)).den ρ = some (L.map (Value.int .i64)) := by simp only [AT.den, e61, Option.map_some, decL_encL, rowOf1z]
    rw [eAT] at hd; cases hd
    rw [h2] at hnn
    have h3 : cap = nn := Int.ofNat.inj (Option.some.inj hnn)
    rw [List.drop_zero] at hp
    exact ⟨cc, fr, rfl, hp, by subst h3; simpa using hsz, hfz rfl⟩
  have hB := RowsBack hRow hL hLn0 (fun h => hF0 ((hF y0).2 (.inl h))) ho hrow
  have hG3 : RangeIn none bi es seen w b (fun y => F y ∨ y = y0) := by
    refine ⟨⟨fun y => F0 y ∨ y = y0, hB, ?_, fun y => ?_⟩, hit, honce, hkeys⟩
    · rintro (h | rfl)
      · exact hFb h
      · exact hF0 ((hF bi).2 (.inr rfl))
    · rw [hF y]
      constructor
      · rintro ((h | h) | h)
        · exact .inl (.inl h)
        · exact .inr h
        · exact .inl (.inr h)
      · rintro ((h | h) | h)
        · exact .inl (.inl h)
        · exact .inr h
        · exact .inl (.inr h)
  exact cont (k' := 3) (x' := encL [(bi : Int), codeE es, encL seen]) (F' := fun y => F y ∨ y = y0) ⟨Nat.le_refl _, fun _ _ _ => rfl, rfl, rfl, rfl, fun y hy => hy.1.elim .inl fun e => absurd e hy.2⟩ (.inr (.inr (.inr (.inl ⟨rfl, bi, es, seen, rfl, hG3⟩)))) (rgT_den (nvN h9) h10 h8)
end
end Go.Vm
end

/-
  A machine for abstract states over the model (part 42): a rank is put into a map of ranks, as a known operation.
-/
section
namespace Go.Vm
open Mr

def hkPutR (t : TypeId) (l r : Nat) : OpF := fun o ev H nl cs => match o with
  | .mapUpdate t' m k v => cond (Nat.beq t' t) (match ev m, ev k, ev v with
    | some (.map lo), some (.int .i64 kq), some (.agg [.int .i64 v1, .int .i64 v2, .int .i64 v3, .int .i64 v4, .int .i64 v5, .int .i64 v6]) => match H.get l, H.get r with
      | some ⟨.big 4 (.un 3 (.un 3 (.un 3 (.un 3 (.un 1 (.nv it) c) s) kt) (.nv r')) (.nv cp)), true⟩, some ⟨.arr (.code [.i64] u) [.i64] 3 _ (.lit (.ofNat 0)) (some (.nv cp')), true⟩ =>
        cond (Nat.beq r' r && (Nat.beq cp' cp && IT.beq u (.fn 61 c kt))) (match (backH H l r it c s).get lo with
          | some ⟨.big 2 c2, true⟩ => some [.ret (.tuple []) ((backH H l r it c s).set lo ⟨.big 2 (.fn 66 c2 (pack6 kq v1 v2 v3 v4 v5 v6)), true⟩) nl cs]
          | _ => none) none
      | _, _ => none
    | _, _, _ => none) none
  | _ => none
section
variable {P : Program} {β : Base} {ρ : Env} {t kt0 et : TypeId} {k0 : IntKind}
theorem int_cons {u : IT} {r : List AVal} {xs : List Value} (h : AVal.denL ρ (.int .i64 u :: r) = some xs) : ∃ z ys, u.den ρ = some z ∧ AVal.denL ρ r = some ys ∧ xs = .int .i64 z :: ys := by
  simp only [AVal.denL, AVal.den] at h
  cases hu : u.den ρ with
  | none => rw [hu] at h; cases h
  | some z =>
    cases hr : AVal.denL ρ r with
    | none => rw [hu, hr] at h; cases h
    | some ys => rw [hu, hr] at h; cases h; exact ⟨z, ys, rfl, rfl, rfl⟩
theorem hkPutR_ok (hu : P.underlying t = some (.map kt0 et)) (hk : P.underlying kt0 = some (.int k0)) (hown : β.own = []) (hG : ∀ I B S V F, β.G I B S V F → GMr I B S V F ∧ F 66 = fPut) (l r : Nat) : HookOk P β (hkPutR t l r) := by
  intro o ev H nl cs ls ρ w f h he hh hc _
  unfold hkPutR at h
  split at h
  rotate_left
  · cases h
  rename_i t' m k v ho
  cases hb : Nat.beq t' t with
  | false => rw [hb] at h; cases h
  | true =>
    rw [hb] at h; simp only [cond_true] at h
    obtain rfl := Nat.eq_of_beq_eq_true hb
    split at h
    rotate_left
    · cases h
    rename_i lo kq v1 v2 v3 v4 v5 v6 hm hk' hv
    split at h
    rotate_left
    · cases h
    rename_i it c s kt r' cp u n cp' hl hr
    cases hb : (Nat.beq r' r && (Nat.beq cp' cp && IT.beq u (.fn 61 c kt))) with
    | false => rw [hb] at h; cases h
    | true =>
      rw [hb] at h; simp only [cond_true] at h
      simp only [Bool.and_eq_true] at hb
      obtain ⟨q1, q2, q3⟩ := hb
      obtain rfl := Nat.eq_of_beq_eq_true q1
      obtain rfl := Nat.eq_of_beq_eq_true q2
      obtain rfl := IT.beq_eq q3
      split at h
      rotate_left
      · cases h
      rename_i c2 hlo
      simp only [Option.some.injEq] at h
      subst h
      obtain ⟨gm, g66⟩ := hG _ _ _ _ _ hh.g
      have hB := back_ok hh hown gm hl hr
      obtain ⟨b, hfm, hNl⟩ := den_map (he m _ hm)
      obtain ⟨kz, hfk, hkz⟩ := den_int (he k _ hk')
      have hv' := he v _ hv
      simp only [AVal.den] at hv'
      obtain ⟨xs, hxs, hfv⟩ := map_some hv'
      obtain ⟨z1, y1, d1, hx1, rfl⟩ := int_cons hxs
      obtain ⟨z2, y2, d2, hx2, rfl⟩ := int_cons hx1
      obtain ⟨z3, y3, d3, hx3, rfl⟩ := int_cons hx2
      obtain ⟨z4, y4, d4, hx4, rfl⟩ := int_cons hx3
      obtain ⟨z5, y5, d5, hx5, rfl⟩ := int_cons hx4
      obtain ⟨z6, y6, d6, hx6, rfl⟩ := int_cons hx5
      obtain rfl : [] = y6 := Option.some.inj hx6
      obtain ⟨b2, x, F, hN, hx, hfam, cont⟩ := hB.bigTurn hlo
      obtain rfl : b2 = b := by rw [hN] at hNl; exact Option.some.inj hNl
      have hR : ∃ es, x = codeE es ∧ RanksIn es w b2 F := by
        rcases hfam with ⟨h, _⟩ | ⟨h, _⟩ | ⟨_, h⟩ | ⟨h, _⟩ | ⟨h, _⟩ | ⟨h, _⟩
        · cases h
        · cases h
        · exact h
        · cases h
        · cases h
        · cases h
      obtain ⟨es, rfl, hn, h6, mm, cl, hg, hbm, hmm, hF⟩ := hR
      have hM : MapAt w b2 (es.map fun p => (p.1, Value.agg (p.2.map (Value.int .i64)).toArray)) := ⟨mm, cl, hg, hmm, hbm⟩
      obtain ⟨es', cl', hrun, hm', hb'⟩ := hM.update hu hk kz (.agg ([z1, z2, z3, z4, z5, z6].map (Value.int .i64)).toArray)
      have hblt : b2 < w.heap.size := (Array.getElem?_eq_some_iff.1 hg).1
      have hput := puts_val (f := fun p => Value.agg (p.2.map (Value.int .i64)).toArray) (g := fun p => Value.agg (p.2.map (Value.int .i64)).toArray) (k := kz) (L := [z1, z2, z3, z4, z5, z6]) rfl (es := es) (fun _ _ _ => rfl) hn
      have hRk : RanksIn (putE es kz [z1, z2, z3, z4, z5, z6]) { w with heap := w.heap.setIfInBounds b2 (.map es' cl') } b2 F := by
        refine ⟨putE_nodup hn, fun p hp => ?_, es', cl', by simp [hblt], hb', hm'.trans (congrArg (List.map kvI) hput), hF⟩
        rcases mem_putE hn hp with rfl | ⟨hp, _⟩
        · rfl
        · exact h6 p hp
      have ep : (pack6 kq v1 v2 v3 v4 v5 v6).den ρ = some (encL [kz, z1, z2, z3, z4, z5, z6]) := by
        unfold pack6
        rw [unD (unD (unD (unD (unD (unD hkz d1) d2) d3) d4) d5) d6]
        show some (encL (decL (encL (decL (encL (decL (encL (decL (encL (decL (encL [kz, z1]) ++ [z2])) ++ [z3])) ++ [z4])) ++ [z5])) ++ [z6])) = _
        simp only [decL_encL, List.cons_append, List.nil_append]
      have ec : (IT.fn 66 c2 (pack6 kq v1 v2 v3 v4 v5 v6)).den ρ = some (codeE (putE es kz [z1, z2, z3, z4, z5, z6])) := by
        rw [fnD hx ep, g66]
        simp only [fPut, decL_encL, esOf_code]
      have hr' := cont rfl { w with heap := w.heap.setIfInBounds b2 (.map es' cl') } 2 _ _ F ⟨by simp, fun y _ hy => by
        have : b2 ≠ y := fun e => hy ((hF y).2 e.symm)
        simp [this], rfl, rfl, rfl, fun y hy => .inl hy⟩ (.inr (.inr (.inl ⟨rfl, _, rfl, hRk⟩))) ec
      have hrun' : (Instr.mapUpdate t' (f m) (f k) (f v)).run P w = .ok () { w with heap := w.heap.setIfInBounds b2 (.map es' cl') } := by
        rw [hfm, hfk, hfv]; exact hrun
      exact ⟨undef, _, .inr ⟨by simp [execOp, ho, hrun'], rfl⟩, _, _, _, _, ρ, List.mem_cons_self, Env.Le.refl ρ, undef_den, hr', hc⟩
end
end Go.Vm
end

/-
  A machine for abstract states over the model (part 43): what a map of ranks answers, as a known operation.
-/
section
namespace Go.Vm
open Mr

/-- A number of the rank under a key; 0 where there is none. -/
def fRk (j : Nat) (x k : Int) : Int := ((getE (esOf x) k).getD []).getD j 0
def GRk : GP := fun _ _ _ _ F => F 60 = fHas ∧ F 67 = fRk 0 ∧ F 68 = fRk 1 ∧ F 69 = fRk 2 ∧ F 70 = fRk 3 ∧ F 71 = fRk 4 ∧ F 72 = fRk 5
def rkA (c kt : IT) : AVal := .agg [.int .i64 (.fn 67 c kt), .int .i64 (.fn 68 c kt), .int .i64 (.fn 69 c kt), .int .i64 (.fn 70 c kt), .int .i64 (.fn 71 c kt), .int .i64 (.fn 72 c kt)]
def z6A : AVal := .agg [.int .i64 (.lit 0), .int .i64 (.lit 0), .int .i64 (.lit 0), .int .i64 (.lit 0), .int .i64 (.lit 0), .int .i64 (.lit 0)]
def hkRank (t : TypeId) : OpF := fun o ev H nl cs => match o with
  | .lookup t' m k ok => cond (Nat.beq t' t) (match ev m, ev k with
    | some (.map l), some (.int .i64 kt) => match H.get l with
      | some ⟨.big 2 c, _⟩ => some [.ret (cond ok (.tuple [rkA c kt, .bool (hasT c kt)]) (rkA c kt)) H nl cs]
      | _ => none
    | _, _ => none) none
  | _ => none
section
variable {P : Program} {β : Base} {t kt et : TypeId} {k0 : IntKind}
theorem hkRank_ok (hu : P.underlying t = some (.map kt et)) (hk : P.underlying kt = some (.int k0)) (hz : zeroA P et = some z6A) (hG : ∀ I B S V F, β.G I B S V F → GRk I B S V F) : HookOk P β (hkRank t) := by
  intro o ev H nl cs ls ρ w f h he hh hc _
  unfold hkRank at h
  split at h
  rotate_left
  · cases h
  rename_i t' m k ok ho
  cases hb : Nat.beq t' t with
  | false => rw [hb] at h; cases h
  | true =>
    rw [hb] at h; simp only [cond_true] at h
    obtain rfl := Nat.eq_of_beq_eq_true hb
    split at h
    rotate_left
    · cases h
    rename_i l kt' hm hk'
    split at h
    rotate_left
    · cases h
    rename_i c rw0 hl
    simp only [Option.some.injEq] at h
    subst h
    obtain ⟨b, hfm, hNl⟩ := den_map (he m _ hm)
    obtain ⟨kz, hfk, hkz⟩ := den_int (he k _ hk')
    obtain ⟨b', x, F, hN', hx, hfam, _⟩ := hh.bigTurn hl
    obtain rfl : b' = b := by rw [hNl] at hN'; exact (Option.some.inj hN').symm
    have hR : ∃ es, x = codeE es ∧ RanksIn es w b' F := by
      rcases hfam with ⟨h, _⟩ | ⟨h, _⟩ | ⟨_, h⟩ | ⟨h, _⟩ | ⟨h, _⟩ | ⟨h, _⟩
      · cases h
      · cases h
      · exact h
      · cases h
      · cases h
      · cases h
    obtain ⟨es, rfl, hn, h6, mm, cl, hg, hbm, hmm, hF⟩ := hR
    obtain ⟨g60, g67, g68, g69, g70, g71, g72⟩ := hG _ _ _ _ _ hh.g
    have hM : MapAt w b' (es.map fun p => (p.1, Value.agg (p.2.map (Value.int .i64)).toArray)) := ⟨mm, cl, hg, hmm, hbm⟩
    have hz6 : ∀ ρ : Env, z6A.den ρ = some (.agg #[.int .i64 0, .int .i64 0, .int .i64 0, .int .i64 0, .int .i64 0, .int .i64 0]) := fun _ => rfl
    have hrun := hM.lookup hu hk hz hz6 kz ok
    have hgv := gets_val (f := fun p => Value.agg (p.2.map (Value.int .i64)).toArray) (es := es) (k := kz)
    have d : ∀ (i j : Nat), ρ.F i = fRk j → (IT.fn i c kt').den ρ = some (((getE es kz).getD []).getD j 0) := fun i j g => by
      rw [fnD hx hkz, g]; simp only [fRk, esOf_code]
    have dA : (rkA c kt').den ρ = some ((gets (es.map fun p => (p.1, Value.agg (p.2.map (Value.int .i64)).toArray)) kz).getD (.agg #[.int .i64 0, .int .i64 0, .int .i64 0, .int .i64 0, .int .i64 0, .int .i64 0])) := by
      simp only [rkA, AVal.den, AVal.denL, d 67 0 g67, d 68 1 g68, d 69 2 g69, d 70 3 g70, d 71 4 g71, d 72 5 g72, Option.map_some]
      rw [hgv]
      cases hge : getE es kz with
      | none => rfl
      | some L =>
        have hL := h6 _ (getE_mem hge)
        match L, hL with
        | [a1, a2, a3, a4, a5, a6], _ => rfl
    have dB : (hasT c kt').den ρ = some (gets (es.map fun p => (p.1, Value.agg (p.2.map (Value.int .i64)).toArray)) kz).isSome := by
      have e1 : (IT.fn 60 c kt').den ρ = some (fHas (codeE es) kz) := by rw [fnD hx hkz, g60]
      unfold hasT
      rw [cmpD e1 (litD 1), hgv]
      cases hge : getE es kz with
      | none => simp [fHas, esOf_code, hge, intCmp]
      | some L => simp [fHas, esOf_code, hge, intCmp]
    obtain ⟨gv, hgv2⟩ : ∃ gv, gv = (gets (es.map fun p => (p.1, Value.agg (p.2.map (Value.int .i64)).toArray)) kz).getD (.agg #[.int .i64 0, .int .i64 0, .int .i64 0, .int .i64 0, .int .i64 0, .int .i64 0]) := ⟨_, rfl⟩
    obtain ⟨gb, hgb⟩ : ∃ gb, gb = (gets (es.map fun p => (p.1, Value.agg (p.2.map (Value.int .i64)).toArray)) kz).isSome := ⟨_, rfl⟩
    rw [← hgv2] at dA hrun
    rw [← hgb] at dB hrun
    cases ok with
    | true =>
      have hrun' : (Instr.lookup t' (f m) (f k) true).run P w = .ok (.tuple #[gv, .bool gb]) w := by rw [hfm, hfk]; exact hrun
      have d2 : AVal.denL ρ [rkA c kt', .bool (hasT c kt')] = some [gv, .bool gb] := denL2 dA (by simp only [AVal.den, dB, Option.map_some])
      refine ⟨.tuple #[gv, .bool gb], w, .inl (by simp [execOp, ho, hrun']), _, _, _, _, ρ, List.mem_cons_self, Env.Le.refl ρ, ?_, hh, hc⟩
      show (AVal.denL ρ [rkA c kt', .bool (hasT c kt')]).map (fun l => Value.tuple l.toArray) = _
      rw [d2]; rfl
    | false =>
      have hrun' : (Instr.lookup t' (f m) (f k) false).run P w = .ok gv w := by rw [hfm, hfk]; exact hrun
      exact ⟨gv, w, .inl (by simp [execOp, ho, hrun']), _, _, _, _, ρ, List.mem_cons_self, Env.Le.refl ρ, dA, hh, hc⟩
end
end Go.Vm
end
