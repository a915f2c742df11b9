/-
  Stocks (2): from blocks to a stock, and back.
-/
import Derived.Test.YtlcjgmehccopkaaLp1
namespace Go.Proofs.Ytlcjgmehccopkaa
open Go.Vm Go.Vm.Le
namespace Lp

theorem rowOf1 (L : List Int) : rowOf [.i64] L = L.map (Value.int .i64) := by
  apply List.ext_getElem?
  intro i
  rw [rowOf_get, List.getElem?_map]
  have : i % [IntKind.i64].length = 0 := Nat.mod_one i
  rw [this]; rfl
theorem entOf_used : ∀ K : List Int, entOf (usedL K) = K.map fun k => (Value.int .i64 k, Value.int .i64 1)
  | [] => rfl
  | k :: r => by simp only [usedL, entOf, List.map_cons, entOf_used r]
-- THE END
section
variable {w w' : World} {own : List Nat} {G : GP} {ρ : Env} {H : Heap} {most : Int} {h b : Nat} {B K : List Int} {F : Nat → Prop}
theorem framed_in (hr : HRel ⟨w, own, G⟩ ρ H 5 w') (hF : ∀ l ∈ own, ∀ y, ρ.N l = some y → F y) {F' : Nat → Prop} (hs : ∀ y, F' y → F y ∨ w.heap.size ≤ y) : BigStep w w' F F' :=
  ⟨hr.size, fun y hy hn => hr.frame y hy fun l hl e => hn (hF l hl y e), hr.tape, hr.os, hr.out, hs⟩
theorem in_or (hr : HRel ⟨w, own, G⟩ ρ H 5 w') (hF : ∀ l ∈ own, ∀ y, ρ.N l = some y → F y) {l y : Nat} {k : HB} (hl : H.get l = some k) (hk : k.rw = true) (hy : ρ.N l = some y) : F y ∨ w.heap.size ≤ y := by
  rcases hr.own l k y hl hk hy with h1 | ⟨l', hl', h2⟩
  · exact .inr h1
  · exact .inl (hF l' hl' y h2)
theorem cells_of {v : AVal} (hr : HRel ⟨w, own, G⟩ ρ H 5 w') (hg : H.get 0 = some (stB v)) (hb : ρ.N 0 = some b) (h0 : ρ.I 0 = most) (h3 : ρ.I 3 = (h : Int)) {vb : Value} (hv : v.den ρ = some vb) {bm : Nat} (h2 : ρ.N 2 = some bm) :
    ∃ c fr, w'.heap[b]? = some (.cells c 51 fr) ∧ c.toList = [.int .i64 most, .int .i64 h, vb, .map (some bm)] ∧ (fr.2 ≤ fr.1 ∨ c.size ≤ fr.1) := by
  obtain ⟨b', o, hb', ho, xs, c, fr, rfl, hd, hp, ht, hf⟩ := hr.blk 0 _ hg
  rw [hb] at hb'; cases hb'
  have e0 : (iV 0).den ρ = some (.int .i64 most) := by simp only [iV, AVal.den, IT.den, h0, Option.map_some]
  have e3 : (iV 3).den ρ = some (.int .i64 h) := by simp only [iV, AVal.den, IT.den, h3, Option.map_some]
  have e2 : (AVal.map 2).den ρ = some (.map (some bm)) := by simp only [AVal.den, h2, Option.map_some]
  simp only [AVal.denL, e0, e3, hv, e2, Option.some.injEq] at hd
  subst hd
  refine ⟨c, fr, ho, ?_, hf rfl⟩
  obtain ⟨t, ht'⟩ := hp
  have hl : c.toList.length = 4 := by
    have : c.size = 4 := ht
    simpa using this
  rw [← ht'] at hl ⊢
  have : t = [] := by
    cases t with
    | nil => rfl
    | cons a t => simp at hl
  rw [this, List.append_nil]
theorem map_of (hr : HRel ⟨w, own, G⟩ ρ H 5 w') (hg : H.get 2 = some mB) (h4 : decL (ρ.I 4) = usedL K) : ∃ bm es cl, ρ.N 2 = some bm ∧ w'.heap[bm]? = some (.map es cl) ∧ es.toList.map (fun e => (e.key, e.val)) = K.map (fun k => (Value.int .i64 k, Value.int .i64 1)) := by
  obtain ⟨bm, o, hbm, ho, x, es, cl, rfl, hx, he⟩ := hr.blk 2 _ hg
  refine ⟨bm, es, cl, hbm, ho, ?_⟩
  have hx : ρ.I 4 = x := Option.some.inj hx
  rw [← entOf_used, ← h4, hx]
  exact he
theorem end_none {v : AVal} (hr : HRel ⟨w, own, G⟩ ρ H 5 w') (hF : ∀ l ∈ own, ∀ y, ρ.N l = some y → F y) (hg : H.get 0 = some (stB v)) (hg2 : H.get 2 = some mB) (hb : ρ.N 0 = some b) (h0 : ρ.I 0 = most) (h3 : ρ.I 3 = (h : Int)) (h4 : decL (ρ.I 4) = usedL K)
    {a : Option Addr} (hv : v.den ρ = some (.slice a 0 0)) (ha : ∀ p, a = some p → p.spot = none) (s : Stk most h [] K) (m0 : 0 ≤ most) (m1 : most ≤ 65535) : ∃ F', BigStep w w' F F' ∧ StockIn w' b F' most h K := by
  obtain ⟨bm, es, cl, hbm, hom, he⟩ := map_of hr hg2 h4
  obtain ⟨c, fr, hob, hc, hf⟩ := cells_of hr hg hb h0 h3 hv hbm
  refine ⟨fun y => y = b ∨ y = bm, framed_in hr hF fun y hy => ?_, ⟨⟨[], c, fr, .slice a 0 0, bm, es, cl, hob, hc, hf, hom, he, s, ?_, .inl ⟨a, rfl, ha, rfl, fun _ => Iff.rfl⟩⟩, m0, m1⟩⟩
  · rcases hy with rfl | rfl
    · exact in_or hr hF hg rfl hb
    · exact in_or hr hF hg2 rfl hbm
  · intro e
    have := hr.inj 0 2 _ _ hg hg2 rfl (by rw [hb, hbm, e])
    cases this
theorem end_row {r : Nat} (hr0 : r ≠ 0) (hr2 : r ≠ 2) (hr : HRel ⟨w, own, G⟩ ρ H 5 w') (hF : ∀ l ∈ own, ∀ y, ρ.N l = some y → F y) (hg : H.get 0 = some (stB (.slice r (.lit 0) (.var 6) (.nv 4)))) (hg2 : H.get 2 = some mB) (hgr : H.get r = some rB) (hb : ρ.N 0 = some b) (h0 : ρ.I 0 = most) (h3 : ρ.I 3 = (h : Int)) (h4 : decL (ρ.I 4) = usedL K)
    (h6 : ρ.I 6 = (B.length : Int)) (h5 : (decL (ρ.I 5)).take B.length = B) (s : Stk most h B K) (m0 : 0 ≤ most) (m1 : most ≤ 65535) : ∃ F', BigStep w w' F F' ∧ StockIn w' b F' most h K := by
  obtain ⟨bm, es, cl, hbm, hom, he⟩ := map_of hr hg2 h4
  obtain ⟨b1, o1, hb1, ho1, xs, c1, fr1, el1, m1', st, rfl, hel, hd, hst, ⟨hsz, hp⟩, hn, hty, ⟨cap, hcap, hroom⟩, hf1⟩ := hr.blk r _ hgr
  obtain rfl : st = 0 := by have := Option.some.inj hst; exact (Int.ofNat.inj this).symm
  rw [List.drop_zero] at hp
  have hel := hel rfl
  subst hel
  have hx5 : xs = rowOf [.i64] (decL (ρ.I 5)) := (Option.some.inj hd).symm
  subst hx5
  have hv : (AVal.slice r (.lit 0) (.var 6) (.nv 4)).den ρ = some (.slice (some ⟨b1, 0, none⟩) B.length cap) := den_slice_of hb1 rfl (congrArg some h6) hcap
  obtain ⟨c, fr, hob, hc, hf⟩ := cells_of hr hg hb h0 h3 hv hbm
  refine ⟨fun y => y = b ∨ y = bm ∨ y = b1, framed_in hr hF fun y hy => ?_, ⟨⟨B, c, fr, _, bm, es, cl, hob, hc, hf, hom, he, s, ?_, .inr ⟨b1, cap, decL (ρ.I 5), _, rfl, ho1, ⟨c1, fr1, rfl, by rw [← rowOf1]; exact hp, ?_, hf1 rfl⟩, h5, ?_, ?_, fun _ => Iff.rfl⟩⟩, m0, m1⟩⟩
  · rcases hy with rfl | rfl | rfl
    · exact in_or hr hF hg rfl hb
    · exact in_or hr hF hg2 rfl hbm
    · exact in_or hr hF hgr rfl hb1
  · intro e
    have := hr.inj 0 2 _ _ hg hg2 rfl (by rw [hb, hbm, e])
    cases this
  · have : c1.size - 0 = cap * 1 := hroom
    omega
  · intro e
    exact hr0 (hr.inj r 0 _ _ hgr hg rfl (by rw [hb1, hb, e]))
  · intro e
    exact hr2 (hr.inj r 2 _ _ hgr hg2 rfl (by rw [hb1, hbm, e]))
end
-- THE START
def envL (most : Int) (h : Nat) (B K X : List Int) (b b1 bm cap o : Nat) (v vb : Value) : Env :=
  ⟨fun i => if i = 0 then most else if i = 3 then h else if i = 4 then encL (usedL K) else if i = 5 then encL X else if i = 6 then B.length else if i = 7 then X.length else if i = 11 then o else 0, fun _ => false, fun _ => default, fun i => if i = 0 then v else vb, fun i => if i = 0 then some b else if i = 1 then some b1 else if i = 2 then some bm else if i = 4 then some cap else none, fun k => if k = 70 then upC else downC⟩
theorem FrOk_of {fr : Nat × Nat} {n : Nat} (h : fr.2 ≤ fr.1 ∨ n ≤ fr.1) : FrOk fr n := h
/-- What a walk over a stock begins with. -/
theorem start {w : World} {b : Nat} {F : Nat → Prop} {most : Int} {h : Nat} {K : List Int} (v : Value) (s : StockIn w b F most h K) : ∃ z ρ B, HRel ⟨w, oL z, GL⟩ ρ (ofP (hB z)) 5 w ∧ S02 v 0 most 0 h B K ρ ∧ (z = .row → R02 B ρ) ∧ (z ≠ .row → B = []) ∧ (∀ l ∈ oL z, ∀ y, ρ.N l = some y → F y) ∧ ρ.N 0 = some b ∧ (z = .zero → ∃ b1 o, ρ.N 1 = some b1 ∧ ρ.I 11 = ((o : Nat) : Int)) := by
  obtain ⟨⟨B, c, fr, vb, bm, es, cl, hob, hc, hf, hom, he, hs, hne, hbk⟩, m0, m1⟩ := s
  have hsize : c.size = 4 := by
    have : c.toList.length = 4 := by rw [hc]; rfl
    simpa using this
  have mrel : ∀ {ρ : Env}, ρ.I 4 = encL (usedL K) → mB.k.rel ρ mB.rw (.map es cl) := fun {ρ} h4 => ⟨encL (usedL K), es, cl, rfl, congrArg some h4, by rw [decL_encL, entOf_used]; exact he⟩
  have srel : ∀ {ρ : Env} {u : AVal}, ρ.I 0 = most → ρ.I 3 = (h : Int) → u.den ρ = some vb → ρ.N 2 = some bm → (stB u).k.rel ρ (stB u).rw (.cells c 51 fr) := fun {ρ u} h0 h3 hu h2 => by
    have e0 : (iV 0).den ρ = some (.int .i64 most) := by simp only [iV, AVal.den, IT.den, h0, Option.map_some]
    have e3 : (iV 3).den ρ = some (.int .i64 h) := by simp only [iV, AVal.den, IT.den, h3, Option.map_some]
    have e2 : (AVal.map 2).den ρ = some (.map (some bm)) := by simp only [AVal.den, h2, Option.map_some]
    exact ⟨[.int .i64 most, .int .i64 h, vb, .map (some bm)], c, fr, rfl, by simp only [AVal.denL, e0, e3, hu, e2], by rw [hc]; exact List.prefix_refl _, hsize, fun _ => hf⟩
  have S2 : ∀ {B X b1 cap o}, Stk most h B K → S02 v 0 most 0 h B K (envL most h B K X b b1 bm cap o v vb) := fun {B X b1 cap o} hs => ⟨rfl, rfl, rfl, decL_encL _, rfl, rfl, Nat.le_refl _, by omega, m0, m1, hs⟩
  have fresh : ∀ {B X b1 cap o} (i : Nat), 5 ≤ i → (envL most h B K X b b1 bm cap o v vb).N i = none := fun {B X b1 cap o} i hi => by
    show (if i = 0 then some b else if i = 1 then some b1 else if i = 2 then some bm else if i = 4 then some cap else none) = none
    rw [if_neg (by omega), if_neg (by omega), if_neg (by omega), if_neg (by omega)]
  rcases hbk with ⟨a, rfl, ha, rfl, hF⟩ | ⟨b1, cap, X, o1, rfl, ho1, ⟨c1, fr1, rfl, hp1, hs1, hf1⟩, hX, hb1, hb1m, hF⟩
  · -- none, or a row of none
    have two : ∀ (z : Bk) (b1 o : Nat), z ≠ .row → (z.v.den (envL most h [] K [] b b1 bm 0 o v (.slice a 0 0)) = some (.slice a 0 0)) → HRel ⟨w, oL z, GL⟩ (envL most h [] K [] b b1 bm 0 o v (.slice a 0 0)) (ofP (hB z)) 5 w := fun z b1 o hz hv => by
      have hL : hB z = [(0, stB z.v), (2, mB)] := by cases z <;> first | rfl | exact absurd rfl hz
      have hO : oL z = [0, 2] := by cases z <;> first | rfl | exact absurd rfl hz
      rw [hL, hO]
      refine HRel.owned _ (fun p hp => ?_) (fun p hp q hq _ he => ?_) (fun p hp _ => ?_) fresh (fun l hl => ?_) ⟨rfl, rfl⟩
      · simp only [List.mem_cons, List.not_mem_nil, or_false] at hp
        rcases hp with rfl | rfl
        · exact ⟨b, _, rfl, hob, srel rfl rfl hv rfl⟩
        · exact ⟨bm, _, rfl, hom, mrel rfl⟩
      · simp only [List.mem_cons, List.not_mem_nil, or_false] at hp hq
        rcases hp with rfl | rfl <;> rcases hq with rfl | rfl
        · rfl
        · exact absurd (Option.some.inj he) hne
        · exact absurd (Option.some.inj he).symm hne
        · rfl
      · simp only [List.mem_cons, List.not_mem_nil, or_false] at hp
        rcases hp with rfl | rfl <;> simp
      · simp only [List.mem_cons, List.not_mem_nil, or_false] at hl
        rcases hl with rfl | rfl <;> omega
    have own2 : ∀ {B X b1 cap o} (z : Bk), z ≠ .row → ∀ l ∈ oL z, ∀ y, (envL most h B K X b b1 bm cap o v (.slice a 0 0)).N l = some y → F y := fun {B X b1 cap o} z hz l hl y hy => by
      have hO : oL z = [0, 2] := by cases z <;> first | rfl | exact absurd rfl hz
      rw [hO] at hl
      simp only [List.mem_cons, List.not_mem_nil, or_false] at hl
      rcases hl with rfl | rfl
      · cases hy; exact (hF _).2 (.inl rfl)
      · cases hy; exact (hF _).2 (.inr rfl)
    cases a with
    | none => exact ⟨.nil, envL most h [] K [] b 0 bm 0 0 v (.slice none 0 0), [], two .nil 0 0 (by simp) rfl, S2 hs, (fun e => by cases e), fun _ => rfl, own2 .nil (by simp), rfl, fun e => by cases e⟩
    | some p =>
      obtain ⟨pb, po, ps⟩ := p
      obtain rfl : ps = none := ha _ rfl
      exact ⟨.zero, envL most h [] K [] b pb bm 0 po v (.slice (some ⟨pb, po, none⟩) 0 0), [], two .zero pb po (by simp) (den_slice_of rfl rfl rfl rfl), S2 hs, (fun e => by cases e), fun _ => rfl, own2 .zero (by simp), rfl, fun _ => ⟨pb, po, rfl, rfl⟩⟩
  · have hlen : B.length ≤ X.length := by
      have := congrArg List.length hX
      rw [List.length_take] at this; omega
    have hr : HRel ⟨w, oL .row, GL⟩ (envL most h B K X b b1 bm cap 0 v (.slice (some ⟨b1, 0, none⟩) B.length cap)) (ofP (hB .row)) 5 w := by
      refine HRel.owned (hB .row) (fun p hp => ?_) (fun p hp q hq _ he => ?_) (fun p hp _ => ?_) fresh (fun l hl => ?_) ⟨rfl, rfl⟩
      · simp only [hB, List.mem_cons, List.not_mem_nil, or_false] at hp
        rcases hp with rfl | rfl | rfl
        · exact ⟨b, _, rfl, hob, srel rfl rfl (den_slice_of rfl rfl rfl rfl) rfl⟩
        · exact ⟨bm, _, rfl, hom, mrel rfl⟩
        · refine ⟨b1, _, rfl, ho1, rowOf [.i64] X, c1, fr1, 3, X.length, 0, rfl, fun _ => rfl, ?_, rfl, ⟨Nat.zero_le _, ?_⟩, rfl, rowOf_typed (by simp), ⟨cap, rfl, ?_⟩, fun _ => FrOk_of hf1⟩
          · show (some (encL X)).map (fun x => rowOf [.i64] (decL x)) = _
            rw [Option.map_some, decL_encL]
          · rw [List.drop_zero, rowOf1]; exact hp1
          · show c1.size - 0 = cap * 1
            omega
      · simp only [hB, List.mem_cons, List.not_mem_nil, or_false] at hp hq
        rcases hp with rfl | rfl | rfl <;> rcases hq with rfl | rfl | rfl
        · rfl
        · exact absurd (Option.some.inj he) hne
        · exact absurd (Option.some.inj he).symm hb1
        · exact absurd (Option.some.inj he).symm hne
        · rfl
        · exact absurd (Option.some.inj he).symm hb1m
        · exact absurd (Option.some.inj he) hb1
        · exact absurd (Option.some.inj he) hb1m
        · rfl
      · simp only [hB, List.mem_cons, List.not_mem_nil, or_false] at hp
        rcases hp with rfl | rfl | rfl <;> simp [oL]
      · simp only [oL, List.mem_cons, List.not_mem_nil, or_false] at hl
        rcases hl with rfl | rfl | rfl <;> omega
    refine ⟨.row, _, B, hr, S2 hs, fun _ => ⟨rfl, ?_, ?_, ?_⟩, fun e => absurd rfl e, fun l hl y hy => ?_, rfl, fun e => by cases e⟩
    · show (X.length : Int) = ((decL (encL X)).length : Int)
      rw [decL_encL]
    · show B.length ≤ (decL (encL X)).length
      rw [decL_encL]; exact hlen
    · show (decL (encL X)).take B.length = B
      rw [decL_encL]; exact hX
    · simp only [oL, List.mem_cons, List.not_mem_nil, or_false] at hl
      rcases hl with rfl | rfl | rfl
      · cases hy; exact (hF _).2 (.inl rfl)
      · cases hy; exact (hF _).2 (.inr (.inr rfl))
      · cases hy; exact (hF _).2 (.inr (.inl rfl))
end Lp
end Go.Proofs.Ytlcjgmehccopkaa
