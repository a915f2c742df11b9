/-
  LinearModel (6): a model's blocks, as the machine takes them, and back.
-/
import Derived.Test.YtpgonpjakllnjaaLm5
namespace Go.Proofs.Ytpgonpjakllnjaa
open Go.Vm Go.Vm.Md
namespace Lm

theorem entM_eq : ∀ l : List Int, entM l = entOf l := fun l => by
  fun_induction entM l with
  | case1 k v r ih => simp only [entOf, ih]
  | case2 l h => 
    cases l with
    | nil => rfl
    | cons a t => cases t with
      | nil => rfl
      | cons b t => exact absurd rfl (h a b t)
theorem rowOf1 (L : List Int) : rowOf [.i64] L = L.map (Value.int .i64) := by
  apply List.ext_getElem?
  intro i
  rw [rowOf_get, List.getElem?_map]
  have : i % [IntKind.i64].length = 0 := Nat.mod_one i
  rw [this]; rfl
/-- What the floor answers, under names. -/
def GL : GP := fun _ _ _ _ F => F 95 = (fun x k => (flM (decL x) (k.toNat + 1)).1) ∧ F 96 = (fun x k => (flM (decL x) (k.toNat + 1)).2)
def FL : Nat → Int → Int → Int := fun k => if k = 95 then (fun x k => (flM (decL x) (k.toNat + 1)).1) else (fun x k => (flM (decL x) (k.toNat + 1)).2)
/-- What holds of the names while Apply runs. -/
structure SM (m : Mod) (z : Bq) (c k a b : Int) (ρ : Env) : Prop where
  i7 : ρ.I 7 = encL m.M
  i8 : ρ.I 8 = encL m.S
  i30 : ρ.I 30 = c
  i31 : ρ.I 31 = k
  i32 : ρ.I 32 = a
  i33 : ρ.I 33 = b
  r : z = .row → ρ.I 5 = encL m.Q ∧ ρ.I 6 = (m.Q.length : Int) ∧ 1 ≤ m.Q.length
  n : z ≠ .row → m.Q = []
  le : m.Q.length ≤ 1000
theorem SM.of_le {m : Mod} {z : Bq} {c k a b : Int} {ρ ρ' : Env} (h : SM m z c k a b ρ) (g : ρ.Le ρ') : SM m z c k a b ρ' :=
  ⟨by rw [g.i]; exact h.i7, by rw [g.i]; exact h.i8, by rw [g.i]; exact h.i30, by rw [g.i]; exact h.i31, by rw [g.i]; exact h.i32, by rw [g.i]; exact h.i33, by rw [g.i]; exact h.r, h.n, h.le⟩
def envM (m : Mod) (c k a b : Int) (o bb b1 bp bs cap : Nat) : Env :=
  ⟨fun i => if i = 5 then encL m.Q else if i = 6 then m.Q.length else if i = 7 then encL m.M else if i = 8 then encL m.S else if i = 11 then o else if i = 30 then c else if i = 31 then k else if i = 32 then a else if i = 33 then b else 0, fun _ => false, fun _ => default, fun _ => undef, fun i => if i = 0 then some bb else if i = 1 then some b1 else if i = 2 then some bp else if i = 3 then some bs else if i = 4 then some cap else none, FL⟩
theorem startM {w : World} {bb : Nat} {F : Nat → Prop} {m : Mod} (c k a b : Int) (s : ModelIn w bb F m.Q m.M m.S) (hl : m.Q.length ≤ 1000) :
    ∃ z ρ, HRel ⟨w, oM z, GL⟩ ρ (ofP (hM 1 z)) 10 w ∧ SM m z c k a b ρ ∧ (∀ l ∈ oM z, ∃ y, ρ.N l = some y ∧ F y) ∧ ρ.N 0 = some bb := by
  obtain ⟨⟨cc, fr, vq, bp, bs, em, cm, es, cs, hob, hc, hf, hop, hem, hbe, hos, hes, hbs, n1, n2, n3, hq⟩⟩ := s
  have hsize : cc.size = 3 := by
    have : cc.toList.length = 3 := by rw [hc]; rfl
    simpa using this
  have mrel : ∀ {ρ : Env} {i : Nat} {L : List Int} {e : Array MapEntry} {cl : Nat}, ρ.I i = encL L → e.toList.map (fun e => (e.key, e.val)) = entM L → BornM e cl → (ABlk.mapc (.var i)).rel ρ true (.map e cl) := fun {ρ i L e cl} h4 he hbb => ⟨encL L, e, cl, rfl, congrArg some h4, by rw [decL_encL, ← entM_eq]; exact he, hbb⟩
  have srel : ∀ {ρ : Env} {u : AVal}, u.den ρ = some vq → ρ.N 2 = some bp → ρ.N 3 = some bs → (mdB u).k.rel ρ (mdB u).rw (.cells cc 65 fr) := fun {ρ u} hu h2 h3 => by
    have e2 : (AVal.map 2).den ρ = some (.map (some bp)) := by simp only [AVal.den, h2, Option.map_some]
    have e3 : (AVal.map 3).den ρ = some (.map (some bs)) := by simp only [AVal.den, h3, Option.map_some]
    exact ⟨[vq, .map (some bp), .map (some bs)], cc, fr, rfl, by simp only [AVal.denL, hu, e2, e3], by rw [hc]; exact List.prefix_refl _, hsize, fun _ => hf⟩
  have fresh : ∀ (o b1 cap i : Nat), 10 ≤ i → (envM m c k a b o bb b1 bp bs cap).N i = none := fun o b1 cap i hi => by
    show (if i = 0 then some bb else if i = 1 then some b1 else if i = 2 then some bp else if i = 3 then some bs else if i = 4 then some cap else none) = none
    rw [if_neg (by omega), if_neg (by omega), if_neg (by omega), if_neg (by omega), if_neg (by omega)]
  have hg : ∀ (o b1 cap : Nat), GL (envM m c k a b o bb b1 bp bs cap).I (envM m c k a b o bb b1 bp bs cap).B (envM m c k a b o bb b1 bp bs cap).S (envM m c k a b o bb b1 bp bs cap).V (envM m c k a b o bb b1 bp bs cap).F := fun _ _ _ => ⟨rfl, rfl⟩
  rcases hq with ⟨ad, rfl, ha, hQ, hF⟩ | ⟨b1, cap, ob, hQ0, rfl, ho1, ⟨c1, fr1, rfl, hp1, hs1, hf1⟩, m1, m2, m3, hF⟩
  · have two : ∀ (z : Bq) (o b1 : Nat), z ≠ .row → (z.v 1).den (envM m c k a b o bb b1 bp bs 0) = some (.slice ad 0 0) → ∃ z ρ, HRel ⟨w, oM z, GL⟩ ρ (ofP (hM 1 z)) 10 w ∧ SM m z c k a b ρ ∧ (∀ l ∈ oM z, ∃ y, ρ.N l = some y ∧ F y) ∧ ρ.N 0 = some bb := fun z o b1 hz hv => by
      have hL : hM 1 z = [(0, mdB (z.v 1)), (2, mpB), (3, smB)] := by cases z <;> first | rfl | exact absurd rfl hz
      have hO : oM z = [0, 2, 3] := by cases z <;> first | rfl | exact absurd rfl hz
      refine ⟨z, envM m c k a b o bb b1 bp bs 0, ?_, ⟨rfl, rfl, rfl, rfl, rfl, rfl, fun e => absurd e hz, fun _ => hQ, hl⟩, ?_, rfl⟩
      · rw [hL, hO]
        refine HRel.owned _ (fun p hp => ?_) (fun p hp q hq _ he => ?_) (fun p hp _ => ?_) (fresh _ _ _) (fun l hl => ?_) (hg _ _ _)
        · simp only [List.mem_cons, List.not_mem_nil, or_false] at hp
          rcases hp with rfl | rfl | rfl
          · exact ⟨bb, _, rfl, hob, srel hv rfl rfl⟩
          · exact ⟨bp, _, rfl, hop, mrel rfl hem hbe⟩
          · exact ⟨bs, _, rfl, hos, mrel rfl hes hbs⟩
        · simp only [List.mem_cons, List.not_mem_nil, or_false] at hp hq
          rcases hp with rfl | rfl | rfl <;> rcases hq with rfl | rfl | rfl <;> first
            | rfl
            | exact absurd (Option.some.inj he) n1
            | exact absurd (Option.some.inj he) n2
            | exact absurd (Option.some.inj he) n3
            | exact absurd (Option.some.inj he).symm n1
            | exact absurd (Option.some.inj he).symm n2
            | exact absurd (Option.some.inj he).symm n3
        · simp only [List.mem_cons, List.not_mem_nil, or_false] at hp
          rcases hp with rfl | rfl | rfl <;> simp
        · simp only [List.mem_cons, List.not_mem_nil, or_false] at hl
          rcases hl with rfl | rfl | rfl <;> omega
      · intro l hl
        rw [hO] at hl
        simp only [List.mem_cons, List.not_mem_nil, or_false] at hl
        rcases hl with rfl | rfl | rfl
        · exact ⟨bb, rfl, (hF _).2 (.inl rfl)⟩
        · exact ⟨bp, rfl, (hF _).2 (.inr (.inl rfl))⟩
        · exact ⟨bs, rfl, (hF _).2 (.inr (.inr rfl))⟩
    cases ad with
    | none => exact two .nil 0 0 (by simp) rfl
    | some p =>
      obtain ⟨pb, po, ps⟩ := p
      obtain rfl : ps = none := ha _ rfl
      exact two .zero po pb (by simp) (den_slice_of rfl rfl rfl rfl)
  · have h1 : 1 ≤ m.Q.length := List.length_pos_iff.2 hQ0
    refine ⟨.row, envM m c k a b 0 bb b1 bp bs cap, ?_, ⟨rfl, rfl, rfl, rfl, rfl, rfl, fun _ => ⟨rfl, rfl, h1⟩, fun e => absurd rfl e, hl⟩, ?_, rfl⟩
    · refine HRel.owned (hM 1 .row) (fun p hp => ?_) (fun p hp q hq _ he => ?_) (fun p hp _ => ?_) (fresh _ _ _) (fun l hl => ?_) (hg _ _ _)
      · simp only [hM, List.cons_append, List.nil_append, List.mem_cons, List.not_mem_nil, or_false] at hp
        rcases hp with rfl | rfl | rfl | rfl
        · exact ⟨bb, _, rfl, hob, srel (u := Bq.row.v 1) (den_slice_of rfl rfl rfl rfl) rfl rfl⟩
        · exact ⟨bp, _, rfl, hop, mrel rfl hem hbe⟩
        · exact ⟨bs, _, rfl, hos, mrel rfl hes hbs⟩
        · refine ⟨b1, _, rfl, ho1, rowOf [.i64] m.Q, c1, fr1, 3, m.Q.length, 0, rfl, fun _ => rfl, ?_, rfl, ⟨Nat.zero_le _, ?_⟩, rfl, rowOf_typed (by simp), ⟨cap, rfl, ?_⟩, fun _ => hf1⟩
          · show (some (encL m.Q)).map (fun x => rowOf [.i64] (decL x)) = _
            rw [Option.map_some, decL_encL]
          · rw [List.drop_zero, rowOf1]; exact hp1
          · show c1.size - 0 = cap * 1
            omega
      · simp only [hM, List.cons_append, List.nil_append, List.mem_cons, List.not_mem_nil, or_false] at hp hq
        rcases hp with rfl | rfl | rfl | rfl <;> rcases hq with rfl | rfl | rfl | rfl <;> first
          | rfl
          | exact absurd (Option.some.inj he) n1
          | exact absurd (Option.some.inj he) n2
          | exact absurd (Option.some.inj he) n3
          | exact absurd (Option.some.inj he) m1
          | exact absurd (Option.some.inj he) m2
          | exact absurd (Option.some.inj he) m3
          | exact absurd (Option.some.inj he).symm n1
          | exact absurd (Option.some.inj he).symm n2
          | exact absurd (Option.some.inj he).symm n3
          | exact absurd (Option.some.inj he).symm m1
          | exact absurd (Option.some.inj he).symm m2
          | exact absurd (Option.some.inj he).symm m3
      · simp only [hM, List.cons_append, List.nil_append, List.mem_cons, List.not_mem_nil, or_false] at hp
        rcases hp with rfl | rfl | rfl | rfl <;> simp [oM]
      · simp only [oM, List.mem_cons, List.not_mem_nil, or_false] at hl
        rcases hl with rfl | rfl | rfl | rfl <;> omega
    · intro l hl
      simp only [oM, List.mem_cons, List.not_mem_nil, or_false] at hl
      rcases hl with rfl | rfl | rfl | rfl
      · exact ⟨bb, rfl, (hF _).2 (.inl rfl)⟩
      · exact ⟨bp, rfl, (hF _).2 (.inr (.inl rfl))⟩
      · exact ⟨bs, rfl, (hF _).2 (.inr (.inr (.inl rfl)))⟩
      · exact ⟨b1, rfl, (hF _).2 (.inr (.inr (.inr rfl)))⟩
-- THE END
section
variable {w w' : World} {own : List Nat} {G : GP} {ρ : Env} {bb nl : Nat} {F : Nat → Prop}
theorem in_or {H : Heap} (hr : HRel ⟨w, own, G⟩ ρ H nl w') (hF : ∀ l ∈ own, ∀ y, ρ.N l = some y → F y) {l y : Nat} {k : HB} (hl : H.get l = some k) (hk : k.rw = true) (hy : ρ.N l = some y) : F y ∨ w.heap.size ≤ y := by
  rcases hr.own l k y hl hk hy with h1 | ⟨l', hl', h2⟩
  · exact .inr h1
  · exact .inl (hF l' hl' y h2)
theorem mapR {H : Heap} (hr : HRel ⟨w, own, G⟩ ρ H nl w') {l i : Nat} {M : List Int} (hg : H.get l = some ⟨.mapc (.var i), true⟩) (h : decL (ρ.I i) = M) : ∃ bm es cl, ρ.N l = some bm ∧ w'.heap[bm]? = some (.map es cl) ∧ es.toList.map (fun e => (e.key, e.val)) = entM M ∧ BornM es cl := by
  obtain ⟨bm, o, hbm, ho, x, es, cl, rfl, hx, he, hbb⟩ := hr.blk l _ hg
  refine ⟨bm, es, cl, hbm, ho, ?_, hbb⟩
  have hx : ρ.I i = x := Option.some.inj hx
  rw [entM_eq, ← h, hx]
  exact he
theorem mEnd {l : Nat} (z : Bq) (hl : l = 1 ∨ l = 9) {Q M S : List Int} (hr : HRel ⟨w, own, G⟩ ρ (ofP (hM l z)) nl w') (hF : ∀ l ∈ own, ∀ y, ρ.N l = some y → F y) (hb : ρ.N 0 = some bb) (h7 : decL (ρ.I 7) = M) (h8 : decL (ρ.I 8) = S) (hrow : z = .row → decL (ρ.I 5) = Q ∧ ρ.I 6 = (Q.length : Int) ∧ 1 ≤ Q.length) (hnil : z ≠ .row → Q = []) :
    ∃ F', BigStep w w' F F' ∧ ModelIn w' bb F' Q M S := by
  have g0 : (ofP (hM l z)).get 0 = some (mdB (z.v l)) := by rcases hl with rfl | rfl <;> cases z <;> rfl
  have g2 : (ofP (hM l z)).get 2 = some mpB := by rcases hl with rfl | rfl <;> cases z <;> rfl
  have g3 : (ofP (hM l z)).get 3 = some smB := by rcases hl with rfl | rfl <;> cases z <;> rfl
  obtain ⟨bp, em, cm, hbp, hop, hem, hbe⟩ := mapR hr g2 h7
  obtain ⟨bs, es, cs, hbs, hos, hes, hbt⟩ := mapR hr g3 h8
  obtain ⟨b', o, hb', hob, xs, c, fr, rfl, hd, hp, ht, hf⟩ := hr.blk 0 _ g0
  rw [hb] at hb'; cases hb'
  have e2 : (AVal.map 2).den ρ = some (.map (some bp)) := by simp only [AVal.den, hbp, Option.map_some]
  have e3 : (AVal.map 3).den ρ = some (.map (some bs)) := by simp only [AVal.den, hbs, Option.map_some]
  obtain ⟨vq, hv⟩ : ∃ vq, (z.v l).den ρ = some vq := by
    cases hv : (z.v l).den ρ with
    | none => simp only [AVal.denL, hv] at hd; cases hd
    | some v => exact ⟨v, rfl⟩
  simp only [AVal.denL, hv, e2, e3, Option.some.injEq] at hd
  subst hd
  have hcl : c.toList = [vq, .map (some bp), .map (some bs)] := by
    obtain ⟨t, ht'⟩ := hp
    have hlen : c.toList.length = 3 := by
      have : c.size = 3 := ht
      simpa using this
    rw [← ht'] at hlen ⊢
    have : t = [] := by
      cases t with
      | nil => rfl
      | cons a t => simp at hlen
    rw [this, List.append_nil]
  have ne : ∀ {i j : Nat} {k k' : HB} {x y : Nat}, (ofP (hM l z)).get i = some k → (ofP (hM l z)).get j = some k' → k.rw = true → ρ.N i = some x → ρ.N j = some y → i ≠ j → x ≠ y := fun {i j k k' x y} h1 h2 hk hx hy hij e => hij (hr.inj i j k k' h1 h2 hk (by rw [hx, hy, e]))
  have n1 := ne g0 g2 rfl hb hbp (by decide)
  have n2 := ne g0 g3 rfl hb hbs (by decide)
  have n3 := ne g2 g3 rfl hbp hbs (by decide)
  have i0 := in_or hr hF g0 rfl hb
  have i2 := in_or hr hF g2 rfl hbp
  have i3 := in_or hr hF g3 rfl hbs
  have step : ∀ F' : Nat → Prop, (∀ y, F' y → F y ∨ w.heap.size ≤ y) → BigStep w w' F F' := fun F' hs =>
    ⟨hr.size, fun y hy hn => hr.frame y hy fun l hl e => hn (hF l hl y e), hr.tape, hr.os, hr.out, hs⟩
  have fin3 : ∀ a : Option Addr, vq = .slice a 0 0 → (∀ p, a = some p → p.spot = none) → Q = [] → ∃ F', BigStep w w' F F' ∧ ModelIn w' bb F' Q M S := fun a ha hsp hQ => by
    refine ⟨fun y => y = bb ∨ y = bp ∨ y = bs, step _ fun y hy => ?_, ⟨⟨c, fr, vq, bp, bs, em, cm, es, cs, hob, hcl, hf rfl, hop, hem, hbe, hos, hes, hbt, n1, n2, n3, .inl ⟨a, ha, hsp, hQ, fun _ => Iff.rfl⟩⟩⟩⟩
    rcases hy with rfl | rfl | rfl
    · exact i0
    · exact i2
    · exact i3
  cases z with
  | nil =>
    have hv : some (Value.slice none 0 0) = some vq := hv
    cases hv
    exact fin3 none rfl (fun _ e => by cases e) (hnil (by simp))
  | zero =>
    obtain ⟨b1, o1, n1', c1', rfl, _, _, hn, hcp⟩ := den_slice (show (AVal.slice l (.var 11) (.lit 0) (.lit 0)).den ρ = some vq from hv)
    obtain rfl : n1' = 0 := by have := Option.some.inj hn; exact (Int.ofNat.inj this).symm
    obtain rfl : c1' = 0 := by have := Option.some.inj hcp; exact (Int.ofNat.inj this).symm
    exact fin3 _ rfl (fun p e => by cases e; rfl) (hnil (by simp))
  | row =>
    obtain ⟨r5, r6, r1⟩ := hrow rfl
    have gl : (ofP (hM l .row)).get l = some qrB := by rcases hl with rfl | rfl <;> rfl
    obtain ⟨b1, o1, hb1, ho1, xs, c1, fr1, el1, m1', st, rfl, hel, hd, hst, ⟨hsz, hp1⟩, hn, hty, ⟨cap, hcap, hroom⟩, hf1⟩ := hr.blk l _ gl
    obtain rfl : st = 0 := by have := Option.some.inj hst; exact (Int.ofNat.inj this).symm
    rw [List.drop_zero] at hp1
    have hel := hel rfl
    subst hel
    have hx5 : xs = rowOf [.i64] (decL (ρ.I 5)) := (Option.some.inj hd).symm
    subst hx5
    obtain rfl : vq = .slice (some ⟨b1, 0, none⟩) Q.length cap := Option.some.inj (hv.symm.trans (den_slice_of hb1 rfl (congrArg some r6) hcap))
    have m1 := (ne gl g0 rfl hb1 hb (by rcases hl with rfl | rfl <;> decide))
    have m2 := (ne gl g2 rfl hb1 hbp (by rcases hl with rfl | rfl <;> decide))
    have m3 := (ne gl g3 rfl hb1 hbs (by rcases hl with rfl | rfl <;> decide))
    refine ⟨fun y => y = bb ∨ y = bp ∨ y = bs ∨ y = b1, step _ fun y hy => ?_, ⟨⟨c, fr, _, bp, bs, em, cm, es, cs, hob, hcl, hf rfl, hop, hem, hbe, hos, hes, hbt, n1, n2, n3, .inr ⟨b1, cap, _, List.length_pos_iff.1 r1, rfl, ho1, ⟨c1, fr1, rfl, ?_, ?_, hf1 rfl⟩, m1, m2, m3, fun _ => Iff.rfl⟩⟩⟩⟩
    · rcases hy with rfl | rfl | rfl | rfl
      · exact i0
      · exact i2
      · exact i3
      · exact in_or hr hF gl rfl hb1
    · rw [← rowOf1, ← r5]; exact hp1
    · have : c1.size - 0 = cap * 1 := hroom
      omega
end
end Lm
end Go.Proofs.Ytpgonpjakllnjaa
