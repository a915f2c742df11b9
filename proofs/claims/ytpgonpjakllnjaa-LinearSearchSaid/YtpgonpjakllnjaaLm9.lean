/-
  LinearModel (6): a model's blocks, as the machine takes them, and back.
-/
import Derived.Test.YtpgonpjakllnjaaLm5
section
namespace Go.Proofs.Ytpgonpjakllnjaa
open Go.Vm Go.Vm.Md
namespace Lm

theorem entM_eq : ∀ l : List Int, entM l = entOf l := fun l => by
  fun_induction entM l with
  | case1 k v r ih => simp only [entOf, ih]
  | case2 l h => 
    cases l with
    | nil => rfl
    | cons a t => cases t with
      | nil => rfl
      | cons b t => exact absurd rfl (h a b t)
theorem rowOf1 (L : List Int) : rowOf [.i64] L = L.map (Value.int .i64) := by
  apply List.ext_getElem?
  intro i
  rw [rowOf_get, List.getElem?_map]
  have : i % [IntKind.i64].length = 0 := Nat.mod_one i
  rw [this]; rfl
/-- What the floor answers, under names. -/
def GL : GP := fun _ _ _ _ F => F 95 = (fun x k => (flM (decL x) (k.toNat + 1)).1) ∧ F 96 = (fun x k => (flM (decL x) (k.toNat + 1)).2)
def FL : Nat → Int → Int → Int := fun k => if k = 95 then (fun x k => (flM (decL x) (k.toNat + 1)).1) else (fun x k => (flM (decL x) (k.toNat + 1)).2)
/-- What holds of the names while Apply runs. -/
structure SM (m : Mod) (z : Bq) (c k a b : Int) (ρ : Env) : Prop where
  i7 : ρ.I 7 = encL m.M
  i8 : ρ.I 8 = encL m.S
  i30 : ρ.I 30 = c
  i31 : ρ.I 31 = k
  i32 : ρ.I 32 = a
  i33 : ρ.I 33 = b
  r : z = .row → ρ.I 5 = encL m.Q ∧ ρ.I 6 = (m.Q.length : Int) ∧ 1 ≤ m.Q.length
  n : z ≠ .row → m.Q = []
  le : m.Q.length ≤ 1000
theorem SM.of_le {m : Mod} {z : Bq} {c k a b : Int} {ρ ρ' : Env} (h : SM m z c k a b ρ) (g : ρ.Le ρ') : SM m z c k a b ρ' :=
  ⟨by rw [g.i]; exact h.i7, by rw [g.i]; exact h.i8, by rw [g.i]; exact h.i30, by rw [g.i]; exact h.i31, by rw [g.i]; exact h.i32, by rw [g.i]; exact h.i33, by rw [g.i]; exact h.r, h.n, h.le⟩
def envM (m : Mod) (c k a b : Int) (o bb b1 bp bs cap : Nat) : Env :=
  ⟨fun i => if i = 5 then encL m.Q else if i = 6 then m.Q.length else if i = 7 then encL m.M else if i = 8 then encL m.S else if i = 11 then o else if i = 30 then c else if i = 31 then k else if i = 32 then a else if i = 33 then b else 0, fun _ => false, fun _ => default, fun _ => undef, fun i => if i = 0 then some bb else if i = 1 then some b1 else if i = 2 then some bp else if i = 3 then some bs else if i = 4 then some cap else none, FL⟩
theorem startM {w : World} {bb : Nat} {F : Nat → Prop} {m : Mod} (c k a b : Int) (s : ModelIn w bb F m.Q m.M m.S) (hl : m.Q.length ≤ 1000) :
    ∃ z ρ, HRel ⟨w, oM z, GL⟩ ρ (ofP (hM 1 z)) 10 w ∧ SM m z c k a b ρ ∧ (∀ l ∈ oM z, ∃ y, ρ.N l = some y ∧ F y) ∧ ρ.N 0 = some bb := by
  obtain ⟨⟨cc, fr, vq, bp, bs, em, cm, es, cs, hob, hc, hf, hop, hem, hbe, hos, hes, hbs, n1, n2, n3, hq⟩⟩ := s
  have hsize : cc.size = 3 := by
    have : cc.toList.length = 3 := by rw [hc]; rfl
    simpa using this
  have mrel : ∀ {ρ : Env} {i : Nat} {L : List Int} {e : Array MapEntry} {cl : Nat}, ρ.I i = encL L → e.toList.map (fun e => (e.key, e.val)) = entM L → BornM e cl → (ABlk.mapc (.var i)).rel ρ true (.map e cl) := fun {ρ i L e cl} h4 he hbb => ⟨encL L, e, cl, rfl, congrArg some h4, by rw [decL_encL, ← entM_eq]; exact he, hbb⟩
  have srel : ∀ {ρ : Env} {u : AVal}, u.den ρ = some vq → ρ.N 2 = some bp → ρ.N 3 = some bs → (mdB u).k.rel ρ (mdB u).rw (.cells cc 65 fr) := fun {ρ u} hu h2 h3 => by
    have e2 : (AVal.map 2).den ρ = some (.map (some bp)) := by simp only [AVal.den, h2, Option.map_some]
    have e3 : (AVal.map 3).den ρ = some (.map (some bs)) := by simp only [AVal.den, h3, Option.map_some]
    exact ⟨[vq, .map (some bp), .map (some bs)], cc, fr, rfl, by simp only [AVal.denL, hu, e2, e3], by rw [hc]; exact List.prefix_refl _, hsize, fun _ => hf⟩
  have fresh : ∀ (o b1 cap i : Nat), 10 ≤ i → (envM m c k a b o bb b1 bp bs cap).N i = none := fun o b1 cap i hi => by
    show (if i = 0 then some bb else if i = 1 then some b1 else if i = 2 then some bp else if i = 3 then some bs else if i = 4 then some cap else none) = none
    rw [if_neg (by omega), if_neg (by omega), if_neg (by omega), if_neg (by omega), if_neg (by omega)]
  have hg : ∀ (o b1 cap : Nat), GL (envM m c k a b o bb b1 bp bs cap).I (envM m c k a b o bb b1 bp bs cap).B (envM m c k a b o bb b1 bp bs cap).S (envM m c k a b o bb b1 bp bs cap).V (envM m c k a b o bb b1 bp bs cap).F := fun _ _ _ => ⟨rfl, rfl⟩
  rcases hq with ⟨ad, rfl, ha, hQ, hF⟩ | ⟨b1, cap, ob, hQ0, rfl, ho1, ⟨c1, fr1, rfl, hp1, hs1, hf1⟩, m1, m2, m3, hF⟩
  · have two : ∀ (z : Bq) (o b1 : Nat), z ≠ .row → (z.v 1).den (envM m c k a b o bb b1 bp bs 0) = some (.slice ad 0 0) → ∃ z ρ, HRel ⟨w, oM z, GL⟩ ρ (ofP (hM 1 z)) 10 w ∧ SM m z c k a b ρ ∧ (∀ l ∈ oM z, ∃ y, ρ.N l = some y ∧ F y) ∧ ρ.N 0 = some bb := fun z o b1 hz hv => by
      have hL : hM 1 z = [(0, mdB (z.v 1)), (2, mpB), (3, smB)] := by cases z <;> first | rfl | exact absurd rfl hz
      have hO : oM z = [0, 2, 3] := by cases z <;> first | rfl | exact absurd rfl hz
      refine ⟨z, envM m c k a b o bb b1 bp bs 0, ?_, ⟨rfl, rfl, rfl, rfl, rfl, rfl, fun e => absurd e hz, fun _ => hQ, hl⟩, ?_, rfl⟩
      · rw [hL, hO]
        refine HRel.owned _ (fun p hp => ?_) (fun p hp q hq _ he => ?_) (fun p hp _ => ?_) (fresh _ _ _) (fun l hl => ?_) (hg _ _ _)
        · simp only [List.mem_cons, List.not_mem_nil, or_false] at hp
          rcases hp with rfl | rfl | rfl
          · exact ⟨bb, _, rfl, hob, srel hv rfl rfl⟩
          · exact ⟨bp, _, rfl, hop, mrel rfl hem hbe⟩
          · exact ⟨bs, _, rfl, hos, mrel rfl hes hbs⟩
        · simp only [List.mem_cons, List.not_mem_nil, or_false] at hp hq
          rcases hp with rfl | rfl | rfl <;> rcases hq with rfl | rfl | rfl <;> first
            | rfl
            | exact absurd (Option.some.inj he) n1
            | exact absurd (Option.some.inj he) n2
            | exact absurd (Option.some.inj he) n3
            | exact absurd (Option.some.inj he).symm n1
            | exact absurd (Option.some.inj he).symm n2
            | exact absurd (Option.some.inj he).symm n3
        · simp only [List.mem_cons, List.not_mem_nil, or_false] at hp
          rcases hp with rfl | rfl | rfl <;> simp
        · simp only [List.mem_cons, List.not_mem_nil, or_false] at hl
          rcases hl with rfl | rfl | rfl <;> omega
      · intro l hl
        rw [hO] at hl
        simp only [List.mem_cons, List.not_mem_nil, or_false] at hl
        rcases hl with rfl | rfl | rfl
        · exact ⟨bb, rfl, (hF _).2 (.inl rfl)⟩
        · exact ⟨bp, rfl, (hF _).2 (.inr (.inl rfl))⟩
        · exact ⟨bs, rfl, (hF _).2 (.inr (.inr rfl))⟩
    cases ad with
    | none => exact two .nil 0 0 (by simp) rfl
    | some p =>
      obtain ⟨pb, po, ps⟩ := p
      obtain rfl : ps = none := ha _ rfl
      exact two .zero po pb (by simp) (den_slice_of rfl rfl rfl rfl)
  · have h1 : 1 ≤ m.Q.length := List.length_pos_iff.2 hQ0
    refine ⟨.row, envM m c k a b 0 bb b1 bp bs cap, ?_, ⟨rfl, rfl, rfl, rfl, rfl, rfl, fun _ => ⟨rfl, rfl, h1⟩, fun e => absurd rfl e, hl⟩, ?_, rfl⟩
    · refine HRel.owned (hM 1 .row) (fun p hp => ?_) (fun p hp q hq _ he => ?_) (fun p hp _ => ?_) (fresh _ _ _) (fun l hl => ?_) (hg _ _ _)
      · simp only [hM, List.cons_append, List.nil_append, List.mem_cons, List.not_mem_nil, or_false] at hp
        rcases hp with rfl | rfl | rfl | rfl
        · exact ⟨bb, _, rfl, hob, srel (u := Bq.row.v 1) (den_slice_of rfl rfl rfl rfl) rfl rfl⟩
        · exact ⟨bp, _, rfl, hop, mrel rfl hem hbe⟩
        · exact ⟨bs, _, rfl, hos, mrel rfl hes hbs⟩
        · refine ⟨b1, _, rfl, ho1, rowOf [.i64] m.Q, c1, fr1, 3, m.Q.length, 0, rfl, fun _ => rfl, ?_, rfl, ⟨Nat.zero_le _, ?_⟩, rfl, rowOf_typed (by simp), ⟨cap, rfl, ?_⟩, fun _ => hf1⟩
          · show (some (encL m.Q)).map (fun x => rowOf [.i64] (decL x)) = _
            rw [Option.map_some, decL_encL]
          · rw [List.drop_zero, rowOf1]; exact hp1
          · show c1.size - 0 = cap * 1
            omega
      · simp only [hM, List.cons_append, List.nil_append, List.mem_cons, List.not_mem_nil, or_false] at hp hq
        rcases hp with rfl | rfl | rfl | rfl <;> rcases hq with rfl | rfl | rfl | rfl <;> first
          | rfl
          | exact absurd (Option.some.inj he) n1
          | exact absurd (Option.some.inj he) n2
          | exact absurd (Option.some.inj he) n3
          | exact absurd (Option.some.inj he) m1
          | exact absurd (Option.some.inj he) m2
          | exact absurd (Option.some.inj he) m3
          | exact absurd (Option.some.inj he).symm n1
          | exact absurd (Option.some.inj he).symm n2
          | exact absurd (Option.some.inj he).symm n3
          | exact absurd (Option.some.inj he).symm m1
          | exact absurd (Option.some.inj he).symm m2
          | exact absurd (Option.some.inj he).symm m3
      · simp only [hM, List.cons_append, List.nil_append, List.mem_cons, List.not_mem_nil, or_false] at hp
        rcases hp with rfl | rfl | rfl | rfl <;> simp [oM]
      · simp only [oM, List.mem_cons, List.not_mem_nil, or_false] at hl
        rcases hl with rfl | rfl | rfl | rfl <;> omega
    · intro l hl
      simp only [oM, List.mem_cons, List.not_mem_nil, or_false] at hl
      rcases hl with rfl | rfl | rfl | rfl
      · exact ⟨bb, rfl, (hF _).2 (.inl rfl)⟩
      · exact ⟨bp, rfl, (hF _).2 (.inr (.inl rfl))⟩
      · exact ⟨bs, rfl, (hF _).2 (.inr (.inr (.inl rfl)))⟩
      · exact ⟨b1, rfl, (hF _).2 (.inr (.inr (.inr rfl)))⟩
-- THE END
section
variable {w w' : World} {own : List Nat} {G : GP} {ρ : Env} {bb nl : Nat} {F : Nat → Prop}
theorem in_or {H : Heap} (hr : HRel ⟨w, own, G⟩ ρ H nl w') (hF : ∀ l ∈ own, ∀ y, ρ.N l = some y → F y) {l y : Nat} {k : HB} (hl : H.get l = some k) (hk : k.rw = true) (hy : ρ.N l = some y) : F y ∨ w.heap.size ≤ y := by
  rcases hr.own l k y hl hk hy with h1 | ⟨l', hl', h2⟩
  · exact .inr h1
  · exact .inl (hF l' hl' y h2)
theorem mapR {H : Heap} (hr : HRel ⟨w, own, G⟩ ρ H nl w') {l i : Nat} {M : List Int} (hg : H.get l = some ⟨.mapc (.var i), true⟩) (h : decL (ρ.I i) = M) : ∃ bm es cl, ρ.N l = some bm ∧ w'.heap[bm]? = some (.map es cl) ∧ es.toList.map (fun e => (e.key, e.val)) = entM M ∧ BornM es cl := by
  obtain ⟨bm, o, hbm, ho, x, es, cl, rfl, hx, he, hbb⟩ := hr.blk l _ hg
  refine ⟨bm, es, cl, hbm, ho, ?_, hbb⟩
  have hx : ρ.I i = x := Option.some.inj hx
  rw [entM_eq, ← h, hx]
  exact he
theorem mEnd {l : Nat} (z : Bq) (hl : l = 1 ∨ l = 9) {Q M S : List Int} (hr : HRel ⟨w, own, G⟩ ρ (ofP (hM l z)) nl w') (hF : ∀ l ∈ own, ∀ y, ρ.N l = some y → F y) (hb : ρ.N 0 = some bb) (h7 : decL (ρ.I 7) = M) (h8 : decL (ρ.I 8) = S) (hrow : z = .row → decL (ρ.I 5) = Q ∧ ρ.I 6 = (Q.length : Int) ∧ 1 ≤ Q.length) (hnil : z ≠ .row → Q = []) :
    ∃ F', BigStep w w' F F' ∧ ModelIn w' bb F' Q M S := by
  have g0 : (ofP (hM l z)).get 0 = some (mdB (z.v l)) := by rcases hl with rfl | rfl <;> cases z <;> rfl
  have g2 : (ofP (hM l z)).get 2 = some mpB := by rcases hl with rfl | rfl <;> cases z <;> rfl
  have g3 : (ofP (hM l z)).get 3 = some smB := by rcases hl with rfl | rfl <;> cases z <;> rfl
  obtain ⟨bp, em, cm, hbp, hop, hem, hbe⟩ := mapR hr g2 h7
  obtain ⟨bs, es, cs, hbs, hos, hes, hbt⟩ := mapR hr g3 h8
  obtain ⟨b', o, hb', hob, xs, c, fr, rfl, hd, hp, ht, hf⟩ := hr.blk 0 _ g0
  rw [hb] at hb'; cases hb'
  have e2 : (AVal.map 2).den ρ = some (.map (some bp)) := by simp only [AVal.den, hbp, Option.map_some]
  have e3 : (AVal.map 3).den ρ = some (.map (some bs)) := by simp only [AVal.den, hbs, Option.map_some]
  obtain ⟨vq, hv⟩ : ∃ vq, (z.v l).den ρ = some vq := by
    cases hv : (z.v l).den ρ with
    | none => simp only [AVal.denL, hv] at hd; cases hd
    | some v => exact ⟨v, rfl⟩
  simp only [AVal.denL, hv, e2, e3, Option.some.injEq] at hd
  subst hd
  have hcl : c.toList = [vq, .map (some bp), .map (some bs)] := by
    obtain ⟨t, ht'⟩ := hp
    have hlen : c.toList.length = 3 := by
      have : c.size = 3 := ht
      simpa using this
    rw [← ht'] at hlen ⊢
    have : t = [] := by
      cases t with
      | nil => rfl
      | cons a t => simp at hlen
    rw [this, List.append_nil]
  have ne : ∀ {i j : Nat} {k k' : HB} {x y : Nat}, (ofP (hM l z)).get i = some k → (ofP (hM l z)).get j = some k' → k.rw = true → ρ.N i = some x → ρ.N j = some y → i ≠ j → x ≠ y := fun {i j k k' x y} h1 h2 hk hx hy hij e => hij (hr.inj i j k k' h1 h2 hk (by rw [hx, hy, e]))
  have n1 := ne g0 g2 rfl hb hbp (by decide)
  have n2 := ne g0 g3 rfl hb hbs (by decide)
  have n3 := ne g2 g3 rfl hbp hbs (by decide)
  have i0 := in_or hr hF g0 rfl hb
  have i2 := in_or hr hF g2 rfl hbp
  have i3 := in_or hr hF g3 rfl hbs
  have step : ∀ F' : Nat → Prop, (∀ y, F' y → F y ∨ w.heap.size ≤ y) → BigStep w w' F F' := fun F' hs =>
    ⟨hr.size, fun y hy hn => hr.frame y hy fun l hl e => hn (hF l hl y e), hr.tape, hr.os, hr.out, hs⟩
  have fin3 : ∀ a : Option Addr, vq = .slice a 0 0 → (∀ p, a = some p → p.spot = none) → Q = [] → ∃ F', BigStep w w' F F' ∧ ModelIn w' bb F' Q M S := fun a ha hsp hQ => by
    refine ⟨fun y => y = bb ∨ y = bp ∨ y = bs, step _ fun y hy => ?_, ⟨⟨c, fr, vq, bp, bs, em, cm, es, cs, hob, hcl, hf rfl, hop, hem, hbe, hos, hes, hbt, n1, n2, n3, .inl ⟨a, ha, hsp, hQ, fun _ => Iff.rfl⟩⟩⟩⟩
    rcases hy with rfl | rfl | rfl
    · exact i0
    · exact i2
    · exact i3
  cases z with
  | nil =>
    have hv : some (Value.slice none 0 0) = some vq := hv
    cases hv
    exact fin3 none rfl (fun _ e => by cases e) (hnil (by simp))
  | zero =>
    obtain ⟨b1, o1, n1', c1', rfl, _, _, hn, hcp⟩ := den_slice (show (AVal.slice l (.var 11) (.lit 0) (.lit 0)).den ρ = some vq from hv)
    obtain rfl : n1' = 0 := by have := Option.some.inj hn; exact (Int.ofNat.inj this).symm
    obtain rfl : c1' = 0 := by have := Option.some.inj hcp; exact (Int.ofNat.inj this).symm
    exact fin3 _ rfl (fun p e => by cases e; rfl) (hnil (by simp))
  | row =>
    obtain ⟨r5, r6, r1⟩ := hrow rfl
    have gl : (ofP (hM l .row)).get l = some qrB := by rcases hl with rfl | rfl <;> rfl
    obtain ⟨b1, o1, hb1, ho1, xs, c1, fr1, el1, m1', st, rfl, hel, hd, hst, ⟨hsz, hp1⟩, hn, hty, ⟨cap, hcap, hroom⟩, hf1⟩ := hr.blk l _ gl
    obtain rfl : st = 0 := by have := Option.some.inj hst; exact (Int.ofNat.inj this).symm
    rw [List.drop_zero] at hp1
    have hel := hel rfl
    subst hel
    have hx5 : xs = rowOf [.i64] (decL (ρ.I 5)) := (Option.some.inj hd).symm
    subst hx5
    obtain rfl : vq = .slice (some ⟨b1, 0, none⟩) Q.length cap := Option.some.inj (hv.symm.trans (den_slice_of hb1 rfl (congrArg some r6) hcap))
    have m1 := (ne gl g0 rfl hb1 hb (by rcases hl with rfl | rfl <;> decide))
    have m2 := (ne gl g2 rfl hb1 hbp (by rcases hl with rfl | rfl <;> decide))
    have m3 := (ne gl g3 rfl hb1 hbs (by rcases hl with rfl | rfl <;> decide))
    refine ⟨fun y => y = bb ∨ y = bp ∨ y = bs ∨ y = b1, step _ fun y hy => ?_, ⟨⟨c, fr, _, bp, bs, em, cm, es, cs, hob, hcl, hf rfl, hop, hem, hbe, hos, hes, hbt, n1, n2, n3, .inr ⟨b1, cap, _, List.length_pos_iff.1 r1, rfl, ho1, ⟨c1, fr1, rfl, ?_, ?_, hf1 rfl⟩, m1, m2, m3, fun _ => Iff.rfl⟩⟩⟩⟩
    · rcases hy with rfl | rfl | rfl | rfl
      · exact i0
      · exact i2
      · exact i3
      · exact in_or hr hF gl rfl hb1
    · rw [← rowOf1, ← r5]; exact hp1
    · have : c1.size - 0 = cap * 1 := hroom
      omega
end
end Lm
end Go.Proofs.Ytpgonpjakllnjaa
end

/-
  LinearModel (7): the floor of a key.
-/
section
namespace Go.Proofs.Ytpgonpjakllnjaa
open Go.Vm Go.Vm.Md
namespace Lm

def hF : List (Nat × ABlk) := [(0, .cells [.var 0, .map 2, .var 1] 65 none), (2, .mapc (.var 37))]
def hFH : List (Nat × HB) := hF.map fun p => (p.1, (⟨p.2, false⟩ : HB))
def csF : Cs := [(.cmp .geq (.var 1) (.lit (-1)), true), (.cmp .leq (.var 1) (.lit 255), true)]
def TF : Tpl := ⟨[(0, .ptr 0 (.lit 0)), (4, .ptr 1 (.lit 0)), (5, iV 1)], 29, hFH ++ [(1, ⟨.cells [.int .i64 (.lit 0), .int .i64 (.lit 0)] 27 none, true⟩)], 10, csF, 3⟩
noncomputable def bF : Code := ((loopsOf (Try.f51.body.getD .ret) []).getD 0 (.ret, [])).1
noncomputable def kF : List Item := ((loopsOf (Try.f51.body.getD .ret) []).getD 0 (.ret, [])).2
noncomputable def RunF (c : Cs) (l : LS) : Prop := (run Try.prog [] (spL []) 4000 true 51 ((⟨TF.tm, TF.nt, TF.H, TF.nl, c ++ TF.cs, TF.dep⟩ : Tpl).st (.code bF :: .inLoop bF :: kF))).map (·.filterMap (sumD gM [TF])) = some [l]
def fG (b : Bool) : Cs := [(.cmp .geq (.var 1) (.lit 0), b)]
def fH (b : Bool) : Cs := [(.cmp .geq (.var 1) (.lit 0), true), (.cmp .eql (.un 6 (.var 37) (.var 1)) (.lit 1), b)]
def csF0 : Cs := [(.cmp .geq (.var 31) (.lit 0), true), (.cmp .leq (.var 31) (.lit 255), true)]
theorem fl_in : (run Try.prog [] (spL []) 4000 true 51 (entry Try.f51 (Try.f51.body.getD .ret) [me, iV 31] (ofP hFH) 10 csF0)).map (·.filterMap (sumD gM [TF])) = some [.next 0 (.code (.loop bF) :: kF) [] ⟨[(1, .var 31)], [], [], [], [(0, 0), (1, 10), (2, 2)]⟩] := by kernel_rfl
theorem fl_has : RunF (fH true) (.ret (.agg [.int .i64 (.lit 0), .int .i64 (.bin .add .i64 (.bin .mul .i64 (.var 1) (.lit 1024)) (.un 5 (.var 37) (.var 1)))]) []) := by unfold RunF; kernel_rfl
theorem fl_not : RunF (fH false) (.next 0 (.inLoop bF :: kF) [] ⟨[(1, .bin .sub .i64 (.var 1) (.lit 1))], [], [], [], [(0, 0), (1, 1), (2, 2)]⟩) := by unfold RunF; kernel_rfl
theorem fl_end : RunF (fG false) (.ret (.agg [.int .i64 (.lit 1), .int .i64 (.lit 0)]) []) := by unfold RunF; kernel_rfl
theorem noSp0 (β : Base) : CallOk Try.prog β (spL []) := spL_ok fun _ hp => by cases hp
structure JF (M : List Int) (r : Int × Int) (n : Nat) (ρ : Env) : Prop where
  i37 : ρ.I 37 = encL M
  i1 : ρ.I 1 = (n : Int) - 1
  le : n ≤ 256
  r : flM M n = r
theorem JF.of_le {M r n} {ρ ρ' : Env} (h : JF M r n ρ) (g : ρ.Le ρ') : JF M r n ρ' := ⟨by rw [g.i]; exact h.i37, by rw [g.i]; exact h.i1, h.le, h.r⟩
def ansV (r : Int × Int) : Value := .agg #[.int .i64 r.1, .int .i64 r.2]
theorem JF.cs {M r n} {ρ : Env} (h : JF M r n ρ) : CRel ρ csF := by
  have := h.le
  exact c1 (geqT (varD h.i1) (litD _) (by omega)) (c1 (leqT (varD h.i1) (litD _) (by omega)) c0)
theorem un6_den {ρ : Env} {t u : IT} {L : List Int} {k : Int} (h : t.den ρ = some (encL L)) (g : u.den ρ = some k) : (IT.un 6 t u).den ρ = some (if (mGet L k).isSome then 1 else 0) := by
  rw [unD h g]
  show some (if (mGet (decL (encL L)) k).isSome then 1 else 0) = _
  rw [decL_encL]
theorem un5_den {ρ : Env} {t u : IT} {L : List Int} {k : Int} (h : t.den ρ = some (encL L)) (g : u.den ρ = some k) : (IT.un 5 t u).den ρ = some ((mGet L k).getD 0) := by
  rw [unD h g]
  show some ((mGet (decL (encL L)) k).getD 0) = _
  rw [decL_encL]
theorem has_den {ρ : Env} {t u : IT} {L : List Int} {k : Int} (h : t.den ρ = some (encL L)) (g : u.den ρ = some k) {b : Bool} (hb : (mGet L k).isSome = b) : (BT.cmp .eql (.un 6 t u) (.lit 1)).den ρ = some b := by
  have e := un6_den h g
  rw [hb] at e
  cases b
  · rw [eqlF e (litD 1) (by decide)]
  · rw [eqlT e (litD 1) rfl]
set_option maxHeartbeats 1000000 in
theorem floor51 {w : World} {b bp : Nat} {c : Array Value} {fr : Nat × Nat} {v0 v1 : Value} {em : Array MapEntry} {cm : Nat} {M : List Int} {k : Int} (hb : w.heap[b]? = some (.cells c 65 fr)) (hc : c.toList = [v0, .map (some bp), v1]) (hp : w.heap[bp]? = some (.map em cm)) (he : em.toList.map (fun e => (e.key, e.val)) = entOf M ∧ Born em cm) (k0 : 0 ≤ k) (k1 : k ≤ 255) :
    Calls Try.prog 51 #[.pointer (some ⟨b, 0, none⟩), .int .i64 k] w fun e w' => ∃ v, e = .returned v ∧ v = ansV (flM M (k.toNat + 1)) ∧ Framed w w' := by
  obtain ⟨ρ, hρ⟩ : ∃ ρ : Env, ρ = ⟨fun i => if i = 37 then encL M else if i = 31 then k else 0, fun _ => false, fun _ => default, fun i => if i = 0 then v0 else v1, fun i => if i = 0 then some b else if i = 2 then some bp else none, F0⟩ := ⟨_, rfl⟩
  have hN0 : ρ.N 0 = some b := by rw [hρ]; rfl
  have h37 : ρ.I 37 = encL M := by rw [hρ]; rfl
  have h31 : ρ.I 31 = k := by rw [hρ]; rfl
  have hsize : c.size = 3 := by
    have : c.toList.length = 3 := by rw [hc]; rfl
    simpa using this
  have hr : HRel (.plain w) ρ (ofP hFH) 10 w := by
    refine HRel.ro hF (fun p hp' => ?_) (fun i hi => ?_) trivial
    · simp only [hF, List.mem_cons, List.not_mem_nil, or_false] at hp'
      rcases hp' with rfl | rfl
      · exact ⟨b, _, hN0, hb, ⟨[v0, .map (some bp), v1], c, fr, rfl, by rw [hρ]; rfl, by rw [hc]; exact List.prefix_refl _, hsize, fun e => by cases e⟩⟩
      · exact ⟨bp, _, by rw [hρ]; rfl, hp, ⟨encL M, em, cm, rfl, congrArg some h37, by rw [decL_encL]; exact he.1, he.2⟩⟩
    · rw [hρ]
      show (if i = 0 then some b else if i = 2 then some bp else none) = none
      rw [if_neg (by omega), if_neg (by omega)]
  have hx : AVal.denL ρ [me, iV 31] = some [.pointer (some ⟨b, 0, none⟩), .int .i64 k] := denL2 (by simp only [me, AVal.den, hN0]; rfl) (by simp only [iV, AVal.den, IT.den, h31, Option.map_some])
  have loop := loop_goesD (P := Try.prog) (β := .plain w) (f := 51) (Q := fun v => v = ansV (flM M (k.toNat + 1))) (Ts := [TF]) (T := TF) (b := bF) (k := kF) (n := 4000) (g := gM) (pl := true) noCount noExt (noSp0 _) follows rfl (fun ρ => ∃ n, JF M (flM M (k.toNat + 1)) n ρ) (fun ρ => (ρ.I 1 + 1).toNat) fun ρ ⟨n, j⟩ _ _ _ ih => by
    have hle := j.le
    cases n with
    | zero =>
      have hr := j.r
      refine ⟨fG false ++ csF, _, CRel_app.2 ⟨c1 (geqF (varD j.i1) (litD 0) (by omega)) c0, j.cs⟩, fl_end, one (retS (z := ansV (flM M (k.toNat + 1))) (fun ρ' hle => ?_) rfl)⟩
      rw [← hr]; rfl
    | succ n =>
      have e1 : (IT.var 1).den ρ = some (n : Int) := varD (by rw [j.i1]; omega)
      have ge : (BT.cmp .geq (.var 1) (.lit 0)).den ρ = some true := geqT e1 (litD 0) (by omega)
      cases hm : mGet M (n : Int) with
      | some v =>
        have hr : (0, IntKind.i64.wrap (IntKind.i64.wrap ((n : Int) * 1024) + v)) = flM M (k.toNat + 1) := by rw [← j.r, flM, hm]
        refine ⟨fH true ++ csF, _, CRel_app.2 ⟨c1 ge (c1 (has_den (varD j.i37) e1 (by rw [hm]; rfl)) c0), j.cs⟩, fl_has, one (retS (z := ansV (flM M (k.toNat + 1))) (fun ρ' hle => ?_) rfl)⟩
        have j' := j.of_le hle
        have e1' : (IT.var 1).den ρ' = some (n : Int) := varD (by rw [j'.i1]; omega)
        have e5 := un5_den (varD j'.i37) e1'
        rw [hm] at e5
        rw [← hr]
        have e6 : (IT.bin .mul .i64 (.var 1) (.lit 1024)).den ρ' = some (IntKind.i64.wrap ((n : Int) * 1024)) := by rw [binD e1' (litD 1024)]; rfl
        have e7 : (IT.bin .add .i64 (.bin .mul .i64 (.var 1) (.lit 1024)) (.un 5 (.var 37) (.var 1))).den ρ' = some (IntKind.i64.wrap (IntKind.i64.wrap ((n : Int) * 1024) + v)) := by rw [binD e6 e5]; rfl
        simp only [AVal.den, AVal.denL, e7, litD, Option.map_some, ansV]
      | none =>
        refine ⟨fH false ++ csF, _, CRel_app.2 ⟨c1 ge (c1 (has_den (varD j.i37) e1 (by rw [hm]; rfl)) c0), j.cs⟩, fl_not, one (nextS rfl fun ρ' hle hG => ?_)⟩
        have j' := j.of_le hle
        have e1' : (IT.var 1).den ρ' = some (n : Int) := varD (by rw [j'.i1]; omega)
        have d1 : (Sub.app ⟨[(1, .bin .sub .i64 (.var 1) (.lit 1))], [], [], [], [(0, 0), (1, 1), (2, 2)]⟩ ρ').I 1 = (n : Int) - 1 := sbI rfl (minusD e1' (litD 1) (by omega) (by omega))
        have jn : JF M (flM M (k.toNat + 1)) n (Sub.app ⟨[(1, .bin .sub .i64 (.var 1) (.lit 1))], [], [], [], [(0, 0), (1, 1), (2, 2)]⟩ ρ') := ⟨j'.i37, d1, by omega, by rw [← j.r, flM, hm]⟩
        exact ⟨hG, jn.cs, fun a w' r => ih _ (by rw [d1, j.i1]; omega) ⟨n, jn⟩ _ a w' (.inl rfl) r⟩
  refine calls_sumsD (β := .plain w) (Q := fun v => v = ansV (flM M (k.toNat + 1))) (g := gM) (Ts := [TF]) (pl := true) noCount noExt (noSp0 _) follows rfl Try.func51 rfl fl_in hx hr (c1 (geqT (varD h31) (litD 0) k0) (c1 (leqT (varD h31) (litD 255) k1) c0))
    (one (nextS rfl fun ρ' hle hG => ?_))
  have d1 : (Sub.app ⟨[(1, .var 31)], [], [], [], [(0, 0), (1, 10), (2, 2)]⟩ ρ').I 1 = k := sbI rfl (varD (by rw [hle.i]; exact h31))
  have j : JF M (flM M (k.toNat + 1)) (k.toNat + 1) (Sub.app ⟨[(1, .var 31)], [], [], [], [(0, 0), (1, 10), (2, 2)]⟩ ρ') := ⟨by show ρ'.I 37 = _; rw [hle.i]; exact h37, by rw [d1]; omega, by omega, rfl⟩
  exact ⟨hG, j.cs, fun a w' r => loop _ ⟨_, j⟩ _ a w' (.inr rfl) r⟩
-- AS THE MACHINE TAKES IT
def spFloor : SpG := fun args H nl cs => match args with
  | [.ptr l (.lit (.ofNat 0)), .int .i64 k] => match H.get l with
    | some ⟨.cells [_, .map j, _] 65 none, _⟩ => match H.get j with
      | some ⟨.mapc c, _⟩ => match lookB cs (.cmp .geq k (.lit 0)), lookB cs (.cmp .leq k (.lit 255)) with
        | some true, some true => some [.ret (.agg [.int .i64 (.fn 95 c k), .int .i64 (.fn 96 c k)]) H nl cs]
        | _, _ => none
      | _ => none
    | _ => none
  | _ => none
theorem spFloor_ok {β : Base} (hG : ∀ I B S V F, β.G I B S V F → GL I B S V F) : SpGOk Try.prog β 51 spFloor := by
  intro args H nl cs ls ρ w xs hr hx hh hc
  unfold spFloor at hr
  split at hr
  rotate_left
  · cases hr
  rename_i l k
  split at hr
  rotate_left
  · cases hr
  rename_i u0 j u1 rw hg
  split at hr
  rotate_left
  · cases hr
  rename_i c rw2 hg2
  split at hr
  rotate_left
  · cases hr
  rename_i l1 l2
  cases hr
  have g1 := lookB_ok l1 hc
  have g2 := lookB_ok l2 hc
  obtain ⟨b, o, hb, hob, xs', c', fr, rfl, hd, hp, ht, _⟩ := hh.blk l _ hg
  obtain ⟨bp, o2, hbp, hop, x, em, cm, rfl, hcx, he⟩ := hh.blk j _ hg2
  have e2 : (AVal.map j).den ρ = some (.map (some bp)) := by simp only [AVal.den, hbp, Option.map_some]
  cases hk : k.den ρ with
  | none => simp only [BT.den, hk] at g1; cases g1
  | some z =>
    rw [cmpD hk (litD 0)] at g1
    rw [cmpD hk (litD 255)] at g2
    simp only [intCmp, Option.some.injEq, decide_eq_true_eq] at g1 g2
    have hx' : AVal.denL ρ [.ptr l (.lit 0), .int .i64 k] = some [.pointer (some ⟨b, 0, none⟩), .int .i64 z] := denL2 (by simp only [AVal.den, hb]; rfl) (by simp only [AVal.den, hk, Option.map_some])
    obtain rfl : [.pointer (some ⟨b, 0, none⟩), .int .i64 z] = xs := Option.some.inj (hx'.symm.trans hx)
    cases h0 : u0.den ρ with
    | none => simp only [AVal.denL, h0] at hd; cases hd
    | some v0 =>
      cases h1 : u1.den ρ with
      | none => simp only [AVal.denL, h0, h1, e2] at hd; cases hd
      | some v1 =>
        simp only [AVal.denL, h0, h1, e2, Option.some.injEq] at hd
        subst hd
        have hcl : c'.toList = [v0, .map (some bp), v1] := by
          obtain ⟨t, ht'⟩ := hp
          have hlen : c'.toList.length = 3 := by
            have : c'.size = 3 := ht
            simpa using this
          rw [← ht'] at hlen ⊢
          have : t = [] := by
            cases t with
            | nil => rfl
            | cons a t => simp at hlen
          rw [this, List.append_nil]
        obtain ⟨q1, q2⟩ := hG _ _ _ _ _ hh.g
        have d1 : (IT.fn 95 c k).den ρ = some (flM (decL x) (z.toNat + 1)).1 := by rw [fnD hcx hk, q1]
        have d2 : (IT.fn 96 c k).den ρ = some (flM (decL x) (z.toNat + 1)).2 := by rw [fnD hcx hk, q2]
        exact spV_ok ((floor51 (M := decL x) hob hcl hop he g1 g2).mono fun e w' ⟨v, h, hv, hf⟩ => ⟨by rw [h, hv], hf⟩) (by simp only [AVal.den, AVal.denL, d1, d2, Option.map_some, ansV]) hh hc
end Lm
end Go.Proofs.Ytpgonpjakllnjaa
end

/-
  LinearModel (8): what Apply answers, and makes of a model.
-/
section
namespace Go.Proofs.Ytpgonpjakllnjaa
open Go.Vm Go.Vm.Md
namespace Lm

def E0 : Env := envOf [] [] F0
/-- Is an operation right? -/
def rgt (c k a b : Int) : Bool := ((tRight (.lit c) (.lit k) (.lit a) (.lit b)).den E0).getD false
theorem rgt_den {ρ : Env} {tc tk ta tb : IT} {c k a b : Int} (h1 : tc.den ρ = some c) (h2 : tk.den ρ = some k) (h3 : ta.den ρ = some a) (h4 : tb.den ρ = some b) : (tRight tc tk ta tb).den ρ = some (rgt c k a b) := by
  obtain ⟨x, hx⟩ := tRight_some c k a b
  rw [tRight_lit (ρ0 := E0) h1 h2 h3 h4, rgt, hx]; rfl
theorem rgt_in {c k a b : Int} (h : rgt c k a b = true) : 0 ≤ c ∧ c ≤ 14 ∧ 0 ≤ k ∧ k ≤ 255 ∧ 0 ≤ a ∧ a ≤ 1023 ∧ 0 ≤ b ∧ b ≤ 1023 := by
  have e : ∃ X, (tRight (.lit c) (.lit k) (.lit a) (.lit b)).den E0 = some ((decide (c ≥ 0) && decide (c ≤ 14)) && ((decide (k ≥ 0) && decide (k ≤ 255)) && ((decide (a ≥ 0) && decide (a ≤ 1023)) && ((decide (b ≥ 0) && decide (b ≤ 1023)) && X)))) := ⟨_, andD rfl (andD rfl (andD rfl (andD rfl rfl)))⟩
  obtain ⟨X, e⟩ := e
  simp only [rgt, e, Option.getD_some, Bool.and_eq_true, decide_eq_true_eq] at h
  omega
def applyO (m : Mod) (c k a b : Int) : (Int × Int) × Mod := if rgt c k a b = true then apply m c.toNat k a b else ((1, 0), m)
def RM (w : World) (bb : Nat) (F : Nat → Prop) (r : (Int × Int) × Mod) : Value → World → Prop := fun x w' => x = ansV r.1 ∧ ∃ F', BigStep w w' F F' ∧ ModelIn w' bb F' r.2.Q r.2.M r.2.S
section
variable {w : World} {bb : Nat} {F : Nat → Prop} {z0 : Bq} {m : Mod} {c k a b : Int} {ρ : Env}
theorem endA {q : Nat} {z : Bq} {l : Nat} {σ : Sub} {r : (Int × Int) × Mod} (hb : ρ.N 0 = some bb) (ho : ∀ l ∈ oM z0, ∃ y, ρ.N l = some y ∧ F y) (s : SM m z0 c k a b ρ) (hT : (eM ans)[q]? = some ⟨[(0, ans)], 1, hM l z, 10, [], 0⟩) (hl : l = 1 ∨ l = 9) (hown : ∀ l ∈ oM z0, lk σ.N l = some l) (nn : ∀ ρ' : Env, ∀ l ∈ oM z0, (σ.app ρ').N l = ρ'.N l)
    (h : ∀ ρ', SM m z0 c k a b ρ' → GL.at ρ' → (σ.app ρ').I 20 = r.1.1 ∧ (σ.app ρ').I 21 = r.1.2 ∧ decL ((σ.app ρ').I 7) = r.2.M ∧ decL ((σ.app ρ').I 8) = r.2.S ∧ (z = .row → decL ((σ.app ρ').I 5) = r.2.Q ∧ (σ.app ρ').I 6 = (r.2.Q.length : Int) ∧ 1 ≤ r.2.Q.length) ∧ (z ≠ .row → r.2.Q = [])) :
    MGoodO Try.prog ⟨w, oM z0, GL⟩ 11 (RM w bb F r) (eM ans) [] ρ (.done q [] σ) := by
  refine doneR hT hown fun ρ' hle hG => ⟨hG, c0, fun x w' rr => ?_⟩
  obtain ⟨h20, h21, h7, h8, hrow, hnil⟩ := h ρ' (s.of_le hle) hG
  obtain ⟨y, hy, he⟩ := rr.t 0 ans rfl
  obtain rfl : x = y := Option.some.inj he
  have ea : ans.den (σ.app ρ') = some (ansV r.1) := by simp only [ans, iV, AVal.den, AVal.denL, IT.den, h20, h21, Option.map_some, ansV]
  refine ⟨Option.some.inj (hy.symm.trans ea), mEnd z hl rr.h (fun l hl y hy => ?_) ?_ h7 h8 hrow hnil⟩
  · obtain ⟨y0, hy0, hF⟩ := ho l hl
    rw [nn ρ' l hl, hle.n _ _ hy0] at hy
    cases hy; exact hF
  · rw [nn ρ' 0 (by cases z0 <;> simp [oM])]; exact hle.n _ _ hb
theorem csQ_ok (s : SM m z0 c k a b ρ) : CRel ρ (csQ z0) := by
  cases z0 with
  | nil => exact c0
  | zero => exact c0
  | row =>
    obtain ⟨_, h6, h1⟩ := s.r rfl
    have := s.le
    exact c1 (geqT (varD h6) (litD 1) (by omega)) (c1 (leqT (varD h6) (litD 1000) (by omega)) (c1 (leqT (varD h6) (litD 1000000) (by omega)) c0))
theorem noTs {w : World} : CallOk Try.prog ⟨w, oM z0, GL⟩ spM := spL_ok fun p hp => by
  simp only [List.mem_cons, List.not_mem_nil, or_false] at hp
  rcases hp with rfl | rfl
  · exact spA_ok right27
  · exact spLeft_ok
variable {n : Nat}
/-- One way of Apply. -/
theorem go1 {f : Cs} {l : LM} {r : (Int × Int) × Mod} (hrun : RunM z0 n f l) (hr : HRel ⟨w, oM z0, GL⟩ ρ (ofP (hM 1 z0)) 10 w) (s : SM m z0 (n : Int) k a b ρ) (hb : ρ.N 0 = some bb) (hR : rgt (n : Int) k a b = true) (hf : CRel ρ f) (hl : MGoodO Try.prog ⟨w, oM z0, GL⟩ 11 (RM w bb F r) (eM ans) [] ρ l) :
    Calls Try.prog 11 #[.pointer (some ⟨bb, 0, none⟩), .agg #[.int .i64 (n : Int), .int .i64 k, .int .i64 a, .int .i64 b]] w (fun e w' => ∃ v, e = .returned v ∧ RM w bb F r v w') := by
  have hx : AVal.denL ρ [me, opM n] = some [.pointer (some ⟨bb, 0, none⟩), .agg #[.int .i64 (n : Int), .int .i64 k, .int .i64 a, .int .i64 b]] := denL2 (by simp only [me, AVal.den, hb]; rfl) (by
    simp only [opM, iV, AVal.den, AVal.denL, IT.den, s.i31, s.i32, s.i33, Option.map_some]; rfl)
  have hfR : CRel ρ (fR n true) := c1 (by rw [rgt_den (litD (ρ := ρ) (Int.ofNat n)) (varD s.i31) (varD s.i32) (varD s.i33)]; exact congrArg some hR) c0
  exact calls_sumsE (β := ⟨w, oM z0, GL⟩) (R := RM w bb F r) (g := gM) (L := oM z0) (Rs := eM ans) (Ts := []) (pl := true) noCount noExt noTs follows Try.func11 rfl hrun hx hr (CRel_app.2 ⟨CRel_app.2 ⟨hfR, hf⟩, csQ_ok s⟩) (one hl)
theorem tplA (z : Bq) : (eM ans)[qz z]? = some ⟨[(0, ans)], 1, hM 1 z, 10, [], 0⟩ := by cases z <;> rfl
theorem ownA (z : Bq) (tk tv tm ts : IT) : ∀ l ∈ oM z, lk (sgM z tk tv tm ts).N l = some l := fun l hl => by
  cases z <;> simp only [oM, List.mem_cons, List.not_mem_nil, or_false] at hl
  · rcases hl with rfl | rfl | rfl <;> rfl
  · rcases hl with rfl | rfl | rfl <;> rfl
  · rcases hl with rfl | rfl | rfl | rfl <;> rfl
theorem nnA (z : Bq) (tk tv tm ts : IT) : ∀ ρ' : Env, ∀ l ∈ oM z, ((sgM z tk tv tm ts).app ρ').N l = ρ'.N l := fun ρ' l hl => by
  cases z <;> simp only [oM, List.mem_cons, List.not_mem_nil, or_false] at hl
  · rcases hl with rfl | rfl | rfl <;> rfl
  · rcases hl with rfl | rfl | rfl <;> rfl
  · rcases hl with rfl | rfl | rfl | rfl <;> rfl
/-- An end at which the queue is as it was. -/
theorem endD {tk tv tm ts : IT} {x y : Int} {M' S' : List Int} (hb : ρ.N 0 = some bb) (ho : ∀ l ∈ oM z0, ∃ y, ρ.N l = some y ∧ F y) (s : SM m z0 c k a b ρ) (h : ∀ ρ', SM m z0 c k a b ρ' → GL.at ρ' → tk.den ρ' = some x ∧ tv.den ρ' = some y ∧ tm.den ρ' = some (encL M') ∧ ts.den ρ' = some (encL S')) :
    MGoodO Try.prog ⟨w, oM z0, GL⟩ 11 (RM w bb F ((x, y), ⟨m.Q, M', S'⟩)) (eM ans) [] ρ (.done (qz z0) [] (sgM z0 tk tv tm ts)) := by
  refine endA hb ho s (tplA z0) (.inl rfl) (ownA z0 tk tv tm ts) (nnA z0 tk tv tm ts) fun ρ' s' hG => ?_
  obtain ⟨h1, h2, h3, h4⟩ := h ρ' s' hG
  refine ⟨sbI (t := tk) (by cases z0 <;> rfl) h1, sbI (t := tv) (by cases z0 <;> rfl) h2, ?_, ?_, fun e => ?_, s'.n⟩
  · rw [sbI (t := tm) (by cases z0 <;> rfl) h3, decL_encL]
  · rw [sbI (t := ts) (by cases z0 <;> rfl) h4, decL_encL]
  · subst e
    obtain ⟨h5, h6, h1⟩ := s'.r rfl
    refine ⟨?_, ?_, h1⟩
    · rw [sbI (t := .var 5) rfl (varD h5), decL_encL]
    · exact sbI (t := .var 6) rfl (varD h6)
theorem goD {f : Cs} {tk tv tm ts : IT} {x y : Int} {M' S' : List Int} (hrun : D z0 n f tk tv tm ts) (hr : HRel ⟨w, oM z0, GL⟩ ρ (ofP (hM 1 z0)) 10 w) (s : SM m z0 (n : Int) k a b ρ) (hb : ρ.N 0 = some bb) (ho : ∀ l ∈ oM z0, ∃ y, ρ.N l = some y ∧ F y) (hR : rgt (n : Int) k a b = true) (hf : CRel ρ f)
    (h : ∀ ρ', SM m z0 (n : Int) k a b ρ' → tk.den ρ' = some x ∧ tv.den ρ' = some y ∧ tm.den ρ' = some (encL M') ∧ ts.den ρ' = some (encL S')) {r : (Int × Int) × Mod} (he : r = ((x, y), ⟨m.Q, M', S'⟩)) :
    Calls Try.prog 11 #[.pointer (some ⟨bb, 0, none⟩), .agg #[.int .i64 (n : Int), .int .i64 k, .int .i64 a, .int .i64 b]] w (fun e w' => ∃ v, e = .returned v ∧ RM w bb F r v w') := by
  subst he
  exact go1 hrun hr s hb hR hf (endD hb ho s fun ρ' s' _ => h ρ' s')
-- WHAT TERMS SAY
section
variable (s : SM m z0 c k a b ρ)
include s
theorem k7 : m7.den ρ = some (encL m.M) := varD s.i7
theorem k8 : s8.den ρ = some (encL m.S) := varD s.i8
theorem f7 {h : Bool} (e : (mGet m.M k).isSome = h) : CRel ρ (fHas m7 h) := c1 (has_den (k7 s) (varD s.i31) e) c0
theorem f8 {h : Bool} (e : (mGet m.S k).isSome = h) : CRel ρ (fHas s8 h) := c1 (has_den (k8 s) (varD s.i31) e) c0
theorem v7 : (vOf m7).den ρ = some ((mGet m.M k).getD 0) := un5_den (k7 s) (varD s.i31)
theorem v8 : (vOf s8).den ρ = some ((mGet m.S k).getD 0) := un5_den (k8 s) (varD s.i31)
omit s in
theorem put_den {t u v : IT} {L : List Int} {x y : Int} (h : t.den ρ = some (encL L)) (hu : u.den ρ = some x) (hv : v.den ρ = some y) : (IT.un 7 t (.un 1 u v)).den ρ = some (encL (mPut L x y)) := by
  rw [unD h (unD hu hv)]
  show some (encL (mPut (decL (encL L)) ((decL (encL [x, y])).getD 0 0) ((decL (encL [x, y])).getD 1 0))) = _
  rw [decL_encL, decL_encL]; rfl
omit s in
theorem del_den {t u : IT} {L : List Int} {x : Int} (h : t.den ρ = some (encL L)) (hu : u.den ρ = some x) : (IT.un 8 t u).den ρ = some (encL (mDel L x)) := by
  rw [unD h hu]
  show some (encL (mDel (decL (encL L)) x)) = _
  rw [decL_encL]
theorem p7 {t : IT} {x : Int} (h : t.den ρ = some x) : (putM m7 t).den ρ = some (encL (mPut m.M k x)) := put_den (k7 s) (varD s.i31) h
theorem p8 {t : IT} {x : Int} (h : t.den ρ = some x) : (putM s8 t).den ρ = some (encL (mPut m.S k x)) := put_den (k8 s) (varD s.i31) h
theorem b8 (d : Int) : (by1 d).den ρ = some (IntKind.i64.wrap ((mGet m.S k).getD 0 + d)) := by
  unfold by1
  rw [binD (v8 s) (litD d)]; rfl
end
theorem kO (h : Bool) : (kOf h).den ρ = some (cond h 0 1) := by cases h <;> rfl
theorem had1 (o : Option Int) : (had o).1 = cond o.isSome 0 1 := by cases o <;> rfl
theorem had2 (o : Option Int) : (had o).2 = cond o.isSome (o.getD 0) 0 := by cases o <;> rfl
theorem hO {t : IT} {o : Option Int} (h : (vOf t).den ρ = some (o.getD 0)) {h0 : Bool} (e : o.isSome = h0) : (hOf t h0).den ρ = some (had o).2 := by
  rw [had2, e]
  cases h0
  · rfl
  · exact h
end
end Lm
end Go.Proofs.Ytpgonpjakllnjaa
end

/-
  LinearModel (9): Apply, of every operation.
-/
section
namespace Go.Proofs.Ytpgonpjakllnjaa
open Go.Vm Go.Vm.Md
namespace Lm

def spM9 : CallF := spL [(27, spA spRight), (22, spLeft), (51, spFloor)]
theorem a9 (z : Bq) : (run Try.prog [] spM9 4000 true 11 (entry Try.f11 (Try.f11.body.getD .ret) [me, opM 9] (ofP (hM 1 z)) 10 (fR 9 true ++ [(.cmp .geq (.var 31) (.lit 0), true), (.cmp .leq (.var 31) (.lit 255), true)] ++ csQ z))).map (·.filterMap (sumMD gM (oM z) (eM ans) [])) = some [.done (qz z) [] (sgM z (.fn 95 (.var 7) (.var 31)) (.fn 96 (.var 7) (.var 31)) m7 s8)] := by cases z <;> kernel_rfl
abbrev ApplyR (w : World) (bb : Nat) (F : Nat → Prop) (_m : Mod) (c k a b : Int) (r : (Int × Int) × Mod) : Prop := Calls Try.prog 11 #[.pointer (some ⟨bb, 0, none⟩), .agg #[.int .i64 c, .int .i64 k, .int .i64 a, .int .i64 b]] w (fun e w' => ∃ v, e = .returned v ∧ RM w bb F r v w')
section
variable {w : World} {bb : Nat} {F : Nat → Prop} {z0 : Bq} {m : Mod} {k a b : Int} {ρ : Env}
variable {n : Nat}
section
variable (hr : HRel ⟨w, oM z0, GL⟩ ρ (ofP (hM 1 z0)) 10 w) (hb : ρ.N 0 = some bb) (ho : ∀ l ∈ oM z0, ∃ y, ρ.N l = some y ∧ F y)
include hr hb ho
theorem w0 (s : SM m z0 0 k a b ρ) (hR : rgt 0 k a b = true) : ApplyR w bb F m 0 k a b (apply m 0 k a b) :=
  goD (n := 0) (a0 z0) hr s hb ho hR c0 (fun _ s' => ⟨rfl, rfl, k7 s', k8 s'⟩) rfl
theorem w3 (s : SM m z0 3 k a b ρ) (hR : rgt 3 k a b = true) : ApplyR w bb F m 3 k a b (apply m 3 k a b) :=
  goD (n := 3) (a3 z0) hr s hb ho hR c0 (fun ρ' s' => ⟨rfl, by
    cases z0 with
    | nil => rw [s'.n (by simp)]; rfl
    | zero => rw [s'.n (by simp)]; rfl
    | row => exact varD (s'.r rfl).2.1, k7 s', k8 s'⟩) rfl
theorem w4 (s : SM m z0 4 k a b ρ) (hR : rgt 4 k a b = true) : ApplyR w bb F m 4 k a b (apply m 4 k a b) :=
  goD (n := 4) (x := (had (mGet m.M k)).1) (y := (had (mGet m.M k)).2) (a4 z0 (mGet m.M k).isSome) hr s hb ho hR (f7 s rfl) (fun ρ' s' => ⟨by rw [kO, had1], hO (v7 s') rfl, k7 s', k8 s'⟩) rfl
theorem w5 (s : SM m z0 5 k a b ρ) (hR : rgt 5 k a b = true) : ApplyR w bb F m 5 k a b (apply m 5 k a b) :=
  goD (n := 5) (x := (had (mGet m.M k)).1) (y := (had (mGet m.M k)).2) (a5 z0 (mGet m.M k).isSome) hr s hb ho hR (f7 s rfl) (fun ρ' s' => ⟨by rw [kO, had1], hO (v7 s') rfl, p7 s' (varD s'.i32), k8 s'⟩) rfl
theorem w6 (s : SM m z0 6 k a b ρ) (hR : rgt 6 k a b = true) : ApplyR w bb F m 6 k a b (apply m 6 k a b) :=
  goD (n := 6) (x := (had (mGet m.M k)).1) (y := (had (mGet m.M k)).2) (a6 z0 (mGet m.M k).isSome) hr s hb ho hR (f7 s rfl) (fun ρ' s' => ⟨by rw [kO, had1], hO (v7 s') rfl, del_den (k7 s') (varD s'.i31), k8 s'⟩) rfl
theorem w7 (s : SM m z0 7 k a b ρ) (hR : rgt 7 k a b = true) : ApplyR w bb F m 7 k a b (apply m 7 k a b) := by
  cases hm : mGet m.M k with
  | none =>
    refine goD (n := 7) (a7n z0) hr s hb ho hR (f7 s (by rw [hm]; rfl)) (fun ρ' s' => ⟨rfl, rfl, k7 s', k8 s'⟩) ?_
    simp only [apply, hm]
  | some v =>
    have e : ∀ {ρ}, SM m z0 7 k a b ρ → (vOf m7).den ρ = some v := fun s => by rw [v7 s, hm]; rfl
    have f0 := f7 s (h := true) (by rw [hm]; rfl)
    by_cases hv : v = a
    · refine goD (n := 7) (a7y z0) hr s hb ho hR (CRel_app.2 ⟨f0, c1 (neqF (e s) (varD s.i32) hv) c0⟩) (fun ρ' s' => ⟨rfl, e s', p7 s' (varD s'.i33), k8 s'⟩) ?_
      simp only [apply, hm, if_pos hv]
    · refine goD (n := 7) (a7u z0) hr s hb ho hR (CRel_app.2 ⟨f0, c1 (neqT (e s) (varD s.i32) hv) c0⟩) (fun ρ' s' => ⟨rfl, e s', k7 s', k8 s'⟩) ?_
      simp only [apply, hm, if_neg hv]
theorem w8 (s : SM m z0 8 k a b ρ) (hR : rgt 8 k a b = true) : ApplyR w bb F m 8 k a b (apply m 8 k a b) :=
  goD (n := 8) (a8 z0) hr s hb ho hR c0 (fun ρ' s' => ⟨rfl, by
    rw [unD (k7 s') (litD 0)]
    show some (((decL (encL m.M)).length / 2 : Nat) : Int) = _
    rw [decL_encL], k7 s', k8 s'⟩) rfl
theorem w9 (s : SM m z0 9 k a b ρ) (hR : rgt 9 k a b = true) : ApplyR w bb F m 9 k a b (apply m 9 k a b) := by
  have hk := rgt_in hR
  have hx : AVal.denL ρ [me, opM 9] = some [.pointer (some ⟨bb, 0, none⟩), .agg #[.int .i64 9, .int .i64 k, .int .i64 a, .int .i64 b]] := denL2 (by simp only [me, AVal.den, hb]; rfl) (by
    simp only [opM, iV, AVal.den, AVal.denL, IT.den, s.i31, s.i32, s.i33, Option.map_some]; rfl)
  have hfR : CRel ρ (fR 9 true) := c1 (by rw [rgt_den (litD (ρ := ρ) (Int.ofNat 9)) (varD s.i31) (varD s.i32) (varD s.i33)]; exact congrArg some hR) c0
  have hsp : CallOk Try.prog ⟨w, oM z0, GL⟩ spM9 := spL_ok fun p hp => by
    simp only [List.mem_cons, List.not_mem_nil, or_false] at hp
    rcases hp with rfl | rfl | rfl
    · exact spA_ok right27
    · exact spLeft_ok
    · exact spFloor_ok fun _ _ _ _ _ h => h
  refine calls_sumsE (β := ⟨w, oM z0, GL⟩) (R := RM w bb F (apply m 9 k a b)) (g := gM) (L := oM z0) (Rs := eM ans) (Ts := []) (pl := true) noCount noExt hsp follows Try.func11 rfl (a9 z0) hx hr (CRel_app.2 ⟨CRel_app.2 ⟨hfR, c1 (geqT (varD s.i31) (litD 0) hk.2.2.1) (c1 (leqT (varD s.i31) (litD 255) hk.2.2.2.1) c0)⟩, csQ_ok s⟩) (one (endD (x := (flM m.M (k.toNat + 1)).1) (y := (flM m.M (k.toNat + 1)).2) (M' := m.M) (S' := m.S) hb ho s fun ρ' s' hG => ?_))
  obtain ⟨g1, g2⟩ := hG
  exact ⟨by rw [fnD (varD s'.i7) (varD s'.i31), g1]; simp only [decL_encL], by rw [fnD (varD s'.i7) (varD s'.i31), g2]; simp only [decL_encL], k7 s', k8 s'⟩
theorem w10 (s : SM m z0 10 k a b ρ) (hR : rgt 10 k a b = true) : ApplyR w bb F m 10 k a b (apply m 10 k a b) :=
  goD (n := 10) (x := (had (mGet m.S k)).1) (y := (had (mGet m.S k)).2) (a10 z0 (mGet m.S k).isSome) hr s hb ho hR (f8 s rfl) (fun ρ' s' => ⟨by rw [kO, had1], hO (v8 s') rfl, k7 s', p8 s' (varD s'.i32)⟩) rfl
theorem w11 (s : SM m z0 11 k a b ρ) (hR : rgt 11 k a b = true) : ApplyR w bb F m 11 k a b (apply m 11 k a b) := by
  cases hm : mGet m.S k with
  | none =>
    refine goD (n := 11) (a11n z0) hr s hb ho hR (f8 s (by rw [hm]; rfl)) (fun ρ' s' => ⟨rfl, rfl, k7 s', k8 s'⟩) ?_
    simp only [apply, hm]
  | some v =>
    have e : ∀ {ρ}, SM m z0 11 k a b ρ → (vOf s8).den ρ = some v := fun s => by rw [v8 s, hm]; rfl
    have f0 := f8 s (h := true) (by rw [hm]; rfl)
    by_cases hv : v = 0
    · refine goD (n := 11) (a11e z0) hr s hb ho hR (CRel_app.2 ⟨f0, c1 (eqlT (e s) (litD 0) hv) c0⟩) (fun ρ' s' => ⟨rfl, rfl, k7 s', k8 s'⟩) ?_
      simp only [apply, hm, stepM, if_pos hv]
    · have e1 : ∀ {ρ}, SM m z0 11 k a b ρ → (by1 (-1)).den ρ = some (IntKind.i64.wrap (v + -1)) := fun s => by rw [b8 s, hm]; rfl
      refine goD (n := 11) (a11y z0) hr s hb ho hR (CRel_app.2 ⟨f0, c1 (eqlF (e s) (litD 0) hv) c0⟩) (fun ρ' s' => ⟨rfl, e1 s', k7 s', p8 s' (e1 s')⟩) ?_
      simp only [apply, hm, stepM, if_neg hv]
theorem w12 (s : SM m z0 12 k a b ρ) (hR : rgt 12 k a b = true) : ApplyR w bb F m 12 k a b (apply m 12 k a b) := by
  cases hm : mGet m.S k with
  | none =>
    refine goD (n := 12) (a12n z0) hr s hb ho hR (f8 s (by rw [hm]; rfl)) (fun ρ' s' => ⟨rfl, rfl, k7 s', k8 s'⟩) ?_
    simp only [apply, hm]
  | some v =>
    have e : ∀ {ρ}, SM m z0 12 k a b ρ → (vOf s8).den ρ = some v := fun s => by rw [v8 s, hm]; rfl
    have f0 := f8 s (h := true) (by rw [hm]; rfl)
    by_cases hv : v = 1023
    · refine goD (n := 12) (a12e z0) hr s hb ho hR (CRel_app.2 ⟨f0, c1 (eqlT (e s) (litD 1023) hv) c0⟩) (fun ρ' s' => ⟨rfl, rfl, k7 s', k8 s'⟩) ?_
      simp only [apply, hm, stepM, if_pos hv]
    · have e1 : ∀ {ρ}, SM m z0 12 k a b ρ → (by1 1).den ρ = some (IntKind.i64.wrap (v + 1)) := fun s => by rw [b8 s, hm]; rfl
      refine goD (n := 12) (a12y z0) hr s hb ho hR (CRel_app.2 ⟨f0, c1 (eqlF (e s) (litD 1023) hv) c0⟩) (fun ρ' s' => ⟨rfl, e1 s', k7 s', p8 s' (e1 s')⟩) ?_
      simp only [apply, hm, stepM, if_neg hv]
theorem w13 (s : SM m z0 13 k a b ρ) (hR : rgt 13 k a b = true) : ApplyR w bb F m 13 k a b (apply m 13 k a b) :=
  goD (n := 13) (x := (had (mGet m.S k)).1) (y := (had (mGet m.S k)).2) (a13 z0 (mGet m.S k).isSome) hr s hb ho hR (f8 s rfl) (fun ρ' s' => ⟨by rw [kO, had1], hO (v8 s') rfl, k7 s', k8 s'⟩) rfl
theorem w14 (s : SM m z0 14 k a b ρ) (hR : rgt 14 k a b = true) : ApplyR w bb F m 14 k a b (apply m 14 k a b) :=
  goD (n := 14) (x := (had (mGet m.S k)).1) (y := (had (mGet m.S k)).2) (a14 z0 (mGet m.S k).isSome) hr s hb ho hR (f8 s rfl) (fun ρ' s' => ⟨by rw [kO, had1], hO (v8 s') rfl, k7 s', del_den (k8 s') (varD s'.i31)⟩) rfl
theorem w1 (s : SM m z0 1 k a b ρ) (hR : rgt 1 k a b = true) : ApplyR w bb F m 1 k a b (apply m 1 k a b) := by
  by_cases hz : z0 = .row
  · subst hz
    obtain ⟨h5, h6, h1⟩ := s.r rfl
    have hle := s.le
    by_cases hf : 256 ≤ m.Q.length
    · refine goD (n := 1) a1f hr s hb ho hR (c1 (geqT (varD h6) (litD 256) (by omega)) c0) (fun ρ' s' => ⟨rfl, rfl, k7 s', k8 s'⟩) ?_
      simp only [apply, if_pos hf]
    · refine go1 (n := 1) a1r hr s hb hR (c1 (geqF (varD h6) (litD 256) (by omega)) c0) (endA (z := .row) (l := 9) hb ho s rfl (.inr rfl) (fun l hl => ?_) (fun ρ' l hl => ?_) fun ρ' s' hG => ?_)
      · simp only [oM, List.mem_cons, List.not_mem_nil, or_false] at hl
        rcases hl with rfl | rfl | rfl | rfl <;> rfl
      · simp only [oM, List.mem_cons, List.not_mem_nil, or_false] at hl
        rcases hl with rfl | rfl | rfl | rfl <;> rfl
      · obtain ⟨g5, g6, _⟩ := s'.r rfl
        have e6 : up6.den ρ' = some ((m.Q.length : Int) + 1) := plusD (varD g6) (litD 1) (by omega) (by omega)
        have e5 : (IT.un 3 (.var 5) (.var 32)).den ρ' = some (encL (m.Q ++ [a])) := by
          rw [unD (varD g5) (varD s'.i32)]
          show some (encL (decL (encL m.Q) ++ [a])) = _
          rw [decL_encL]
        have q : apply m 1 k a b = ((0, (m.Q.length : Int) + 1), { m with Q := m.Q ++ [a] }) := by simp only [apply, if_neg hf]
        rw [q]
        refine ⟨sbI (t := .lit 0) rfl rfl, sbI (t := up6) rfl e6, ?_, ?_, fun _ => ⟨?_, ?_, ?_⟩, fun h => absurd rfl h⟩
        · rw [sbI (t := m7) rfl (k7 s'), decL_encL]
        · rw [sbI (t := s8) rfl (k8 s'), decL_encL]
        · rw [sbI rfl e5, decL_encL]
        · rw [sbI (t := up6) rfl e6, List.length_append]; rfl
        · simp
  · have h0 := s.n hz
    have q : apply m 1 k a b = ((0, 1), { m with Q := [a] }) := by simp [apply, h0]
    rw [q]
    refine go1 (n := 1) (a1n z0 hz) hr s hb hR c0 (endA (z := .row) (l := 1) hb ho s rfl (.inl rfl) (fun l hl => ?_) (fun ρ' l hl => ?_) fun ρ' s' hG => ?_)
    · cases z0 <;> first | exact absurd rfl hz | (simp only [oM, List.mem_cons, List.not_mem_nil, or_false] at hl; rcases hl with rfl | rfl | rfl <;> rfl)
    · cases z0 <;> first | exact absurd rfl hz | (simp only [oM, List.mem_cons, List.not_mem_nil, or_false] at hl; rcases hl with rfl | rfl | rfl <;> rfl)
    · have e5 : (IT.un 3 (.lit 0) (.var 32)).den ρ' = some (encL [a]) := by
        rw [unD (litD 0) (varD s'.i32)]
        show some (encL (decL 0 ++ [a])) = _
        rw [decL_zero]; rfl
      refine ⟨sbI (t := .lit 0) rfl rfl, sbI (t := .lit 1) rfl rfl, ?_, ?_, fun _ => ⟨?_, ?_, ?_⟩, fun h => absurd rfl h⟩
      · rw [sbI (t := m7) rfl (k7 s'), decL_encL]
      · rw [sbI (t := s8) rfl (k8 s'), decL_encL]
      · rw [sbI rfl e5, decL_encL]
      · exact sbI (t := .lit 1) rfl rfl
      · simp
theorem w2 (s : SM m z0 2 k a b ρ) (hR : rgt 2 k a b = true) : ApplyR w bb F m 2 k a b (apply m 2 k a b) := by
  by_cases hz : z0 = .row
  · subst hz
    obtain ⟨h5, h6, h1⟩ := s.r rfl
    have hle := s.le
    have hne : m.Q ≠ [] := List.length_pos_iff.1 h1
    have q : apply m 2 k a b = ((0, m.Q.getD 0 0), { m with Q := m.Q.drop 1 }) := by simp only [apply, if_neg hne]
    have lf : ∀ {ρ}, SM m .row 2 k a b ρ → (leftLen (.var 6)).den ρ = some ((m.Q.length : Int) - 1) := fun {ρ} s => by
      obtain ⟨_, g6, _⟩ := s.r rfl
      unfold leftLen
      rw [unD (varD g6) (litD 1)]
      show some (if (1 : Int) ≤ (m.Q.length : Int) then (m.Q.length : Int) - 1 else 0) = _
      rw [if_pos (by omega)]
    have hd : ∀ {ρ}, SM m .row 2 k a b ρ → head5.den ρ = some (m.Q.getD 0 0) := fun {ρ} s => by
      obtain ⟨g5, _, _⟩ := s.r rfl
      unfold head5
      refine (unD (varD g5) (elemD (sz := 1) (j := 0) (litD ((0 : Nat) : Int)) (litD ((0 : Nat) : Int)))).trans ?_
      show some ((decL (encL m.Q)).getD _ 0) = _
      rw [decL_encL]; rfl
    have hf : ∀ {bo : Bool}, (BT.cmp .geq (leftLen (.var 6)) (.lit 1)).den ρ = some bo → CRel ρ (f2 bo) := fun {bo} h =>
      c1 (leqT (litD 1) (varD h6) (by omega)) (c1 (lssT (litD 0) (varD h6) (by omega)) (c1 rfl (c1 rfl (c1 (leqT (lf s) (litD _) (by omega)) (c1 h c0)))))
    rw [q]
    by_cases h2 : 2 ≤ m.Q.length
    · refine go1 (n := 2) a2r hr s hb hR (hf (geqT (lf s) (litD 1) (by omega))) (endA (z := .row) (l := 9) hb ho s rfl (.inr rfl) (fun l hl => ?_) (fun ρ' l hl => ?_) fun ρ' s' hG => ?_)
      · simp only [oM, List.mem_cons, List.not_mem_nil, or_false] at hl
        rcases hl with rfl | rfl | rfl | rfl <;> rfl
      · simp only [oM, List.mem_cons, List.not_mem_nil, or_false] at hl
        rcases hl with rfl | rfl | rfl | rfl <;> rfl
      · obtain ⟨g5, g6, _⟩ := s'.r rfl
        have e5 : (IT.un 11 (.var 5) (.lit 1)).den ρ' = some (encL (m.Q.drop 1)) := by
          rw [unD (varD g5) (litD 1)]
          show some (encL ((decL (encL m.Q)).drop 1)) = _
          rw [decL_encL]
        refine ⟨sbI (t := .lit 0) rfl rfl, sbI (t := head5) rfl (hd s'), ?_, ?_, fun _ => ⟨?_, ?_, ?_⟩, fun h => absurd rfl h⟩
        · rw [sbI (t := m7) rfl (k7 s'), decL_encL]
        · rw [sbI (t := s8) rfl (k8 s'), decL_encL]
        · rw [sbI rfl e5, decL_encL]
        · rw [sbI (t := leftLen (.var 6)) rfl (lf s'), List.length_drop]; omega
        · rw [List.length_drop]; omega
    · refine go1 (n := 2) a2l hr s hb hR (hf (geqF (lf s) (litD 1) (by omega))) (endA (z := .zero) (l := 9) hb ho s rfl (.inr rfl) (fun l hl => ?_) (fun ρ' l hl => ?_) fun ρ' s' hG => ?_)
      · simp only [oM, List.mem_cons, List.not_mem_nil, or_false] at hl
        rcases hl with rfl | rfl | rfl | rfl <;> rfl
      · simp only [oM, List.mem_cons, List.not_mem_nil, or_false] at hl
        rcases hl with rfl | rfl | rfl | rfl <;> rfl
      · refine ⟨sbI (t := .lit 0) rfl rfl, sbI (t := head5) rfl (hd s'), ?_, ?_, fun h => absurd h (by simp), fun _ => ?_⟩
        · rw [sbI (t := m7) rfl (k7 s'), decL_encL]
        · rw [sbI (t := s8) rfl (k8 s'), decL_encL]
        · exact List.eq_nil_of_length_eq_zero (by rw [List.length_drop]; omega)
  · have h0 := s.n hz
    refine goD (n := 2) (a2n z0 hz) hr s hb ho hR c0 (fun ρ' s' => ⟨rfl, rfl, k7 s', k8 s'⟩) ?_
    simp only [apply, if_pos h0]
theorem wNot {c : Int} (s : SM m z0 c k a b ρ) (hR : rgt c k a b = false) : ApplyR w bb F m c k a b ((1, 0), m) := by
  have hx : AVal.denL ρ [me, .agg [iV 30, iV 31, iV 32, iV 33]] = some [.pointer (some ⟨bb, 0, none⟩), .agg #[.int .i64 c, .int .i64 k, .int .i64 a, .int .i64 b]] := denL2 (by simp only [me, AVal.den, hb]; rfl) (by
    simp only [iV, AVal.den, AVal.denL, IT.den, s.i30, s.i31, s.i32, s.i33, Option.map_some])
  have hfR : (tRight (.var 30) (.var 31) (.var 32) (.var 33)).den ρ = some false := by rw [rgt_den (varD s.i30) (varD s.i31) (varD s.i32) (varD s.i33), hR]
  exact calls_sumsE (β := ⟨w, oM z0, GL⟩) (R := RM w bb F ((1, 0), m)) (g := gM) (L := oM z0) (Rs := eM ans) (Ts := []) (pl := true) noCount noExt noTs follows Try.func11 rfl (aNot z0) hx hr (CRel_app.2 ⟨c1 hfR c0, csQ_ok s⟩) (one (endD hb ho s fun ρ' s' _ => ⟨rfl, rfl, k7 s', k8 s'⟩))
end
end
/-- Apply, of any model and any operation. -/
theorem apply11 {w : World} {bb : Nat} {F : Nat → Prop} {m : Mod} (s : ModelIn w bb F m.Q m.M m.S) (hl : m.Q.length ≤ 1000) (c k a b : Int) : ApplyR w bb F m c k a b (applyO m c k a b) := by
  obtain ⟨z, ρ, hr, sm, ho, hb⟩ := startM c k a b s hl
  cases hR : rgt c k a b with
  | false => rw [applyO, hR, if_neg (by decide)]; exact wNot hr hb ho sm hR
  | true =>
    rw [applyO, hR, if_pos rfl]
    have h0 := rgt_in hR
    obtain ⟨n, rfl⟩ : ∃ n : Nat, c = (n : Int) := ⟨c.toNat, by omega⟩
    have hn : n ≤ 14 := by omega
    rw [Int.toNat_natCast]
    match n, hn, sm, hR with
    | 0, _, sm, hR => exact w0 hr hb ho sm hR
    | 1, _, sm, hR => exact w1 hr hb ho sm hR
    | 2, _, sm, hR => exact w2 hr hb ho sm hR
    | 3, _, sm, hR => exact w3 hr hb ho sm hR
    | 4, _, sm, hR => exact w4 hr hb ho sm hR
    | 5, _, sm, hR => exact w5 hr hb ho sm hR
    | 6, _, sm, hR => exact w6 hr hb ho sm hR
    | 7, _, sm, hR => exact w7 hr hb ho sm hR
    | 8, _, sm, hR => exact w8 hr hb ho sm hR
    | 9, _, sm, hR => exact w9 hr hb ho sm hR
    | 10, _, sm, hR => exact w10 hr hb ho sm hR
    | 11, _, sm, hR => exact w11 hr hb ho sm hR
    | 12, _, sm, hR => exact w12 hr hb ho sm hR
    | 13, _, sm, hR => exact w13 hr hb ho sm hR
    | 14, _, sm, hR => exact w14 hr hb ho sm hR
end Lm
end Go.Proofs.Ytpgonpjakllnjaa
end
