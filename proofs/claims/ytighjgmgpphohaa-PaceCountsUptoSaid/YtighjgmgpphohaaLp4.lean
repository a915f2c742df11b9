/- Stocks (2): from blocks to a stock, and back. -/
import Derived.Test.YtighjgmgpphohaaLp1
section
namespace Go.Proofs.Ytighjgmgpphohaa
open Go.Vm Go.Vm.Le
namespace Lp
theorem rowOf1 (L : List Int) : rowOf [.i64] L = L.map (Value.int .i64) := by
 apply List.ext_getElem?
 intro i
 rw [rowOf_get, List.getElem?_map]
 have : i % [IntKind.i64].length = 0 := Nat.mod_one i
 rw [this]; rfl
theorem entOf_used : ∀ K : List Int, entOf (usedL K) = K.map fun k => (Value.int .i64 k, Value.int .i64 1)
 | [] => rfl
 | k :: r => by simp only [usedL, entOf, List.map_cons, entOf_used r]
section
variable {w w' : World} {G : GP} {ρ : Env} {H : Heap} {most : Int} {h b : Nat} {B K : List Int} {F : Nat -> Prop}
theorem framed_in (hr : HRel ⟨w, F, G⟩ ρ H 5 w') {F' : Nat -> Prop} (hs : ∀ y, F' y -> F y ∨ w.heap.size <= y) : BigStep w w' F F' :=
 ⟨hr.size, hr.frame, hr.tape, hr.os, hr.out, hs⟩
theorem in_or (hr : HRel ⟨w, F, G⟩ ρ H 5 w') {l y : Nat} {k : HB} (hl : H.get l = some k) (hk : k.rw = true) (hy : ρ.N l = some y) : F y ∨ w.heap.size <= y := by
 exact (hr.own l k y hl hk hy).symm
theorem cells_of {v : AVal} (hr : HRel ⟨w, F, G⟩ ρ H 5 w') (hg : H.get 0 = some (stB v)) (hb : ρ.N 0 = some b) (h0 : ρ.I 0 = most) (h3 : ρ.I 3 = (h : Int)) {vb : Value} (hv : v.den ρ = some vb) {bm : Nat} (h2 : ρ.N 2 = some bm) :
 ∃ c fr, w'.heap[b]? = some (.cells c 103 fr) /\ c.toList = [.int .i64 most, .int .i64 h, vb, .map (some bm)] /\ (fr.2 <= fr.1 ∨ c.size <= fr.1) := by
 obtain ⟨b', o, hb', ho, xs, c, fr, rfl, hd, hp, ht, hf⟩ := hr.blk 0 _ hg
 rw [hb] at hb'; cases hb'
 have e0 : (iV 0).den ρ = some (.int .i64 most) := by simp only [iV, AVal.den, IT.den, h0, Option.map_some]
 have e3 : (iV 3).den ρ = some (.int .i64 h) := by simp only [iV, AVal.den, IT.den, h3, Option.map_some]
 have e2 : (AVal.map 2).den ρ = some (.map (some bm)) := by simp only [AVal.den, h2, Option.map_some]
 simp only [AVal.denL, e0, e3, hv, e2, Option.some.injEq] at hd
 subst hd
 refine ⟨c, fr, ho, ?_, hf rfl⟩
 obtain ⟨t, ht'⟩ := hp
 have hl : c.toList.length = 4 := by
  have : c.size = 4 := ht
  simpa using this
 rw [<- ht'] at hl ⊢
 have : t = [] := by
  cases t with
  | nil => rfl
  | cons a t => simp at hl
 rw [this, List.append_nil]
theorem map_of (hr : HRel ⟨w, F, G⟩ ρ H 5 w') (hg : H.get 2 = some mB) (h4 : decL (ρ.I 4) = usedL K) : ∃ bm es cl, ρ.N 2 = some bm /\ w'.heap[bm]? = some (.map es cl) /\ es.toList.map (fun e => (e.key, e.val)) = K.map (fun k => (Value.int .i64 k, Value.int .i64 1)) /\ BornM es cl := by
 obtain ⟨bm, o, hbm, ho, x, es, cl, rfl, hx, he, hbn⟩ := hr.blk 2 _ hg
 refine ⟨bm, es, cl, hbm, ho, ?_, hbn⟩
 have hx : ρ.I 4 = x := Option.some.inj hx
 rw [<- entOf_used, <- h4, hx]
 exact he
theorem end_none {v : AVal} (hr : HRel ⟨w, F, G⟩ ρ H 5 w') (hg : H.get 0 = some (stB v)) (hg2 : H.get 2 = some mB) (hb : ρ.N 0 = some b) (h0 : ρ.I 0 = most) (h3 : ρ.I 3 = (h : Int)) (h4 : decL (ρ.I 4) = usedL K)
 {a : Option Addr} (hv : v.den ρ = some (.slice a 0 0)) (ha : ∀ p, a = some p -> p.spot = none) (s : Stk most h [] K) (m0 : 0 <= most) (m1 : most <= 65535) : ∃ F', BigStep w w' F F' /\ StockIn w' b F' most h K := by
 obtain ⟨bm, es, cl, hbm, hom, he, hbn⟩ := map_of hr hg2 h4
 obtain ⟨c, fr, hob, hc, hf⟩ := cells_of hr hg hb h0 h3 hv hbm
 refine ⟨fun y => y = b ∨ y = bm, framed_in hr fun y hy => ?_, ⟨⟨[], c, fr, .slice a 0 0, bm, es, cl, hob, hc, hf, hom, he, hbn, s, ?_, .inl ⟨a, rfl, ha, rfl, fun _ => Iff.rfl⟩⟩, m0, m1⟩⟩
 · rcases hy with rfl | rfl
   · exact in_or hr hg rfl hb
   · exact in_or hr hg2 rfl hbm
 · intro e
   have := hr.inj 0 2 _ _ hg hg2 rfl (by rw [hb, hbm, e])
   cases this
theorem end_row {r : Nat} (hr0 : r ≠ 0) (hr2 : r ≠ 2) (hr : HRel ⟨w, F, G⟩ ρ H 5 w') (hg : H.get 0 = some (stB (.slice r (.lit 0) (.var 6) (.nv 4)))) (hg2 : H.get 2 = some mB) (hgr : H.get r = some rB) (hb : ρ.N 0 = some b) (h0 : ρ.I 0 = most) (h3 : ρ.I 3 = (h : Int)) (h4 : decL (ρ.I 4) = usedL K)
 (h6 : ρ.I 6 = (B.length : Int)) (h5 : (decL (ρ.I 5)).take B.length = B) (s : Stk most h B K) (m0 : 0 <= most) (m1 : most <= 65535) : ∃ F', BigStep w w' F F' /\ StockIn w' b F' most h K := by
 obtain ⟨bm, es, cl, hbm, hom, he, hbn⟩ := map_of hr hg2 h4
 obtain ⟨b1, o1, hb1, ho1, xs, c1, fr1, el1, m1', st, rfl, hel, hd, hst, ⟨hsz, hp⟩, hn, hty, ⟨cap, hcap, hroom⟩, hf1⟩ := hr.blk r _ hgr
 obtain rfl : st = 0 := by have := Option.some.inj hst; exact (Int.ofNat.inj this).symm
 rw [List.drop_zero] at hp
 have hel := hel rfl
 subst hel
 have hx5 : xs = rowOf [.i64] (decL (ρ.I 5)) := (Option.some.inj hd).symm
 subst hx5
 have hv : (AVal.slice r (.lit 0) (.var 6) (.nv 4)).den ρ = some (.slice (some ⟨b1, 0, none⟩) B.length cap) := den_slice_of hb1 rfl (congrArg some h6) hcap
 obtain ⟨c, fr, hob, hc, hf⟩ := cells_of hr hg hb h0 h3 hv hbm
 refine ⟨fun y => y = b ∨ y = bm ∨ y = b1, framed_in hr fun y hy => ?_, ⟨⟨B, c, fr, _, bm, es, cl, hob, hc, hf, hom, he, hbn, s, ?_, .inr ⟨b1, cap, decL (ρ.I 5), _, rfl, ho1, ⟨c1, fr1, rfl, by rw [<- rowOf1]; exact hp, ?_, hf1 rfl⟩, h5, ?_, ?_, fun _ => Iff.rfl⟩⟩, m0, m1⟩⟩
 · rcases hy with rfl | rfl | rfl
   · exact in_or hr hg rfl hb
   · exact in_or hr hg2 rfl hbm
   · exact in_or hr hgr rfl hb1
 · intro e
   have := hr.inj 0 2 _ _ hg hg2 rfl (by rw [hb, hbm, e])
   cases this
 · have : c1.size - 0 = cap * 1 := hroom
   omega
 · intro e
   exact hr0 (hr.inj r 0 _ _ hgr hg rfl (by rw [hb1, hb, e]))
 · intro e
   exact hr2 (hr.inj r 2 _ _ hgr hg2 rfl (by rw [hb1, hbm, e]))
end
def envL (most : Int) (h : Nat) (B K X : List Int) (b b1 bm cap o : Nat) (v vb : Value) : Env :=
 ⟨fun i => if i = 0 then most else if i = 3 then h else if i = 4 then encL (usedL K) else if i = 5 then encL X else if i = 6 then B.length else if i = 7 then X.length else if i = 11 then o else 0, fun _ => false, fun _ => default, fun i => if i = 0 then v else vb, fun i => if i = 0 then some b else if i = 1 then some b1 else if i = 2 then some bm else if i = 4 then some cap else none, fun k => if k = 70 then upC else downC⟩
theorem FrOk_of {fr : Nat × Nat} {n : Nat} (h : fr.2 <= fr.1 ∨ n <= fr.1) : FrOk fr n := h
theorem start {w : World} {b : Nat} {F : Nat -> Prop} {most : Int} {h : Nat} {K : List Int} (v : Value) (s : StockIn w b F most h K) : ∃ z ρ B, HRel ⟨w, F, GL⟩ ρ (ofP (hB z)) 5 w /\ S02 v 0 most 0 h B K ρ /\ (z = .row -> R02 B ρ) /\ (z ≠ .row -> B = []) /\ (∀ l ∈ oL z, ∀ y, ρ.N l = some y -> F y) /\ ρ.N 0 = some b /\ (z = .zero -> ∃ b1 o, ρ.N 1 = some b1 /\ ρ.I 11 = ((o : Nat) : Int)) := by
 obtain ⟨⟨B, c, fr, vb, bm, es, cl, hob, hc, hf, hom, he, hbn, hs, hne, hbk⟩, m0, m1⟩ := s
 have hsize : c.size = 4 := by
  have : c.toList.length = 4 := by rw [hc]; rfl
  simpa using this
 have mrel : ∀ {ρ : Env}, ρ.I 4 = encL (usedL K) -> mB.k.rel ρ mB.rw (.map es cl) := fun {ρ} h4 => ⟨encL (usedL K), es, cl, rfl, congrArg some h4, by rw [decL_encL, entOf_used]; exact he, hbn⟩
 have srel : ∀ {ρ : Env} {u : AVal}, ρ.I 0 = most -> ρ.I 3 = (h : Int) -> u.den ρ = some vb -> ρ.N 2 = some bm -> (stB u).k.rel ρ (stB u).rw (.cells c 103 fr) := fun {ρ u} h0 h3 hu h2 => by
  have e0 : (iV 0).den ρ = some (.int .i64 most) := by simp only [iV, AVal.den, IT.den, h0, Option.map_some]
  have e3 : (iV 3).den ρ = some (.int .i64 h) := by simp only [iV, AVal.den, IT.den, h3, Option.map_some]
  have e2 : (AVal.map 2).den ρ = some (.map (some bm)) := by simp only [AVal.den, h2, Option.map_some]
  exact ⟨[.int .i64 most, .int .i64 h, vb, .map (some bm)], c, fr, rfl, by simp only [AVal.denL, e0, e3, hu, e2], by rw [hc]; exact List.prefix_refl _, hsize, fun _ => hf⟩
 have S2 : ∀ {B X b1 cap o}, Stk most h B K -> S02 v 0 most 0 h B K (envL most h B K X b b1 bm cap o v vb) := fun {B X b1 cap o} hs => ⟨rfl, rfl, rfl, decL_encL _, rfl, rfl, Nat.le_refl _, by omega, m0, m1, hs⟩
 have fresh : ∀ {B X b1 cap o} (i : Nat), 5 <= i -> (envL most h B K X b b1 bm cap o v vb).N i = none := fun {B X b1 cap o} i hi => by
  show (if i = 0 then some b else if i = 1 then some b1 else if i = 2 then some bm else if i = 4 then some cap else none) = none
  rw [if_neg (by omega), if_neg (by omega), if_neg (by omega), if_neg (by omega)]
 rcases hbk with ⟨a, rfl, ha, rfl, hF⟩ | ⟨b1, cap, X, o1, rfl, ho1, ⟨c1, fr1, rfl, hp1, hs1, hf1⟩, hX, hb1, hb1m, hF⟩
 · -- none, or a row of none
   have two : ∀ (z : Bk) (b1 o : Nat), z ≠ .row -> (z.v.den (envL most h [] K [] b b1 bm 0 o v (.slice a 0 0)) = some (.slice a 0 0)) -> HRel ⟨w, F, GL⟩ (envL most h [] K [] b b1 bm 0 o v (.slice a 0 0)) (ofP (hB z)) 5 w := fun z b1 o hz hv => by
    have hL : hB z = [(0, stB z.v), (2, mB)] := by cases z <;> first | rfl | exact absurd rfl hz
    rw [hL]
    refine HRel.owned _ (fun p hp => ?_) (fun p hp q hq _ he => ?_) (fun p hp _ y hy => ?_) fresh ⟨rfl, rfl⟩
    · simp only [List.mem_cons, List.not_mem_nil, or_false] at hp
      rcases hp with rfl | rfl
      · exact ⟨b, _, rfl, hob, srel rfl rfl hv rfl⟩
      · exact ⟨bm, _, rfl, hom, mrel rfl⟩
    · simp only [List.mem_cons, List.not_mem_nil, or_false] at hp hq
      rcases hp with rfl | rfl <;> rcases hq with rfl | rfl
      · rfl
      · exact absurd (Option.some.inj he) hne
      · exact absurd (Option.some.inj he).symm hne
      · rfl
    · simp only [List.mem_cons, List.not_mem_nil, or_false] at hp
      rcases hp with rfl | rfl
      · cases hy; exact (hF _).2 (.inl rfl)
      · cases hy; exact (hF _).2 (.inr rfl)
   have own2 : ∀ {B X b1 cap o} (z : Bk), z ≠ .row -> ∀ l ∈ oL z, ∀ y, (envL most h B K X b b1 bm cap o v (.slice a 0 0)).N l = some y -> F y := fun {B X b1 cap o} z hz l hl y hy => by
    have hO : oL z = [0, 2] := by cases z <;> first | rfl | exact absurd rfl hz
    rw [hO] at hl
    simp only [List.mem_cons, List.not_mem_nil, or_false] at hl
    rcases hl with rfl | rfl
    · cases hy; exact (hF _).2 (.inl rfl)
    · cases hy; exact (hF _).2 (.inr rfl)
   cases a with
   | none => exact ⟨.nil, envL most h [] K [] b 0 bm 0 0 v (.slice none 0 0), [], two .nil 0 0 (by simp) rfl, S2 hs, (fun e => by cases e), fun _ => rfl, own2 .nil (by simp), rfl, fun e => by cases e⟩
   | some p =>
    obtain ⟨pb, po, ps⟩ := p
    obtain rfl : ps = none := ha _ rfl
    exact ⟨.zero, envL most h [] K [] b pb bm 0 po v (.slice (some ⟨pb, po, none⟩) 0 0), [], two .zero pb po (by simp) (den_slice_of rfl rfl rfl rfl), S2 hs, (fun e => by cases e), fun _ => rfl, own2 .zero (by simp), rfl, fun _ => ⟨pb, po, rfl, rfl⟩⟩
 · have hlen : B.length <= X.length := by
    have := congrArg List.length hX
    rw [List.length_take] at this; omega
   have hr : HRel ⟨w, F, GL⟩ (envL most h B K X b b1 bm cap 0 v (.slice (some ⟨b1, 0, none⟩) B.length cap)) (ofP (hB .row)) 5 w := by
    refine HRel.owned (hB .row) (fun p hp => ?_) (fun p hp q hq _ he => ?_) (fun p hp _ y hy => ?_) fresh ⟨rfl, rfl⟩
    · simp only [hB, List.mem_cons, List.not_mem_nil, or_false] at hp
      rcases hp with rfl | rfl | rfl
      · exact ⟨b, _, rfl, hob, srel rfl rfl (den_slice_of rfl rfl rfl rfl) rfl⟩
      · exact ⟨bm, _, rfl, hom, mrel rfl⟩
      · refine ⟨b1, _, rfl, ho1, rowOf [.i64] X, c1, fr1, 3, X.length, 0, rfl, fun _ => rfl, ?_, rfl, ⟨Nat.zero_le _, ?_⟩, rfl, rowOf_typed (by simp), ⟨cap, rfl, ?_⟩, fun _ => FrOk_of hf1⟩
        · show (some (encL X)).map (fun x => rowOf [.i64] (decL x)) = _
          rw [Option.map_some, decL_encL]
        · rw [List.drop_zero, rowOf1]; exact hp1
        · show c1.size - 0 = cap * 1
          omega
    · simp only [hB, List.mem_cons, List.not_mem_nil, or_false] at hp hq
      rcases hp with rfl | rfl | rfl <;> rcases hq with rfl | rfl | rfl
      · rfl
      · exact absurd (Option.some.inj he) hne
      · exact absurd (Option.some.inj he).symm hb1
      · exact absurd (Option.some.inj he).symm hne
      · rfl
      · exact absurd (Option.some.inj he).symm hb1m
      · exact absurd (Option.some.inj he) hb1
      · exact absurd (Option.some.inj he) hb1m
      · rfl
    · simp only [hB, List.mem_cons, List.not_mem_nil, or_false] at hp
      rcases hp with rfl | rfl | rfl
      · cases hy; exact (hF _).2 (.inl rfl)
      · cases hy; exact (hF _).2 (.inr (.inl rfl))
      · cases hy; exact (hF _).2 (.inr (.inr rfl))
   refine ⟨.row, _, B, hr, S2 hs, fun _ => ⟨rfl, ?_, ?_, ?_⟩, fun e => absurd rfl e, fun l hl y hy => ?_, rfl, fun e => by cases e⟩
   · show (X.length : Int) = ((decL (encL X)).length : Int)
     rw [decL_encL]
   · show B.length <= (decL (encL X)).length
     rw [decL_encL]; exact hlen
   · show (decL (encL X)).take B.length = B
     rw [decL_encL]; exact hX
   · simp only [oL, List.mem_cons, List.not_mem_nil, or_false] at hl
     rcases hl with rfl | rfl | rfl
     · cases hy; exact (hF _).2 (.inl rfl)
     · cases hy; exact (hF _).2 (.inr (.inr rfl))
     · cases hy; exact (hF _).2 (.inr (.inl rfl))
end Lp
end Go.Proofs.Ytighjgmgpphohaa
end
section
namespace Go.Proofs.Ytighjgmgpphohaa
open Go.Vm Go.Vm.Le
namespace Lp
def lf (most : Int) (K : List Int) : Int := (((List.range most.toNat).map fun (i : Nat) => (i : Int) + 1).find? fun x => decide (x ∉ K)).getD 0
theorem lf_find (K : List Int) : ∀ (m s : Nat) (n : Nat), s <= n -> n < s + m -> ((n : Int) + 1 ∉ K) -> (∀ i : Nat, s <= i -> i < n -> (i : Int) + 1 ∈ K) -> (((List.range' s m).map fun (i : Nat) => (i : Int) + 1).find? fun x => decide (x ∉ K)) = some ((n : Int) + 1)
 | 0, s, n, h1, h2, _, _ => by omega
 | m + 1, s, n, h1, h2, hn, ha => by
  rw [List.range'_succ, List.map_cons, List.find?_cons]
  rcases Nat.eq_or_lt_of_le h1 with rfl | hlt
  · simp [hn]
  · have : (s : Int) + 1 ∈ K := ha s (Nat.le_refl _) hlt
    simp only [this, not_true_eq_false, decide_false]
    exact lf_find K m (s + 1) n hlt (by omega) hn fun i hi => ha i (by omega)
theorem lf_eq {most n : Int} {K : List Int} (h1 : 1 <= n) (h2 : n <= most) (hn : n ∉ K) (ha : ∀ i, 1 <= i -> i < n -> i ∈ K) : lf most K = n := by
 unfold lf
 obtain ⟨k, rfl⟩ : ∃ k : Nat, n = (k : Int) + 1 := ⟨(n - 1).toNat, by omega⟩
 rw [List.range_eq_range', lf_find K _ 0 k (Nat.zero_le _) (by omega) hn fun i _ hi => ha _ (by omega) (by omega)]
 rfl
theorem lf_zero {most : Int} {K : List Int} (ha : ∀ i, 1 <= i -> i <= most -> i ∈ K) : lf most K = 0 := by
 unfold lf
 rw [List.find?_eq_none.2]
 · rfl
 · intro x hx
   obtain ⟨i, hi, rfl⟩ := List.mem_map.1 hx
   have hi := List.mem_range.1 hi
   simp [ha ((i : Int) + 1) (by omega) (by omega)]
def Bk.pick {α : Type} : Bk -> α -> α -> α -> α
 | .nil, a, _, _ => a
 | .zero, _, b, _ => b
 | .row, _, _, c => c
def qz (z : Bk) : Nat := z.pick 1 2 0
def sg (z : Bk) (ans : List (Nat × IT)) (c3 c6 c4 c5 c7 : IT) : Sub := ⟨ans ++ [(0, .var 0), (3, c3)] ++ z.pick [] [] [(6, c6)] ++ [(4, c4)] ++ z.pick [] [] [(5, c5), (7, c7)], [], [], [], z.pick [(0, 0), (2, 2)] [(0, 0), (2, 2), (1, 1)] [(0, 0), (1, 1), (2, 2), (4, 4)]⟩
def me : AVal := .ptr 0 (.lit 0)
def qf (z : Bk) : Cs := z.pick [] [] (f6 false)
noncomputable def RunT (z : Bk) (c : Cs) (l : LM) : Prop := (run Try.prog [] sp8 4000 true 57 (entry Try.f57 (Try.f57.body.getD .ret) [me] (ofP (hB z)) 5 (c ++ csB z))).map (·.filterMap (sumMD gS (oL z) (eS tk) [])) = some [l]
noncomputable def RunV (z : Bk) (c : Cs) (l : LM) : Prop := (run Try.prog [] sp8 4000 true 73 (entry Try.f73 (Try.f73.body.getD .ret) [me, .int .i64 tN0] (ofP (hB z)) 5 (c ++ csB z))).map (·.filterMap (sumMD gS (oL z) (eS (iV 9)) [])) = some [l]
theorem t_next (z : Bk) : RunT z (qf z ++ fHi true ++ noH) (.done (qz z) [] (sg z [(8, h1), (9, .lit 0)] h1 (.var 6) (put (.var 4) h1) (.var 5) (.var 7))) := by cases z <;> (unfold RunT; kernel_rfl)
theorem t_full (z : Bk) : RunT z (qf z ++ fHi false) (.done (qz z) [] (sg z [(8, .lit 0), (9, .lit 20)] (.var 3) (.var 6) (.var 4) (.var 5) (.var 7))) := by cases z <;> (unfold RunT; kernel_rfl)
theorem t_pop : RunT .row (f6 true ++ fP ++ noX) (.done 0 [] (sg .row [(8, x5), (9, .lit 0)] (.var 3) n6 (put (.var 4) x5) dn5 (.var 7))) := by unfold RunT; kernel_rfl
theorem v_no (z : Bk) : RunV z (ze (.var 4) tN0 false) (.done (qz z) [] (sg z [(9, .lit 21)] (.var 3) (.var 6) (.var 4) (.var 5) (.var 7))) := by cases z <;> (unfold RunV; kernel_rfl)
def sgA : Sub := ⟨[(9, .lit 0), (0, .var 0), (3, .var 3), (6, .lit 1), (4, .un 8 (.var 4) tN0), (5, .un 3 (.lit 0) tN0), (7, .lit 1)], [], [], [], [(0, 0), (2, 2), (1, 7), (4, 6)]⟩
def sgB : Sub := ⟨[(9, .lit 0), (0, .var 0), (3, .var 3), (6, h6), (4, .un 8 (.var 4) tN0), (5, psh (.un 10 (.var 5) (.var 6)) j6), (7, h6)], [], [], [], [(0, 0), (1, 1), (2, 2), (3, 7), (4, 6)]⟩
theorem v_nil : RunV .nil (ze (.var 4) tN0 true) (.done 0 [] sgA) := by unfold RunV; kernel_rfl
theorem v_zero : RunV .zero (ze (.var 4) tN0 true) (.done 0 [] sgA) := by unfold RunV; kernel_rfl
theorem v_row : RunV .row (fQ ++ ze (.var 4) tN0 true) (.done 3 [] sgB) := by unfold RunV; kernel_rfl
def βS (w : World) (F : Nat -> Prop) : Base := ⟨w, F, GL⟩
def RS (w : World) (b : Nat) (F : Nat -> Prop) (most : Int) (h : Nat) (K : List Int) (xv : Value) : Value -> World -> Prop := fun x w' => x = xv /\ ∃ F', BigStep w w' F F' /\ StockIn w' b F' most h K
theorem c0' {ρ : Env} : CRel ρ [] := CRel_nil.2 trivial
section
variable {w : World} {b : Nat} {F : Nat -> Prop} {most : Int} {h h' : Nat} {B K B' K' : List Int} {ρ : Env} {z : Bk} {f : FuncId} {u : AVal} {v : Value}
theorem endS (hb : ρ.N 0 = some b) (h1z : z = .zero -> ∃ b1 o : Nat, ρ.N 1 = some b1 /\ ρ.I 11 = (o : Int)) (s : S02 v 0 most 0 h B K ρ) {ans : List (Nat × IT)} {c3 c6 c4 c5 c7 : IT} {x4 x5' : Int} {xv : Value}
 (hans : ∀ k, (k = 0 ∨ k = 3 ∨ k = 4 ∨ k = 5 ∨ k = 6 ∨ k = 7 ∨ k = 11) -> lk ans k = none) (s' : Stk most h' B' K') (hB' : z ≠ .row -> B' = [])
 (d3 : ∀ ρ', ρ.Le ρ' -> GL.at ρ' -> c3.den ρ' = some (h' : Int)) (d4 : ∀ ρ', ρ.Le ρ' -> GL.at ρ' -> c4.den ρ' = some x4) (e4 : decL x4 = usedL K') (d6 : z = .row -> ∀ ρ', ρ.Le ρ' -> GL.at ρ' -> c6.den ρ' = some (B'.length : Int)) (d5 : z = .row -> ∀ ρ', ρ.Le ρ' -> GL.at ρ' -> c5.den ρ' = some x5') (e5 : z = .row -> (decL x5').take B'.length = B')
 (hx : ∀ ρ', ρ.Le ρ' -> GL.at ρ' -> u.den ((sg z ans c3 c6 c4 c5 c7).app ρ') = some xv) : MGoodO Try.prog (βS w F) f (RS w b F most h' K' xv) (eS u) [] ρ (.done (qz z) [] (sg z ans c3 c6 c4 c5 c7)) := by
 have look : ∀ k t, (k = 0 ∨ k = 3 ∨ k = 4 ∨ k = 5 ∨ k = 6 ∨ k = 7 ∨ k = 11) -> lk ((sg z [] c3 c6 c4 c5 c7).I) k = t -> lk ((sg z ans c3 c6 c4 c5 c7).I) k = t := fun k t hk ht => by
  have app : ∀ (l r : List (Nat × IT)), lk l k = none -> lk (l ++ r) k = lk r k := fun l r => by
   induction l with
   | nil => intro _; rfl
   | cons p l ih =>
    intro hl
    obtain ⟨i, x⟩ := p
    simp only [lk, List.cons_append] at hl ⊢
    cases hb : Nat.beq i k with
    | true => rw [hb] at hl; cases hl
    | false => rw [hb] at hl; simp only [cond_false] at hl ⊢; exact ih hl
  rw [<- ht]
  show lk (ans ++ [(0, .var 0), (3, c3)] ++ z.pick [] [] [(6, c6)] ++ [(4, c4)] ++ z.pick [] [] [(5, c5), (7, c7)]) k = lk ([] ++ [(0, .var 0), (3, c3)] ++ z.pick [] [] [(6, c6)] ++ [(4, c4)] ++ z.pick [] [] [(5, c5), (7, c7)]) k
  simp only [List.append_assoc, List.nil_append]
  exact app ans _ (hans k hk)
 have hT : (eS u)[qz z]? = some ⟨[(0, u)], 1, hB z, 5, [], 0⟩ := by cases z <;> rfl
 refine doneR hT fun ρ' hle hG => ⟨hG, c0', fun x w' r => ?_⟩
 obtain ⟨y, hy, he⟩ := r.t 0 u rfl
 obtain rfl : x = y := Option.some.inj he
 have hxy := hx ρ' hle hG
 rw [hy] at hxy
 refine ⟨Option.some.inj hxy, ?_⟩
 have i0 : ((sg z ans c3 c6 c4 c5 c7).app ρ').I 0 = most := sbI (look 0 (some (.var 0)) (.inl rfl) (by cases z <;> rfl)) (by show some (ρ'.I 0) = _; rw [hle.i, s.i0])
 have i3 : ((sg z ans c3 c6 c4 c5 c7).app ρ').I 3 = (h' : Int) := sbI (look 3 (some c3) (.inr (.inl rfl)) (by cases z <;> rfl)) (d3 ρ' hle hG)
 have i4 : decL (((sg z ans c3 c6 c4 c5 c7).app ρ').I 4) = usedL K' := by
  rw [sbI (look 4 (some c4) (.inr (.inr (.inl rfl))) (by cases z <;> rfl)) (d4 ρ' hle hG), e4]
 have hN0 : ((sg z ans c3 c6 c4 c5 c7).app ρ').N 0 = some b := by
  have : ((sg z ans c3 c6 c4 c5 c7).app ρ').N 0 = ρ'.N 0 := by cases z <;> rfl
  rw [this]; exact hle.n _ _ hb
 have m0 := s.m0
 have m1 := s.m
 cases z with
 | nil =>
  obtain rfl := hB' (by simp)
  exact end_none (v := .sliceNil) r.h rfl rfl hN0 i0 i3 i4 (a := none) rfl (fun _ e => by cases e) s' m0 m1
 | zero =>
  obtain rfl := hB' (by simp)
  obtain ⟨b1, o, hb1, ho1⟩ := h1z rfl
  have e1 : ((sg .zero ans c3 c6 c4 c5 c7).app ρ').N 1 = some b1 := by
   show ρ'.N 1 = _; exact hle.n _ _ hb1
  have e11 : ((sg .zero ans c3 c6 c4 c5 c7).app ρ').I 11 = (o : Int) := by
   rw [app_I (look 11 none (.inr (.inr (.inr (.inr (.inr (.inr rfl)))))) rfl), hle.i, ho1]
  exact end_none (v := Bk.zero.v) r.h rfl rfl hN0 i0 i3 i4 (a := some ⟨b1, o, none⟩) (den_slice_of e1 (congrArg some e11) rfl rfl) (fun p e => by cases e; rfl) s' m0 m1
 | row =>
  have i6 : ((sg .row ans c3 c6 c4 c5 c7).app ρ').I 6 = (B'.length : Int) := sbI (look 6 (some c6) (.inr (.inr (.inr (.inr (.inl rfl))))) rfl) (d6 rfl ρ' hle hG)
  have i5 : ((sg .row ans c3 c6 c4 c5 c7).app ρ').I 5 = x5' := sbI (look 5 (some c5) (.inr (.inr (.inr (.inl rfl)))) rfl) (d5 rfl ρ' hle hG)
  exact end_row (r := 1) (by decide) (by decide) r.h rfl rfl rfl hN0 i0 i3 i4 i6 (by rw [i5]; exact e5 rfl) s' m0 m1
end
end Lp
end Go.Proofs.Ytighjgmgpphohaa
end
section
namespace Go.Proofs.Ytighjgmgpphohaa
open Go.Vm Go.Vm.Le
namespace Lp
theorem noSpB (β : Base) : CallOk Try.prog β (spL []) := spL_ok fun _ hp => by cases hp
theorem sp8_ok (w : World) (F : Nat -> Prop) : CallOk Try.prog (βS w F) sp8 := by
 refine spL_ok fun p hp => ?_
 simp only [List.mem_cons, List.not_mem_nil, or_false] at hp
 rcases hp with rfl | rfl
 · exact spUp_ok fun _ _ _ _ _ h => h
 · exact spDown_ok fun _ _ _ _ _ h => h
section
variable {w : World} {b : Nat} {F : Nat -> Prop} {most : Int} {h : Nat} {B K : List Int} {ρ : Env} {z : Bk} {v : Value}
theorem me_den (hb : ρ.N 0 = some b) : me.den ρ = some (.pointer (some ⟨b, 0, none⟩)) := by
 simp only [me, AVal.den, hb]; rfl
theorem csB_ok (s : S02 v 0 most 0 h B K ρ) (r : z = .row -> R02 B ρ) : CRel ρ (csB z) := by
 have h1 := s.s.le; have h2 := s.m0; have h3 := s.m; have h4 := s.bl
 have e0 : (IT.var 0).den ρ = some most := congrArg some s.i0
 have e3 : (IT.var 3).den ρ = some (h : Int) := congrArg some s.i3
 have a : CRel ρ csS := c1 (geqT e0 (litD 0) h2) (c1 (leqT e0 (litD 65535) h3) (c1 (geqT e3 (litD 0) (by omega)) (c1 (leqT e3 e0 h1) c0')))
 cases z with
 | nil => exact a
 | zero => exact a
 | row =>
  have r := r rfl
  have h5 := r.le
  exact CRel_app.2 ⟨c1 (geqT (varD r.i6) (litD 0) (by omega)) (c1 (leqT (varD r.i6) (litD 65535) (by omega)) (c1 (leqT (varD r.i6) (varD r.i7) (by omega)) c0')), a⟩
theorem qf_ok (r : z = .row -> R02 B ρ) (h0 : B = []) : CRel ρ (qf z) := by
 cases z with
 | nil => exact c0'
 | zero => exact c0'
 | row => exact f6_ok (r rfl) (b := false) (by rw [h0]; rfl)
theorem cap_of {w' : World} (hr : HRel ⟨w', F, GL⟩ ρ (ofP (hB .row)) 5 w') : ∃ cap, ρ.N 4 = some cap /\ (decL (ρ.I 5)).length <= cap := by
 obtain ⟨cap, x, h1, h2, h3⟩ := room_ok hr (l := 1) (q := 4) (t := .code [.i64] (.var 5)) (an := .var 7) (c := .var 5) rfl rfl
 have h2 : ρ.I 5 = x := Option.some.inj h2
 exact ⟨cap, h1, by rw [h2]; exact h3⟩
end
def TakeR (w : World) (b : Nat) (F : Nat -> Prop) (most : Int) (h : Nat) (K : List Int) (e : Ending) (w' : World) : Prop :=
 e = .returned (.tuple #[.int .i64 (lf most K), .int .i64 (if lf most K = 0 then 20 else 0)]) /\ ∃ F', BigStep w w' F F' /\ StockIn w' b F' most (max h (lf most K).toNat) (if lf most K = 0 then K else K ++ [lf most K])
theorem tk_den {ρ : Env} {x y : Int} (h8 : ρ.I 8 = x) (h9 : ρ.I 9 = y) : tk.den ρ = some (.tuple #[.int .i64 x, .int .i64 y]) := by
 simp only [tk, iV, AVal.den, AVal.denL, IT.den, h8, h9, Option.map_some]
theorem take8 {w : World} {b : Nat} {F : Nat -> Prop} {most : Int} {h : Nat} {K : List Int} (s : StockIn w b F most h K) : Calls Try.prog 57 #[.pointer (some ⟨b, 0, none⟩)] w (TakeR w b F most h K) := by
 obtain ⟨z, ρ, B, hr, s2, hrow, hnil, hF, hb, hz⟩ := start (.agg #[]) s
 have hx := denL1 (me_den hb)
 have hcs := csB_ok s2 hrow
 have hG : GL.at ρ := hr.g
 have hans : ∀ (x y : IT) (k : Nat), (k = 0 ∨ k = 3 ∨ k = 4 ∨ k = 5 ∨ k = 6 ∨ k = 7 ∨ k = 11) -> lk [(8, x), (9, y)] k = none := fun x y k hk => by rcases hk with rfl | rfl | rfl | rfl | rfl | rfl | rfl <;> rfl
 by_cases hB0 : B = []
 · subst hB0
   have q := qf_ok hrow rfl
   by_cases hlt : (h : Int) < most
   · obtain ⟨s', hK, hlen, hall⟩ := s2.s.next hlt
     have hn : lf most K = (h : Int) + 1 := lf_eq (by omega) (by omega) hK fun i h1 h2 => by
      rcases List.mem_append.1 (hall i h1 (by omega)) with h3 | h3
      · exact h3
      · have := List.mem_singleton.1 h3; omega
     have e1 := h1_den s2
     refine (calls_sumsE (β := βS w F) (R := RS w b F most (h + 1) (K ++ [(h : Int) + 1]) (.tuple #[.int .i64 ((h : Int) + 1), .int .i64 0])) (g := gS) (L := oL z) (Rs := eS tk) (Ts := []) (pl := true) noCount noExt (sp8_ok w F) follows Try.func57 rfl (t_next z) hx hr (CRel_app.2 ⟨CRel_app.2 ⟨CRel_app.2 ⟨q, fHi_ok s2 (b := true) (decide_eq_true hlt)⟩, c1 (eqlF e1 (litD 0) (by omega)) c0'⟩, hcs⟩)
      (one (endS (x5' := ρ.I 5) hb hz s2 (hans _ _) s' (fun _ => rfl) (fun ρ' hle _ => by rw [h1_den (s2.of_le hle)]; rfl) (fun ρ' hle _ => put_den (s2.of_le hle) (h1_den (s2.of_le hle)) hK) (decL_encL _) (fun e ρ' hle _ => congrArg some ((hrow e).of_le hle).i6) (fun e ρ' hle _ => by show some (ρ'.I 5) = _; rw [hle.i]) (fun e => (hrow e).i5) (fun ρ' hle hG' => ?_)))).mono fun e w' ⟨y, he, hy, hst⟩ => ?_
     · exact tk_den (sbI (t := h1) (by cases z <;> rfl) (h1_den (s2.of_le hle))) (sbI (t := .lit 0) (by cases z <;> rfl) rfl)
     · refine ⟨by rw [he, hy, hn, if_neg (by omega)], ?_⟩
       rw [hn, if_neg (show ¬ (h : Int) + 1 = 0 by omega), show max h ((h : Int) + 1).toNat = h + 1 by omega]
       exact hst
   · have hn : lf most K = 0 := lf_zero fun i h1 h2 => by
      rcases (s2.s.mem (x := i)).2 ⟨h1, by omega⟩ with h3 | h3
      · cases h3
      · exact h3
     refine (calls_sumsE (β := βS w F) (R := RS w b F most h K (.tuple #[.int .i64 0, .int .i64 20])) (g := gS) (L := oL z) (Rs := eS tk) (Ts := []) (pl := true) noCount noExt (sp8_ok w F) follows Try.func57 rfl (t_full z) hx hr (CRel_app.2 ⟨CRel_app.2 ⟨q, fHi_ok s2 (b := false) (decide_eq_false hlt)⟩, hcs⟩)
      (one (endS (x4 := ρ.I 4) (x5' := ρ.I 5) hb hz s2 (hans _ _) s2.s (fun _ => rfl) (fun ρ' hle _ => congrArg some (s2.of_le hle).i3) (fun ρ' hle _ => by show some (ρ'.I 4) = _; rw [hle.i]) s2.i4 (fun e ρ' hle _ => congrArg some ((hrow e).of_le hle).i6) (fun e ρ' hle _ => by show some (ρ'.I 5) = _; rw [hle.i]) (fun e => (hrow e).i5) (fun ρ' hle hG' => ?_)))).mono fun e w' ⟨y, he, hy, hst⟩ => ?_
     · exact tk_den (sbI (t := .lit 0) (by cases z <;> rfl) rfl) (sbI (t := .lit 20) (by cases z <;> rfl) rfl)
     · refine ⟨by rw [he, hy, hn, if_pos rfl], ?_⟩
       rw [hn, if_pos rfl, show max h (0 : Int).toNat = h by simp]
       exact hst
 · obtain rfl : z = .row := Classical.byContradiction fun e => hB0 (hnil e)
   have r := hrow rfl
   have h0 : 0 < B.length := List.length_pos_iff.2 hB0
   have hbl := s2.bl
   obtain ⟨cap, h4, hcap⟩ := cap_of hr
   obtain ⟨s', hK, hn1, hn2, hall⟩ := s2.s.pop h0
   have hle := s2.s.le
   have hn : lf most K = at0 B 0 := lf_eq hn1 (by omega) hK fun i h1 h2 => by
    rcases List.mem_append.1 (hall i h1 (by omega)) with h3 | h3
    · exact h3
    · have := List.mem_singleton.1 h3; omega
   have hpl := (pop_ok s2.s.heap h0).1
   refine (calls_sumsE (β := βS w F) (R := RS w b F most h (K ++ [at0 B 0]) (.tuple #[.int .i64 (at0 B 0), .int .i64 0])) (g := gS) (L := oL .row) (Rs := eS tk) (Ts := []) (pl := true) noCount noExt (sp8_ok w F) follows Try.func57 rfl t_pop hx hr (CRel_app.2 ⟨CRel_app.2 ⟨CRel_app.2 ⟨f6_ok r (b := true) (decide_eq_true h0), fP_ok r h0 hbl h4 hcap⟩, c1 (eqlF (x5_den hG r s2 h0 hbl) (litD 0) (by omega)) c0'⟩, hcs⟩)
    (one (endS hb hz s2 (hans _ _) s' (fun e => absurd rfl e) (fun ρ' hle _ => congrArg some (s2.of_le hle).i3) (fun ρ' hle hG' => put_den (s2.of_le hle) (x5_den hG' (r.of_le hle) (s2.of_le hle) h0 hbl) hK) (decL_encL _) (fun _ ρ' hle _ => ?_) (fun _ ρ' hle hG' => by rw [dn5_den hG' (r.of_le hle) h0 hbl, hle.i]) (fun _ => ?_) (fun ρ' hle hG' => ?_)))).mono fun e w' ⟨y, he, hy, hst⟩ => ?_
   · rw [n6_den (r.of_le hle) h0 hbl, List.length_take, hpl, Nat.min_eq_left (Nat.sub_le _ _)]
   · rw [decL_encL, List.length_take, hpl, Nat.min_eq_left (Nat.sub_le _ _), List.take_append_of_le_length (by rw [hpl]; omega)]
   · exact tk_den (sbI (t := x5) rfl (x5_den hG' (r.of_le hle) (s2.of_le hle) h0 hbl)) (sbI (t := .lit 0) rfl rfl)
   · refine ⟨by rw [he, hy, hn, if_neg (by omega)], ?_⟩
     rw [hn, if_neg (show ¬ at0 B 0 = 0 by omega), show max h (at0 B 0).toNat = h by omega]
     exact hst
end Lp
end Go.Proofs.Ytighjgmgpphohaa
end
