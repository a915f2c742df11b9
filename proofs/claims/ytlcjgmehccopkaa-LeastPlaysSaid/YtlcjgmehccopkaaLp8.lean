/-
  Stocks (8): New and Clone.
-/
import Derived.Test.YtlcjgmehccopkaaLp7
namespace Go.Proofs.Ytlcjgmehccopkaa
open Go.Vm Go.Vm.Le
namespace Lp

-- A STOCK LAID ANEW
section
variable {w w' : World} {G : GP} {ρ : Env} {H : Heap} {most : Int} {h nl : Nat} {B K : List Int}
theorem new_ge (hr : HRel ⟨w, [], G⟩ ρ H nl w') {l y : Nat} {k : HB} (hl : H.get l = some k) (hk : k.rw = true) (hy : ρ.N l = some y) : w.heap.size ≤ y := by
  rcases hr.own l k y hl hk hy with h1 | ⟨l', hl', _⟩
  · exact h1
  · cases hl'
theorem newCells {v : AVal} (hr : HRel ⟨w, [], G⟩ ρ H nl w') (hg : H.get 10 = some (nB v)) (h0 : ρ.I 0 = most) (h3 : ρ.I 3 = (h : Int)) {vb : Value} (hv : v.den ρ = some vb) {bm : Nat} (h2 : ρ.N 11 = some bm) :
    ∃ b c fr, ρ.N 10 = some b ∧ w'.heap[b]? = some (.cells c 51 fr) ∧ c.toList = [.int .i64 most, .int .i64 h, vb, .map (some bm)] ∧ (fr.2 ≤ fr.1 ∨ c.size ≤ fr.1) := by
  obtain ⟨b, o, hb, ho, xs, c, fr, rfl, hd, hp, ht, hf⟩ := hr.blk 10 _ hg
  have e0 : (iV 0).den ρ = some (.int .i64 most) := by simp only [iV, AVal.den, IT.den, h0, Option.map_some]
  have e3 : (iV 3).den ρ = some (.int .i64 h) := by simp only [iV, AVal.den, IT.den, h3, Option.map_some]
  have e2 : (AVal.map 11).den ρ = some (.map (some bm)) := by simp only [AVal.den, h2, Option.map_some]
  simp only [AVal.denL, e0, e3, hv, e2, Option.some.injEq] at hd
  subst hd
  refine ⟨b, c, fr, hb, ho, ?_, hf rfl⟩
  obtain ⟨t, ht'⟩ := hp
  have hl : c.toList.length = 4 := by
    have : c.size = 4 := ht
    simpa using this
  rw [← ht'] at hl ⊢
  have : t = [] := by
    cases t with
    | nil => rfl
    | cons a t => simp at hl
  rw [this, List.append_nil]
theorem newMap (hr : HRel ⟨w, [], G⟩ ρ H nl w') (hg : H.get 11 = some nM) (h4 : decL (ρ.I 4) = usedL K) : ∃ bm es cl, ρ.N 11 = some bm ∧ w'.heap[bm]? = some (.map es cl) ∧ es.toList.map (fun e => (e.key, e.val)) = K.map (fun k => (Value.int .i64 k, Value.int .i64 1)) := by
  obtain ⟨bm, o, hbm, ho, x, es, cl, rfl, hx, he⟩ := hr.blk 11 _ hg
  refine ⟨bm, es, cl, hbm, ho, ?_⟩
  have hx : ρ.I 4 = x := Option.some.inj hx
  rw [← entOf_used, ← h4, hx]
  exact he
/-- A stock laid anew: its block, and where it lies. -/
def NewR (w w' : World) (b : Nat) (most : Int) (h : Nat) (K : List Int) : Prop := ∃ F', StockIn w' b F' most h K ∧ ∀ y, F' y → w.heap.size ≤ y
theorem new_none {v : AVal} (hr : HRel ⟨w, [], G⟩ ρ H nl w') (hg : H.get 10 = some (nB v)) (hg2 : H.get 11 = some nM) (h0 : ρ.I 0 = most) (h3 : ρ.I 3 = (h : Int)) (h4 : decL (ρ.I 4) = usedL K) {a : Option Addr} (hv : v.den ρ = some (.slice a 0 0)) (ha : ∀ p, a = some p → p.spot = none) (s : Stk most h [] K) (m0 : 0 ≤ most) (m1 : most ≤ 65535) :
    ∃ b, ρ.N 10 = some b ∧ NewR w w' b most h K := by
  obtain ⟨bm, es, cl, hbm, hom, he⟩ := newMap hr hg2 h4
  obtain ⟨b, c, fr, hb, hob, hc, hf⟩ := newCells hr hg h0 h3 hv hbm
  refine ⟨b, hb, fun y => y = b ∨ y = bm, ⟨⟨[], c, fr, .slice a 0 0, bm, es, cl, hob, hc, hf, hom, he, s, ?_, .inl ⟨a, rfl, ha, rfl, fun _ => Iff.rfl⟩⟩, m0, m1⟩, fun y hy => ?_⟩
  · intro e
    have := hr.inj 10 11 _ _ hg hg2 rfl (by rw [hb, hbm, e])
    cases this
  · rcases hy with rfl | rfl
    · exact new_ge hr hg rfl hb
    · exact new_ge hr hg2 rfl hbm
theorem new_row (hr : HRel ⟨w, [], G⟩ ρ H nl w') (hg : H.get 10 = some (nB (nv .row))) (hg2 : H.get 11 = some nM) (hgr : H.get 12 = some nR) (h0 : ρ.I 0 = most) (h3 : ρ.I 3 = (h : Int)) (h4 : decL (ρ.I 4) = usedL K) (h6 : ρ.I 6 = (B.length : Int)) (h5 : decL (ρ.I 5) = B) (s : Stk most h B K) (m0 : 0 ≤ most) (m1 : most ≤ 65535) :
    ∃ b, ρ.N 10 = some b ∧ NewR w w' b most h K := by
  obtain ⟨bm, es, cl, hbm, hom, he⟩ := newMap hr hg2 h4
  obtain ⟨b1, o1, hb1, ho1, xs, c1, fr1, el1, m1', st, rfl, hel, hd, hst, ⟨hsz, hp⟩, hn, hty, ⟨cap, hcap, hroom⟩, hf1⟩ := hr.blk 12 _ hgr
  obtain rfl : st = 0 := by have := Option.some.inj hst; exact (Int.ofNat.inj this).symm
  rw [List.drop_zero] at hp
  have hel := hel rfl
  subst hel
  have hx5 : xs = rowOf [.i64] (decL (ρ.I 5)) := (Option.some.inj hd).symm
  subst hx5
  have hv : (nv .row).den ρ = some (.slice (some ⟨b1, 0, none⟩) B.length cap) := den_slice_of hb1 rfl (congrArg some h6) hcap
  obtain ⟨b, c, fr, hb, hob, hc, hf⟩ := newCells hr hg h0 h3 hv hbm
  refine ⟨b, hb, fun y => y = b ∨ y = bm ∨ y = b1, ⟨⟨B, c, fr, _, bm, es, cl, hob, hc, hf, hom, he, s, ?_, .inr ⟨b1, cap, B, _, rfl, ho1, ⟨c1, fr1, rfl, by rw [← rowOf1, ← h5]; exact hp, ?_, hf1 rfl⟩, List.take_length, ?_, ?_, fun _ => Iff.rfl⟩⟩, m0, m1⟩, fun y hy => ?_⟩
  · intro e
    have := hr.inj 10 11 _ _ hg hg2 rfl (by rw [hb, hbm, e])
    cases this
  · have : c1.size - 0 = cap * 1 := hroom
    omega
  · intro e
    have := hr.inj 12 10 _ _ hgr hg rfl (by rw [hb1, hb, e])
    cases this
  · intro e
    have := hr.inj 12 11 _ _ hgr hg2 rfl (by rw [hb1, hbm, e])
    cases this
  · rcases hy with rfl | rfl | rfl
    · exact new_ge hr hg rfl hb
    · exact new_ge hr hg2 rfl hbm
    · exact new_ge hr hgr rfl hb1
end
-- THE RUNS
theorem ext_ok : ExtOk Try.prog xC := by
  intro g k h
  simp only [xC, Exts.get] at h
  cases hb : Nat.beq 23 g with
  | false => rw [hb] at h; cases h
  | true =>
    rw [hb] at h; cases h
    obtain rfl := Nat.eq_of_beq_eq_true hb
    exact ⟨_, Try.func23, rfl, by kernel_rfl, by kernel_rfl⟩
def kR (z : Bk) : Sub := ⟨[(0, .var 0), (3, .var 3)] ++ z.pick [] [] [(6, .var 6)] ++ [(4, .var 4)] ++ z.pick [] [] [(5, .var 5)], [], [], [], z.pick [(10, 6), (11, 5)] [(10, 7), (12, 5), (11, 6)] [(10, 8), (12, 6), (13, 5), (11, 7)]⟩
def cLH (z : Bk) : List (Nat × HB) := (cL z).map fun p => (p.1, ⟨p.2, false⟩)
theorem c_run (z : Bk) : (run Try.prog xC spC 4000 true 13 (entry Try.f13 (Try.f13.body.getD .ret) [me] (ofP (cLH z)) 5 (z.pick [] [] fC))).map (·.filterMap (sumMD gS [] (eN (.ptr 10 (.lit 0))) [])) = some [.done (qz z) [] (kR z)] ∨ z ≠ .row := by
  cases z with
  | row => exact .inl (by kernel_rfl)
  | nil => exact .inr (by simp)
  | zero => exact .inr (by simp)
theorem c_run0 (z : Bk) : (run Try.prog xC spC0 4000 true 13 (entry Try.f13 (Try.f13.body.getD .ret) [me] (ofP (cLH z)) 5 [])).map (·.filterMap (sumMD gS [] (eN (.ptr 10 (.lit 0))) [])) = some [.done (qz z) [] (kR z)] ∨ z = .row := by
  cases z with
  | row => exact .inr rfl
  | nil => exact .inl (by kernel_rfl)
  | zero => exact .inl (by kernel_rfl)
def kN : Sub := ⟨[(9, .lit 0), (0, .var 0), (3, .lit 0), (4, .lit 0)], [], [], [], [(10, 1), (11, 0)]⟩
theorem n_run : (run Try.prog xC spC0 4000 true 7 (entry Try.f7 (Try.f7.body.getD .ret) [iV 0] .leaf 0 fW)).map (·.filterMap (sumMD gS [] (eN (.tuple [.ptr 10 (.lit 0), iV 9])) [])) = some [.done 1 [] kN] := by kernel_rfl
theorem new7 (w : World) (most : Int) (m0 : 0 ≤ most) (m1 : most ≤ 65535) : Calls Try.prog 7 #[.int .i64 most] w (fun e w' => ∃ b, e = .returned (.tuple #[.pointer (some ⟨b, 0, none⟩), .int .i64 0]) ∧ NewR w w' b most 0 [] ∧ Framed w w') := by
  obtain ⟨ρ, hρ⟩ : ∃ ρ : Env, ρ = ⟨fun _ => most, fun _ => false, fun _ => default, fun _ => undef, fun _ => none, F0⟩ := ⟨_, rfl⟩
  have e0 : (IT.var 0).den ρ = some most := by rw [hρ]; rfl
  refine (calls_sumsE (β := .plain w) (R := fun x w' => ∃ b, x = .tuple #[.pointer (some ⟨b, 0, none⟩), .int .i64 0] ∧ NewR w w' b most 0 [] ∧ Framed w w') (g := gS) (L := []) (Rs := eN (.tuple [.ptr 10 (.lit 0), iV 9])) (Ts := []) (pl := true) noCount ext_ok (noSpB _) follows Try.func7 rfl n_run (denL1 (by simp only [iV, AVal.den, e0, Option.map_some])) (HRel.start w ρ fun i => by rw [hρ]) (c1 (lssF e0 (litD 0) m0) (c1 (gtrF e0 (litD 65535) m1) c0'))
    (one (doneR (T := ⟨[(0, .tuple [.ptr 10 (.lit 0), iV 9])], 1, hN .nil, 14, [], 0⟩) rfl (fun l hl => by cases hl) fun ρ' hle hG => ⟨trivial, c0', fun x w' r => ?_⟩))).mono fun e w' ⟨v, he, b, hv, h⟩ => ⟨b, by rw [he, hv], h⟩
  obtain ⟨y, hy, he⟩ := r.t 0 _ rfl
  obtain rfl : x = y := Option.some.inj he
  have i0 : (kN.app ρ').I 0 = most := sbI (t := .var 0) rfl (by show some (ρ'.I 0) = _; rw [hle.i, hρ])
  have i3 : (kN.app ρ').I 3 = ((0 : Nat) : Int) := sbI (t := .lit 0) rfl rfl
  have i4 : decL ((kN.app ρ').I 4) = usedL [] := by rw [sbI (t := .lit 0) rfl (litD 0)]; exact decL_zero
  obtain ⟨b, hb, hn⟩ := new_none (v := .sliceNil) r.h rfl rfl i0 i3 i4 (a := none) rfl (fun _ e => by cases e) (Stk.new m0) m0 m1
  refine ⟨b, ?_, hn, Framed.of r.h⟩
  have hp : (AVal.ptr 10 (.lit 0)).den (kN.app ρ') = some (.pointer (some ⟨b, 0, none⟩)) := by simp only [AVal.den, hb]; rfl
  have h9 := i9_den (ρ := kN.app ρ') (y := 0) (sbI (t := .lit 0) rfl rfl)
  simp only [AVal.den, AVal.denL] at hy hp h9
  rw [hp, h9] at hy
  exact (Option.some.inj hy).symm
section
variable {w : World} {b : Nat} {F : Nat → Prop} {most : Int} {h : Nat} {K : List Int}
theorem cloneEnd {B : List Int} {ρ : Env} (z : Bk) (h0 : ρ.I 0 = most) (h3 : ρ.I 3 = (h : Int)) (h4 : decL (ρ.I 4) = usedL K) (s : Stk most h B K) (m0 : 0 ≤ most) (m1 : most ≤ 65535) (hB : z ≠ .row → B = []) (h6 : z = .row → ρ.I 6 = (B.length : Int)) (h5 : z = .row → decL (ρ.I 5) = B) :
    MGoodO Try.prog (.plain w) 13 (fun x w' => ∃ b', x = .pointer (some ⟨b', 0, none⟩) ∧ NewR w w' b' most h K ∧ Framed w w') (eN (.ptr 10 (.lit 0))) [] ρ (.done (qz z) [] (kR z)) := by
  have hT : (eN (.ptr 10 (.lit 0)))[qz z]? = some ⟨[(0, .ptr 10 (.lit 0))], 1, hN z, 14, [], 0⟩ := by cases z <;> rfl
  refine doneR hT (fun l hl => by cases hl) fun ρ' hle hG => ⟨trivial, c0', fun x w' r => ?_⟩
  obtain ⟨y, hy, he⟩ := r.t 0 _ rfl
  obtain rfl : x = y := Option.some.inj he
  have i0 : ((kR z).app ρ').I 0 = most := sbI (t := .var 0) (by cases z <;> rfl) (by show some (ρ'.I 0) = _; rw [hle.i, h0])
  have i3 : ((kR z).app ρ').I 3 = (h : Int) := sbI (t := .var 3) (by cases z <;> rfl) (by show some (ρ'.I 3) = _; rw [hle.i, h3])
  have i4 : decL (((kR z).app ρ').I 4) = usedL K := by rw [sbI (t := .var 4) (x := ρ.I 4) (by cases z <;> rfl) (by show some (ρ'.I 4) = _; rw [hle.i])]; exact h4
  have fin : ∀ {b' : Nat}, ((kR z).app ρ').N 10 = some b' → x = .pointer (some ⟨b', 0, none⟩) := fun {b'} hb => by
    have hp : (AVal.ptr 10 (.lit 0)).den ((kR z).app ρ') = some (.pointer (some ⟨b', 0, none⟩)) := by simp only [AVal.den, hb]; rfl
    exact Option.some.inj (hy.symm.trans hp)
  cases z with
  | nil =>
    obtain rfl := hB (by simp)
    obtain ⟨b', hb, hn⟩ := new_none (v := .sliceNil) r.h rfl rfl i0 i3 i4 (a := none) rfl (fun _ e => by cases e) s m0 m1
    exact ⟨b', fin hb, hn, Framed.of r.h⟩
  | zero =>
    obtain rfl := hB (by simp)
    obtain ⟨vb, hvb⟩ : ∃ q, ((kR .zero).app ρ').N 12 = some q := by
      -- the new row's block is named in the stock's cells
      obtain ⟨b0, o0, _, _, xs, c, fr, _, hd, _⟩ := r.h.blk 10 _ (show (ofP (hN .zero)).get 10 = some (nB (nv .zero)) from rfl)
      cases h12 : ((kR .zero).app ρ').N 12 with
      | some q => exact ⟨q, rfl⟩
      | none =>
        exfalso
        have hz : (nv .zero).den ((kR .zero).app ρ') = none := by simp only [nv, AVal.den, h12]
        simp only [AVal.denL, hz] at hd
        split at hd
        · rename_i h1; split at h1
          · rename_i h2; cases h2
          · cases h1
        · cases hd
    obtain ⟨b', hb, hn⟩ := new_none (v := nv .zero) r.h rfl rfl i0 i3 i4 (a := some ⟨vb, 0, none⟩) (den_slice_of hvb rfl rfl rfl) (fun p e => by cases e; rfl) s m0 m1
    exact ⟨b', fin hb, hn, Framed.of r.h⟩
  | row =>
    have i6 : ((kR .row).app ρ').I 6 = (B.length : Int) := sbI (t := .var 6) rfl (by show some (ρ'.I 6) = _; rw [hle.i, h6 rfl])
    have i5 : decL (((kR .row).app ρ').I 5) = B := by rw [sbI (t := .var 5) (x := ρ.I 5) rfl (by show some (ρ'.I 5) = _; rw [hle.i])]; exact h5 rfl
    obtain ⟨b', hb, hn⟩ := new_row r.h rfl rfl rfl i0 i3 i4 i6 i5 s m0 m1
    exact ⟨b', fin hb, hn, Framed.of r.h⟩
end
end Lp
end Go.Proofs.Ytlcjgmehccopkaa
