/-
  Plans (7): what a plan's loops keep; how an event comes out.
-/
import Derived.Test.YthifhdckfcgbkaaGreatPf
namespace Go.Proofs.YthifhdckfcgbkaaGreat
open Go.Vm
namespace Pln

theorem CRel_app {ρ : Env} {a b : Cs} : CRel ρ (a ++ b) ↔ CRel ρ a ∧ CRel ρ b :=
  ⟨fun h => ⟨fun p hp => h p (List.mem_append.2 (.inl hp)), fun p hp => h p (List.mem_append.2 (.inr hp))⟩, fun h p hp => (List.mem_append.1 hp).elim (h.1 p) (h.2 p)⟩
structure Rt (A E P K S : Int) : Prop where
  a1 : 1 ≤ A
  a2 : A ≤ 64
  e1 : 0 ≤ E
  e2 : E ≤ 5000
  p1 : 1 ≤ P
  p2 : P ≤ 1000
  k1 : 1 ≤ K
  k2 : K ≤ 256
  s1 : 0 ≤ S
  s2 : S ≤ 100
def evN (e : Ev) : Nat → Int
  | 0 => e.s
  | 1 => e.k
  | 2 => e.w
  | 3 => e.o
  | 4 => e.n
  | 5 => e.c
  | 6 => e.y
  | 7 => e.a
  | _ => e.b
noncomputable def FE (A P K S : Int) : Nat → Int → Int → Int := fun k x y => if k = 50 then nxS x else if k = 51 then thS x y else if 60 ≤ k then evN (evS A P K S x) (k - 60) else 0
def NumP (A E P K S s : Int) : GP := fun I _ _ _ F => I 10 = s ∧ I 11 = A ∧ I 12 = E ∧ I 13 = P ∧ I 14 = K ∧ I 15 = S ∧ F = FE A P K S
def ef (s : IT) (j : Nat) : AVal := .int .i64 (.fn (60 + j) s (.lit 0))
theorem ef_den {ρ : Env} {A P K S : Int} (hF : ρ.F = FE A P K S) {s : IT} {x : Int} (hs : s.den ρ = some x) (j : Nat) : (IT.fn (60 + j) s (.lit 0)).den ρ = some (evN (evS A P K S x) j) := by
  simp only [IT.den, hs, hF, FE]
  rw [if_neg (by omega), if_neg (by omega), if_pos (by omega), Nat.add_sub_cancel_left]
theorem nx_denE {ρ : Env} {A P K S : Int} (hF : ρ.F = FE A P K S) {s : IT} {x : Int} (hs : s.den ρ = some x) : (IT.fn 50 s (.lit 0)).den ρ = some (nxS x) := by
  simp only [IT.den, hs, hF]; rfl
theorem tr_denE {ρ : Env} {A P K S : Int} (hF : ρ.F = FE A P K S) {s n : IT} {x y : Int} (hs : s.den ρ = some x) (hn : n.den ρ = some y) : (tr s n).den ρ = some (thS x y) := by
  simp only [tr, IT.den, hs, hn, hF]; rfl
def isP6 (l : List AVal) : Bool := AVal.beqL l pcells
def Ev.val (e : Ev) : Value := .agg e.cells.toArray
def JA (A : Int) : GP := fun I _ _ V _ => ∃ i : Nat, (i : Int) ≤ A ∧ I 0 = i ∧ I 1 = 2 * i ∧ V 0 = .agg (rowJ i).toArray
def JE (A E P K S s : Int) : GP := fun I _ _ V _ => ∃ i : Nat, (i : Int) ≤ E ∧ I 0 = i ∧ I 1 = 2 * A + i ∧ I 2 = seedS A P K S s i ∧ V 0 = .agg (rowE A P K S s i).toArray
/-- The row that is handed back. -/
def EvRow (A E P K S s : Int) (W : World) (x : Value) (w' : World) : Prop :=
  ∃ b cap : Nat, x = .slice (some ⟨b, 0, none⟩) (2 * A + E).toNat cap ∧ W.heap.size ≤ b ∧ RowAt w' b 0 k8 (2 * A + E).toNat (.agg (rowE A P K S s E.toNat).toArray) ∧ Framed W w'

section
variable {A E P K S s : Int}
theorem ev4 (h : thS (nxS s) 100 < S) (h2 : thS (nxS (nxS s)) 2 = 1) : evS A P K S s = ⟨nxS (nxS (nxS (nxS s))), 4, thS s A, thS (nxS (nxS (nxS s))) A, 0, 0, 0, 0, 0⟩ := by
  simp only [evS, if_pos h, if_pos h2]
theorem ev3 (h : thS (nxS s) 100 < S) (h2 : ¬ thS (nxS (nxS s)) 2 = 1) : evS A P K S s = ⟨nxS (nxS (nxS s)), 3, thS s A, 0, 0, 0, 0, 0, 0⟩ := by
  simp only [evS, if_pos h, if_neg h2]
theorem ev2 (h : ¬ thS (nxS s) 100 < S) (h2 : 98 ≤ thS (nxS s) 100) : evS A P K S s = ⟨nxS (nxS s), 2, thS s A, 0, 0, 0, 0, 0, 0⟩ := by
  simp only [evS, if_neg h, if_pos h2]
theorem ev0 (h : ¬ thS (nxS s) 100 < S) (h2 : ¬ 98 ≤ thS (nxS s) 100) (h3 : 95 ≤ thS (nxS s) 100) : evS A P K S s = ⟨nxS (nxS s), 0, thS s A, 0, 0, 0, 0, 0, 0⟩ := by
  simp only [evS, if_neg h, if_neg h2, if_pos h3]
theorem ev1 (h : ¬ thS (nxS s) 100 < S) (h2 : ¬ 98 ≤ thS (nxS s) 100) (h3 : ¬ 95 ≤ thS (nxS s) 100) (h4 : 80 ≤ thS (nxS s) 100) {c : Int} (hc : 1 + thS (nxS (nxS s)) 14 = c) {bk ba bb : Bool} (hk : useK c = bk) (ha : useA c = ba) (hb : useB c = bb) :
    evS A P K S s = (let s1 := nxS (nxS (nxS s)); let s2 := if bk then nxS s1 else s1; let s3 := if ba then nxS s2 else s2
      ⟨if bb then nxS s3 else s3, 1, thS s A, 0, 0, c, if bk then thS s1 K else 0, if ba then thS s2 4 else 0, if bb then thS s3 4 else 0⟩) := by
  simp only [evS, if_neg h, if_neg h2, if_neg h3, if_pos h4, opS, hc, hk, ha, hb]
theorem ev5 (h : ¬ thS (nxS s) 100 < S) (h4 : ¬ 80 ≤ thS (nxS s) 100) : evS A P K S s = ⟨nxS (nxS (nxS s)), 5, thS s A, 0, 1 + thS (nxS (nxS s)) P, 0, 0, 0, 0⟩ := by
  simp only [evS, if_neg h, if_neg (show ¬ 98 ≤ thS (nxS s) 100 by omega), if_neg (show ¬ 95 ≤ thS (nxS s) 100 by omega), if_neg h4]
theorem rowJ_len : ∀ i : Nat, (rowJ i).length = 2 * i * 8
  | 0 => rfl
  | i + 1 => by simp only [rowJ, cells8, List.length_append, rowJ_len i, List.length_cons, List.length_nil]; omega
theorem right_k {c : Int} (h : 1 ≤ c ∧ c ≤ 14) : rightB c 1 0 0 = useK c := by
  unfold rightB useK
  rw [Bool.eq_iff_iff, decide_eq_true_eq, decide_eq_true_eq]; omega
theorem right_a {c y : Int} (h : 1 ≤ c ∧ c ≤ 14) (hy : 0 ≤ y ∧ y ≤ 255) (hk : y = 0 ∨ useK c = true) : rightB c y 1 0 = useA c := by
  unfold rightB useA
  unfold useK at hk
  rw [decide_eq_true_eq] at hk
  rw [Bool.eq_iff_iff, decide_eq_true_eq, decide_eq_true_eq]; omega
theorem right_b {c y a : Int} (h : 1 ≤ c ∧ c ≤ 14) (hy : 0 ≤ y ∧ y ≤ 255) (hk : y = 0 ∨ useK c = true) (ha : 0 ≤ a ∧ a ≤ 1023) (hk2 : a = 0 ∨ useA c = true) : rightB c y a 1 = useB c := by
  unfold rightB useB
  unfold useK at hk
  unfold useA at hk2
  rw [decide_eq_true_eq] at hk hk2
  rw [Bool.eq_iff_iff, decide_eq_true_eq, decide_eq_true_eq]; omega
theorem planC_of {ρ : Env} (h : Rt A E P K S) (hG : (NumP A E P K S s).at ρ) : CRel ρ planC := by
  obtain ⟨g0, g1, g2, g3, g4, g5, _⟩ := hG
  have := h.a1; have := h.a2; have := h.e1; have := h.e2; have := h.p1; have := h.p2; have := h.k1; have := h.k2; have := h.s1; have := h.s2
  have ne : ∀ {x : Int}, 1 ≤ x → (x != 0) = true := fun h => by simp; omega
  simp only [planC, nz, ge, le, CRel_cons, CRel_nil, BT.den, IT.den, intCmp, g1, g2, g3, g4, g5, ne, h.a1, h.p1, h.k1, Option.some.injEq, decide_eq_true_eq, and_true, true_and]
  omega
theorem rngC_of {ρ : Env} (h0 : 0 ≤ ρ.I 0 ∧ ρ.I 0 ≤ 5000) (h1 : 0 ≤ ρ.I 1 ∧ ρ.I 1 ≤ 10000) : CRel ρ rngC := by
  simp only [rngC, ge, le, CRel_cons, CRel_nil, BT.den, IT.den, intCmp, Option.some.injEq, decide_eq_true_eq, and_true]
  omega
theorem v_snoc {ρ : Env} {l xs : List Value} {cs : List AVal} (h : ρ.V 0 = .agg l.toArray) (hx : AVal.denL ρ cs = some xs) : Value.agg (((AT.snoc (.var 0) cs).den ρ).getD []).toArray = .agg (l ++ xs).toArray := by
  simp only [AT.den, h, aggCells, hx, Option.getD_some]
theorem row_ret {W w' : World} {ρ : Env} {x : Value} {n : Nat} {l : List Value} (h : HRel ⟨W, [], NumP A E P K S s⟩ ρ (ofP [(0, rowB (.var 1) 1)]) 2 w') (hx : sl0.den ρ = some x) (hn : ρ.I 1 = n) (hv : ρ.V 0 = .agg l.toArray) :
    ∃ b cap : Nat, x = .slice (some ⟨b, 0, none⟩) n cap ∧ W.heap.size ≤ b ∧ RowAt w' b 0 k8 n (.agg l.toArray) ∧ Framed W w' := by
  obtain ⟨b, o, m, cap, rfl, hN, ho, hm, _⟩ := den_slice hx
  obtain ⟨b', ob, hb', hob, hr⟩ := h.blk 0 _ rfl
  rw [hN] at hb'; cases hb'
  obtain ⟨xs, c, fr, el, m', st, rfl, _, hd, hst, ⟨h4, h5⟩, hn', hty, _, _⟩ := hr
  simp only [IT.den, Option.some.injEq] at ho hm hst hn'
  have e1 : m = n := by rw [hn] at hm; exact (Int.ofNat.inj hm).symm
  have e2 : m' = n := by rw [hn] at hn'; exact (Int.ofNat.inj hn').symm
  have e3 : o = 0 := (Int.ofNat.inj ho).symm
  have e4 : st = 0 := (Int.ofNat.inj hst).symm
  subst e1 e3 e4
  subst e2
  refine ⟨b, cap, rfl, ?_, ⟨c, fr, el, xs, hob, ?_, h4, h5, hty⟩, Framed.of h⟩
  · rcases h.own 0 _ b rfl rfl hN with h1 | ⟨l', hl', _⟩
    · exact h1
    · cases hl'
  · simp only [AT.den, hv] at hd; exact hd
end
end Pln
end Go.Proofs.YthifhdckfcgbkaaGreat
