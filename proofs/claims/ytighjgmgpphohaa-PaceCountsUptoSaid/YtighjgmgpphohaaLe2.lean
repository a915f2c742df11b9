/- Least (1): container/heap's up and down, over the row of a stock: what they make of it. -/
import Derived.Test.YtighjgmgpphohaaVm24
import Derived.Test.YtighjgmgpphohaaVmF
import Derived.Test.YtighjgmgpphohaaVm27
section
namespace Go.Proofs.Ytighjgmgpphohaa
open Go.Vm Go.Vm.Le
theorem wrap_ok {x : Int} (h : -9223372036854775808 <= x) (h2 : x < 9223372036854775808) : IntKind.i64.wrap x = x := by
 rw [IntKind.wrap_i64]; omega
theorem den_lit {ρ : Env} (n : Int) : (IT.lit n).den ρ = some n := rfl
theorem den_var {ρ : Env} (i : Nat) : (IT.var i).den ρ = some (ρ.I i) := rfl
theorem CRel_app {ρ : Env} {a b : Cs} : CRel ρ (a ++ b) ↔ CRel ρ a /\ CRel ρ b :=
 ⟨fun h => ⟨fun p hp => h p (List.mem_append_left _ hp), fun p hp => h p (List.mem_append_right _ hp)⟩, fun h p hp => (List.mem_append.1 hp).elim (h.1 p) (h.2 p)⟩
abbrev pI : IT := .bin .quo .i64 (.bin .sub .i64 (.var 5) (.lit 1)) (.lit 2)
abbrev k1 : IT := .bin .add .i64 (.bin .mul .i64 (.lit 2) (.var 5)) (.lit 1)
abbrev k2 : IT := .bin .add .i64 k1 (.lit 1)
abbrev atT (x : IT) : IT := .un 0 (.var 4) (.elem (.lit 0) 1 0 x)
abbrev swT (x a y b : IT) : IT := .un 2 (.un 2 (.var 4) (.un 1 (.elem (.lit 0) 1 0 x) a)) (.un 1 (.elem (.lit 0) 1 0 y) b)
section
variable {ρ : Env}
theorem at_den {x : IT} {k : Nat} (h : x.den ρ = some (k : Int)) : (atT x).den ρ = some (at0 (decL (ρ.I 4)) k) := by
 simp only [IT.den, h, univ, Int.toNat_natCast, Nat.mul_one, Nat.add_zero, at0]
 simp
theorem sw_den {x y : IT} {i j : Nat} (hx : x.den ρ = some (i : Int)) (hy : y.den ρ = some (j : Int)) : (swT x (atT y) y (atT x)).den ρ = some (encL (swapL (decL (ρ.I 4)) i j)) := by
 simp only [IT.den, hx, hy, univ, decL_encL, Int.toNat_natCast, List.getD_cons_zero, List.getD_cons_succ, swapL]
 simp
theorem pI_den {j : Nat} (h : ρ.I 5 = (j : Int)) (hb : j <= 1000000) : pI.den ρ = some (((j - 1) / 2 : Nat) : Int) := by
 have e1 : IntKind.i64.wrap ((j : Int) - 1) = (j : Int) - 1 := wrap_ok (by omega) (by omega)
 have e2 : ((j : Int) - 1).tdiv 2 = (((j - 1) / 2 : Nat) : Int) := by
  cases j with
  | zero => decide
  | succ k =>
   have e3 : (((k + 1 : Nat) : Int) - 1) = (k : Int) := by omega
   rw [e3, Int.tdiv_eq_ediv_of_nonneg (by omega)]
   omega
 simp only [IT.den, intBin, h, e1, e2, Int.reduceEq, if_false]
 rw [wrap_ok (by omega) (by omega)]
theorem k1_den {j : Nat} (h : ρ.I 5 = (j : Int)) (hb : j <= 1000000) : k1.den ρ = some ((2 * j + 1 : Nat) : Int) := by
 have e1 : IntKind.i64.wrap (2 * (j : Int)) = 2 * (j : Int) := wrap_ok (by omega) (by omega)
 simp only [IT.den, intBin, h, e1]
 rw [wrap_ok (by omega) (by omega)]
 congr 1
theorem k2_den {j : Nat} (h : ρ.I 5 = (j : Int)) (hb : j <= 1000000) : k2.den ρ = some ((2 * j + 2 : Nat) : Int) := by
 have e := k1_den h hb
 unfold k1 at e
 simp only [k2, IT.den.eq_4, e, intBin, den_lit]
 rw [wrap_ok (by omega) (by omega)]
 congr 1
end
def stkB (len : IT) : HB := ⟨.cells [.var 6, .var 7, .slice 1 (.lit 0) len (.nv 2), .var 8] 103 none, false⟩
def rowB (c : IT) : HB := ⟨.arr (.code [.i64] c) [.i64] 3 (.var 3) (.lit 0) (some (.nv 2)), true⟩
def RowOb (L : List Int) (cap : Nat) (o : Obj) : Prop := ∃ c fr, o = .cells c 3 fr /\ rowOf [.i64] L <+: c.toList /\ c.size = cap /\ FrOk fr c.size
theorem rel_row {ρ : Env} {L : List Int} {cap : Nat} {o : Obj} {ct an : IT} {q : Nat} {x : Int} (h : RowOb L cap o) (hc : ct.den ρ = some x) (hx : decL x = L) (ha : an.den ρ = some (L.length : Int)) (hq : ρ.N q = some cap) :
 (ABlk.arr (.code [.i64] ct) [.i64] 3 an (.lit 0) (some (.nv q))).rel ρ true o := by
 obtain ⟨c, fr, ho, hp, hs, hf⟩ := h
 refine ⟨rowOf [.i64] L, c, fr, 3, L.length, 0, ho, fun _ => rfl, by simp only [AT.den, hc, Option.map_some, hx], rfl, ⟨Nat.zero_le _, by simpa using hp⟩, ha, rowOf_typed (by simp), ⟨cap, by simp only [IT.den, hq]; rfl, by simp [hs]⟩, fun _ => hf⟩
theorem row_rel {ρ : Env} {t : AT} {c an : IT} {q : Nat} {o : Obj} (h : (ABlk.arr t [.i64] 3 an (.lit 0) (some (.nv q))).rel ρ true o) (ht : t.codeT = some c) : ∃ x cap, c.den ρ = some x /\ an.den ρ = some ((decL x).length : Int) /\ ρ.N q = some cap /\ RowOb (decL x) cap o := by
 obtain ⟨xs, cs, fr, el, m, b, ho, hel, hd, hoff, ⟨hp1, hp2⟩, hn, hty, hroom, hf⟩ := h
 obtain ⟨y, hy, hdy⟩ := codeT_ok ht hd
 obtain ⟨cap, hcap, hsz⟩ := hroom
 have hb : b = 0 := by
  have e1 : some (0 : Int) = some (b : Int) := hoff
  have := Option.some.inj e1
  omega
 subst hb
 have hrow : rowOf [.i64] (decL y) = xs := by rw [hdy]; exact hty.rowOf.symm
 have hlen : (decL y).length = m := by rw [hdy, List.length_map, hty.1]; simp
 have hq : ρ.N q = some cap := by
  simp only [IT.den] at hcap
  cases hN : ρ.N q with
  | none => rw [hN] at hcap; cases hcap
  | some z =>
   rw [hN] at hcap
   have : Int.ofNat z = (cap : Int) := Option.some.inj hcap
   have e9 : Int.ofNat z = (z : Int) := rfl
   rw [e9] at this
   congr 1; omega
 refine ⟨y, cap, hy, by rw [hlen]; exact hn, hq, cs, fr, by rw [ho, hel rfl], by rw [hrow]; simpa using hp2, by simpa using hsz, hf rfl⟩
structure RStep (b1 cap : Nat) (L : List Int) (w w' : World) : Prop where
 obj : ∃ o', w'.heap[b1]? = some o' /\ RowOb L cap o'
 size : w.heap.size <= w'.heap.size
 frame : ∀ b, b < w.heap.size -> b ≠ b1 -> w'.heap[b]? = w.heap[b]?
 tape : w'.tape = w.tape
 os : w'.os = w.os
 out : w'.output = w.output
def G0 : GP := fun _ _ _ _ _ => True
theorem row_end {w w' : World} {ρ : Env} {H : Heap} {b1 cap : Nat} {L : List Int} (h : HRel ⟨w, (· = b1), G0⟩ ρ H 3 w') (hH : H.get 1 = some (rowB (.var 4))) (h1 : ρ.N 1 = some b1) (h2 : ρ.N 2 = some cap) (hL : decL (ρ.I 4) = L) : RStep b1 cap L w w' := by
 obtain ⟨b, o, hb, ho, hk⟩ := h.blk 1 _ hH
 rw [h1] at hb; cases hb
 obtain ⟨x, cap', hx, _, hq, hr⟩ := row_rel hk rfl
 rw [h2] at hq; cases hq
 have hx : ρ.I 4 = x := Option.some.inj hx
 rw [<- hx, hL] at hr
 refine ⟨⟨o, ho, hr⟩, h.size, fun b hb hne => h.frame b hb hne, h.tape, h.os, h.out⟩
theorem RStep.rel {β : Base} {ρ : Env} {H : Heap} {nl : Nat} {w w' : World} {b1 cap m q : Nat} {L : List Int} {k : HB} {ct an : IT} {x : Int} (s : RStep b1 cap L w w') (h : HRel β ρ H nl w) (hm : H.get m = some k) (hk : k.rw = true) (hN : ρ.N m = some b1)
 (hc : ct.den ρ = some x) (hx : decL x = L) (ha : an.den ρ = some (L.length : Int)) (hq : ρ.N q = some cap) : HRel β ρ (H.set m ⟨.arr (.code [.i64] ct) [.i64] 3 an (.lit 0) (some (.nv q)), true⟩) nl w' := by
 obtain ⟨o', ho', hd'⟩ := s.obj
 have hw := h.write (k' := ⟨.arr (.code [.i64] ct) [.i64] 3 an (.lit 0) (some (.nv q)), true⟩) (w' := { w with heap := w.heap.setIfInBounds b1 o' }) hm hk hN (rel_row hd' hc hx ha hq) rfl rfl rfl rfl
 have hblt := h.lt hm hN
 refine hw.framed ⟨by show (w.heap.setIfInBounds b1 o').size <= _; rw [Array.size_setIfInBounds]; exact s.size, fun c hcl => ?_, s.tape, s.os, s.out⟩
 show w'.heap[c]? = (w.heap.setIfInBounds b1 o')[c]?
 by_cases hcb : c = b1
 · subst hcb; rw [ho']; simp [hblt]
 · have hcl' : c < w.heap.size := by
    have h3 : c < (w.heap.setIfInBounds b1 o').size := hcl
    rwa [Array.size_setIfInBounds] at h3
   rw [s.frame c hcl' hcb, Array.getElem?_setIfInBounds]
   rw [if_neg (fun e => hcb e.symm)]
def gL : Gen := ⟨10, 0, 0, 1⟩
def csU : Cs := [(.cmp .leq (.var 2) (.lit 1000000), true), (.cmp .leq (.var 5) (.lit 1000000), true), (.cmp .geq (.var 5) (.lit 0), true), (.cmp .lss (.var 5) (.var 2), true), (.cmp .leq (.var 2) (.var 3), true)]
def csD : Cs := [(.cmp .leq (.var 2) (.lit 1000000), true), (.cmp .leq (.var 5) (.lit 1000000), true), (.cmp .geq (.var 5) (.lit 0), true), (.cmp .geq (.var 6) (.lit 0), true), (.cmp .lss (.var 5) (.var 2), true), (.cmp .lss (.var 6) (.var 2), true), (.cmp .leq (.var 2) (.var 3), true)]
def H2 : List (Nat × HB) := [(0, stkB (.var 2)), (1, rowB (.var 4))]
def hA : AVal := .iface 125 (.ptr 0 (.lit 2))
def vI (j : Nat) : AVal := .int .i64 (.var j)
def U0 : Tpl := ⟨[(0, hA), (1, vI 5)], 23, H2, 3, csU, 2⟩
def RU : Tpl := ⟨[(0, .tuple [])], 1, H2, 3, [], 0⟩
noncomputable def ub0 : Code := ((loopsOf (Try.f76.body.getD .ret) []).getD 0 (.ret, [])).1
noncomputable def uk0 : List Item := ((loopsOf (Try.f76.body.getD .ret) []).getD 0 (.ret, [])).2
noncomputable def sums_ue : List LM := [.next 0 (.code (.loop ub0) :: uk0) csU ⟨[(5, (.var 5)), (2, (.var 2)), (4, (.var 4)), (3, (.var 3))], [], [], [], [(0, 0), (1, 1), (2, 2)]⟩]
abbrev qle20 : BT × Bool := ((.cmp .eql pI (.var 5)), false)
abbrev qle21 : BT × Bool := ((.cmp .lss (.var 5) (.var 3)), true)
abbrev qle22 : BT × Bool := ((.cmp .lss pI (.var 3)), true)
abbrev qle23 : BT × Bool := ((.cmp .geq pI (.lit 0)), true)
abbrev qle24 : BT × Bool := ((.cmp .lss pI (.var 2)), true)
noncomputable def sums_u : List LM := [.done 0 ([((.cmp .eql pI (.var 5)), true)] ++ csU) ⟨[(2, (.var 2)), (4, (.var 4)), (3, (.var 3))], [], [], [], [(0, 0), (1, 1), (2, 2)]⟩,
 .stop ([((.cmp .lss pI (.var 2)), false), qle20] ++ csU),
 .stop ([((.cmp .geq pI (.lit 0)), false), qle20] ++ csU),
 .done 0 ([((.not (.cmp .lss (atT (.var 5)) (atT pI))), true), qle21, qle22, qle23, qle24, qle20] ++ csU) ⟨[(2, (.var 2)), (4, (.var 4)), (3, (.var 3))], [], [], [], [(0, 0), (1, 1), (2, 2)]⟩,
 .next 0 (.inLoop ub0 :: uk0) ([((.not (.cmp .lss (atT (.var 5)) (atT pI))), false), qle21, qle22, qle23, qle24, qle20] ++ csU) ⟨[(5, pI), (2, (.var 2)), (4, (swT pI (atT (.var 5)) (.var 5) (atT pI))), (3, (.var 3))], [], [], [], [(0, 0), (1, 1), (2, 2)]⟩,
 .done 0 ([((.not (.cmp .lss (atT (.var 5)) (atT pI))), true), qle22, qle21, qle23, qle24, qle20] ++ csU) ⟨[(2, (.var 2)), (4, (.var 4)), (3, (.var 3))], [], [], [], [(0, 0), (1, 1), (2, 2)]⟩,
 .next 0 (.inLoop ub0 :: uk0) ([((.not (.cmp .lss (atT (.var 5)) (atT pI))), false), qle22, qle21, qle23, qle24, qle20] ++ csU) ⟨[(5, pI), (2, (.var 2)), (4, (swT pI (atT (.var 5)) (.var 5) (atT pI))), (3, (.var 3))], [], [], [], [(0, 0), (1, 1), (2, 2)]⟩,
 .stop ([((.cmp .lss pI (.var 2)), false), qle21, qle20] ++ csU),
 .stop ([((.cmp .geq pI (.lit 0)), false), qle21, qle20] ++ csU),
 .done 0 ([((.not (.cmp .lss (atT (.var 5)) (atT pI))), true), qle22, qle23, qle24, qle21, qle20] ++ csU) ⟨[(2, (.var 2)), (4, (.var 4)), (3, (.var 3))], [], [], [], [(0, 0), (1, 1), (2, 2)]⟩,
 .next 0 (.inLoop ub0 :: uk0) ([((.not (.cmp .lss (atT (.var 5)) (atT pI))), false), qle22, qle23, qle24, qle21, qle20] ++ csU) ⟨[(5, pI), (2, (.var 2)), (4, (swT pI (atT (.var 5)) (.var 5) (atT pI))), (3, (.var 3))], [], [], [], [(0, 0), (1, 1), (2, 2)]⟩]
theorem run_ue : (run Try.prog [] noSp 4000 true 76 (entry Try.f76 (Try.f76.body.getD .ret) [hA, vI 5] (ofP H2) 3 csU)).map (·.filterMap (sumMO gL [0, 1, 2] [RU] [U0])) = some sums_ue := by kernel_rfl
theorem run_u : (run Try.prog [] noSp 4000 true 76 (U0.st (.code ub0 :: .inLoop ub0 :: uk0))).map (·.filterMap (sumMO gL [0, 1, 2] [RU] [U0])) = some sums_u := by kernel_rfl
def JU (n b1 cap : Nat) (L : List Int) : Env -> Prop := fun ρ => ρ.I 2 = n /\ ρ.I 3 = L.length /\ n <= L.length /\ n <= 1000000 /\ ρ.N 1 = some b1 /\ ρ.N 2 = some cap /\ ∃ j : Nat, ρ.I 5 = j /\ j < n /\ (decL (ρ.I 4)).length = L.length /\ upL (decL (ρ.I 4)) j = L
def UpR (b1 cap : Nat) (L : List Int) (w : World) : Value -> World -> Prop := fun v w' => v = .tuple #[] /\ RStep b1 cap L w w'
theorem ret_tuple {β : Base} {ρ : Env} {w' : World} {x : Value} (r : SRel β ρ (RU.st []) ⟨#[x], []⟩ w') : x = .tuple #[] := by
 obtain ⟨y, hy, hg⟩ := r.t 0 (.tuple []) rfl
 cases hy
 have : some x = some (Value.tuple #[]) := hg
 exact Option.some.inj this
theorem loop_u {w0 : World} {n b1 cap : Nat} {L : List Int} : ∀ ρ, JU n b1 cap L ρ -> ∀ todo a w, todo = .inLoop ub0 :: uk0 ∨ todo = .code (.loop ub0) :: uk0 -> SRel ⟨w0, (· = b1), G0⟩ ρ (U0.st todo) a w -> Goes Try.prog 76 (UpR b1 cap L w0) todo a w := by
 refine loop_goesO (β := ⟨w0, (· = b1), G0⟩) noCount noExt noSp_ok follows run_u (JU n b1 cap L) (fun ρ => (ρ.I 5).toNat) (fun ρ hJ hcs hG ih s hs => ?_)
 obtain ⟨j1, j2, j3, j4, j5, j6, j, j7, j8, j9, j10⟩ := hJ
 have hsw : ∀ ρ' : Env, ρ.Le ρ' -> ρ'.I = ρ.I /\ ρ'.N 1 = some b1 /\ ρ'.N 2 = some cap /\ pI.den ρ' = some (((j - 1) / 2 : Nat) : Int) := fun ρ' hle => ⟨hle.i, hle.n _ _ j5, hle.n _ _ j6, pI_den (by rw [hle.i]; exact j7) (by omega)⟩
 simp only [sums_u, List.mem_cons, List.not_mem_nil, or_false] at hs
 rcases hs with rfl | rfl | rfl | rfl | rfl | rfl | rfl | rfl | rfl | rfl | rfl
 all_goals
  first
   | (intro ρ' hle hc
      obtain ⟨e0, e1, e2, e3⟩ := hsw ρ' hle
      have d5 : (IT.var 5).den ρ' = some (j : Int) := by rw [den_var, e0, j7]
      have d2 : (IT.var 2).den ρ' = some (n : Int) := by rw [den_var, e0, j1]
      simp only [csU, List.cons_append, List.nil_append, CRel_cons, CRel_nil, and_true, BT.den, e3, d5, d2, den_lit, intCmp, Option.some.injEq, decide_eq_true_eq, decide_eq_false_iff_not, beq_eq_false_iff_ne, ne_eq] at hc
      omega)
   | (refine ⟨trivial, fun ρ' hle hc T hT hG' => ?_⟩
      obtain ⟨e0, e1, e2, e3⟩ := hsw ρ' hle
      have d5 : (IT.var 5).den ρ' = some (j : Int) := by rw [den_var, e0, j7]
      have a5 := at_den d5
      have a3 := at_den e3
      have hw := sw_den e3 d5
      rw [e0] at a5 a3 hw
      have hT : RU = T := by simpa using hT
      subst hT
      refine ⟨trivial, CRel_nil.2 trivial, fun x w' r => ⟨ret_tuple r, row_end r.h rfl ?_ ?_ ?_⟩⟩
      · exact e1
      · exact e2
      · show decL (ρ'.I 4) = L
        rw [e0, <- j10, upL]
        simp only [csU, List.cons_append, List.nil_append, CRel_cons, CRel_nil, and_true, BT.den, Option.map_some, Bool.not_eq_true', e3, d5, a5, a3, den_lit, intCmp, Option.some.injEq, decide_eq_true_eq, decide_eq_false_iff_not, beq_iff_eq, beq_eq_false_iff_ne, ne_eq] at hc
        split
        · rfl
        · first
           | (exfalso; omega)
           | (rw [if_neg (by omega)]))
   | (refine ⟨trivial, fun ρ' hle hc T hT hG' => ?_⟩
      obtain ⟨e0, e1, e2, e3⟩ := hsw ρ' hle
      have d5 : (IT.var 5).den ρ' = some (j : Int) := by rw [den_var, e0, j7]
      have a5 := at_den d5
      have a3 := at_den e3
      have hw := sw_den e3 d5
      rw [e0] at a5 a3 hw
      have hT : U0 = T := by simpa using hT
      subst hT
      simp only [csU, List.cons_append, List.nil_append, CRel_cons, CRel_nil, and_true, BT.den, Option.map_some, Bool.not_eq_false', e3, d5, a5, a3, den_lit, intCmp, Option.some.injEq, decide_eq_true_eq, beq_eq_false_iff_ne, ne_eq] at hc
      have i5 : ((swT pI (atT (.var 5)) (.var 5) (atT pI)).den ρ').getD 0 = encL (swapL (decL (ρ.I 4)) ((j - 1) / 2) j) := by rw [hw]; rfl
      have i3 : (pI.den ρ').getD 0 = (((j - 1) / 2 : Nat) : Int) := by rw [e3]; rfl
      have u2 : ρ'.I 2 = n := by rw [e0, j1]
      have u3 : ρ'.I 3 = L.length := by rw [e0, j2]
      refine ⟨trivial, ?_, fun a w r => ih _ ?_ ?_ _ a w (.inl rfl) r⟩
      · simp only [U0, csU, CRel_cons, CRel_nil, and_true, BT.den, den_lit, den_var, intCmp, Go.Vm.Sub.app, lk_cons, lk_nil, Nat.reduceEqDiff, if_true, if_false, i3, u2, u3, Option.getD_some, Option.some.injEq, decide_eq_true_eq, Nat.succ_ne_self]
        simp
        omega
      · show (((pI.den ρ').getD 0)).toNat < _
        rw [i3, j7]; omega
      · refine ⟨by show (((IT.var 2).den ρ').getD 0) = _; rw [den_var, u2]; rfl, by show (((IT.var 3).den ρ').getD 0) = _; rw [den_var, u3]; rfl, j3, j4, e1, e2, (j - 1) / 2, i3, by omega, ?_, ?_⟩
        · show (decL (((swT pI (atT (.var 5)) (.var 5) (atT pI)).den ρ').getD 0)).length = _
          rw [i5, decL_encL, swapL_length, j9]
        · show upL (decL (((swT pI (atT (.var 5)) (.var 5) (atT pI)).den ρ').getD 0)) _ = _
          rw [i5, decL_encL, <- j10]
          conv => rhs; rw [upL]
          rw [dif_neg (by omega), if_pos (by omega)])
end Go.Proofs.Ytighjgmgpphohaa
end
section
namespace Go.Proofs.Ytighjgmgpphohaa
open Go.Vm Go.Vm.Le
def RD : Tpl := ⟨[(0, .bool (.var 0))], 1, H2, 3, [], 0⟩
noncomputable def db0 : Code := ((loopsOf (Try.f74.body.getD .ret) []).getD 0 (.ret, [])).1
noncomputable def dk0 : List Item := ((loopsOf (Try.f74.body.getD .ret) []).getD 0 (.ret, [])).2
def csDe : Cs := [(.cmp .leq (.var 2) (.lit 1000000), true), (.cmp .geq (.var 6) (.lit 0), true), (.cmp .lss (.lit 0) (.var 2), true), (.cmp .lss (.var 6) (.var 2), true), (.cmp .leq (.var 2) (.var 3), true)]
def D0 : Tpl := ⟨[(0, hA), (1, .int .i64 (.lit 0)), (2, vI 6), (6, .bool (.lit false)), (7, vI 5)], 48, H2, 3, csD, 3⟩
def fk (x : IT) : Cs := [(.cmp .geq x (.lit 0), true), (.cmp .lss x (.var 2), true), (.cmp .lss x (.var 3), true)]
def ltT (x y : IT) (b : Bool) : Cs := [(.cmp .lss (atT x) (atT y), b), (.not (.cmp .lss (atT x) (atT y)), !b)]
def fBs : Cs := [(.cmp .geq k1 (.var 6), false), (.cmp .lss k1 (.lit 0), false), (.cmp .lss (.var 5) (.var 3), true)] ++ fk k1
def wA : Cs := [(.cmp .geq k1 (.var 6), true)]
def wB (b : Bool) : Cs := fBs ++ [(.cmp .lss k2 (.var 6), false)] ++ ltT k1 (.var 5) b
def wC (b : Bool) : Cs := fBs ++ [(.cmp .lss k2 (.var 6), true)] ++ fk k2 ++ ltT k2 k1 true ++ ltT k2 (.var 5) b
def wD (b : Bool) : Cs := fBs ++ [(.cmp .lss k2 (.var 6), true)] ++ fk k2 ++ ltT k2 k1 false ++ ltT k1 (.var 5) b
def sgD : Sub := ⟨[(2, (.var 2)), (4, (.var 4)), (3, (.var 3))], [(0, (.cmp .gtr (.var 5) (.lit 0)))], [], [], [(0, 0), (1, 1), (2, 2)]⟩
def sgN (k : IT) : Sub := ⟨[(6, (.var 6)), (5, k), (2, (.var 2)), (4, swT (.var 5) (atT k) k (atT (.var 5))), (3, (.var 3))], [], [], [], [(0, 0), (1, 1), (2, 2)]⟩
noncomputable def RunD (c : Cs) (s : LM) : Prop := (run Try.prog [] noSp 4000 true 74 ((⟨D0.tm, D0.nt, D0.H, D0.nl, c ++ csD, D0.dep⟩ : Tpl).st (.code db0 :: .inLoop db0 :: dk0))).map (·.filterMap (sumMO gL [0, 1, 2] [RD] [D0])) = some [s]
theorem rdA : RunD wA (.done 0 (wA ++ csD) sgD) := by unfold RunD; kernel_rfl
theorem rdB0 : RunD (wB false) (.done 0 (wB false ++ csD) sgD) := by unfold RunD; kernel_rfl
theorem rdB1 : RunD (wB true) (.next 0 (.inLoop db0 :: dk0) (wB true ++ csD) (sgN k1)) := by unfold RunD; kernel_rfl
theorem rdC0 : RunD (wC false) (.done 0 (wC false ++ csD) sgD) := by unfold RunD; kernel_rfl
theorem rdC1 : RunD (wC true) (.next 0 (.inLoop db0 :: dk0) (wC true ++ csD) (sgN k2)) := by unfold RunD; kernel_rfl
theorem rdD0 : RunD (wD false) (.done 0 (wD false ++ csD) sgD) := by unfold RunD; kernel_rfl
theorem rdD1 : RunD (wD true) (.next 0 (.inLoop db0 :: dk0) (wD true ++ csD) (sgN k1)) := by unfold RunD; kernel_rfl
theorem run_de : (run Try.prog [] noSp 4000 true 74 (entry Try.f74 (Try.f74.body.getD .ret) [hA, .int .i64 (.lit 0), vI 6] (ofP H2) 3 csDe)).map (·.filterMap (sumMO gL [0, 1, 2] [RD] [D0])) = some [.next 0 (.code (.loop db0) :: dk0) csDe ⟨[(6, (.var 6)), (5, (.lit 0)), (2, (.var 2)), (4, (.var 4)), (3, (.var 3))], [], [], [], [(0, 0), (1, 1), (2, 2)]⟩] := by kernel_rfl
def JD (n m b1 cap : Nat) (L : List Int) : Env -> Prop := fun ρ => ρ.I 2 = n /\ ρ.I 3 = L.length /\ n <= L.length /\ n <= 1000000 /\ ρ.I 6 = m /\ m < n /\ ρ.N 1 = some b1 /\ ρ.N 2 = some cap /\ ∃ j : Nat, ρ.I 5 = j /\ j < n /\ (decL (ρ.I 4)).length = L.length /\ downL (decL (ρ.I 4)) j m = L
def DnR (b1 cap : Nat) (L : List Int) (w : World) : Value -> World -> Prop := fun v w' => (∃ b, v = .bool b) /\ RStep b1 cap L w w'
theorem ret_bool {β : Base} {ρ : Env} {w' : World} {x : Value} (r : SRel β ρ (RD.st []) ⟨#[x], []⟩ w') : ∃ b, x = .bool b := by
 obtain ⟨y, hy, hg⟩ := r.t 0 (.bool (.var 0)) rfl
 cases hy
 have : some x = some (Value.bool (ρ.B 0)) := hg
 exact ⟨_, Option.some.inj this⟩
theorem kid_2 {l : List Int} {i m : Nat} (h1 : 2 * i + 2 < m) (h2 : at0 l (2 * i + 2) < at0 l (2 * i + 1)) : kid l i m = 2 * i + 2 := if_pos ⟨h1, h2⟩
theorem kid_1 {l : List Int} {i m : Nat} (h : m <= 2 * i + 2 ∨ at0 l (2 * i + 1) <= at0 l (2 * i + 2)) : kid l i m = 2 * i + 1 := if_neg (by omega)
theorem down_end {l : List Int} {i m : Nat} (h : m <= 2 * i + 1) : downL l i m = l := by rw [downL, dif_pos h]
theorem down_stay {l : List Int} {i m k : Nat} (hk : kid l i m = k) (h : at0 l i <= at0 l k) : downL l i m = l := by
 rw [downL]
 split
 · rfl
 · rw [hk, if_neg (by omega)]
theorem down_go {l : List Int} {i m k : Nat} (h0 : 2 * i + 1 < m) (hk : kid l i m = k) (h : at0 l k < at0 l i) : downL l i m = downL (swapL l i k) k m := by
 conv => lhs; rw [downL]
 rw [dif_neg (by omega), hk, if_pos h]
section
variable {ρ : Env} {n m j : Nat} {L : List Int}
structure DenD (ρ : Env) (n m j : Nat) (L : List Int) : Prop where
 k1 : k1.den ρ = some ((2 * j + 1 : Nat) : Int)
 k2 : k2.den ρ = some ((2 * j + 2 : Nat) : Int)
 d5 : (IT.var 5).den ρ = some (j : Int)
 d2 : (IT.var 2).den ρ = some (n : Int)
 d3 : (IT.var 3).den ρ = some (L.length : Int)
 d6 : (IT.var 6).den ρ = some (m : Int)
theorem fk_ok (d : DenD ρ n m j L) {x : IT} {k : Nat} (hx : x.den ρ = some (k : Int)) (h1 : k < n) (h2 : k < L.length) : CRel ρ (fk x) := by
 simp only [fk, CRel_cons, CRel_nil, and_true, BT.den, hx, d.d2, d.d3, den_lit, intCmp, Option.some.injEq, decide_eq_true_eq]
 omega
theorem ltT_ok {x y : IT} {k i : Nat} (hx : x.den ρ = some (k : Int)) (hy : y.den ρ = some (i : Int)) : CRel ρ (ltT x y (decide (at0 (decL (ρ.I 4)) k < at0 (decL (ρ.I 4)) i))) := by
 simp only [ltT, CRel_cons, CRel_nil, and_true, BT.den, at_den hx, at_den hy, intCmp, Option.map_some]
theorem fBs_ok (d : DenD ρ n m j L) (h1 : 2 * j + 1 < m) (h2 : m < n) (h3 : n <= L.length) : CRel ρ fBs := by
 refine CRel_app.2 ⟨?_, fk_ok d d.k1 (by omega) (by omega)⟩
 simp only [CRel_cons, CRel_nil, and_true, BT.den, d.k1, d.d6, d.d5, d.d3, den_lit, intCmp, Option.some.injEq, decide_eq_true_eq, decide_eq_false_iff_not]
 omega
theorem lt6_ok (d : DenD ρ n m j L) {b : Bool} (h : decide (2 * j + 2 < m) = b) : CRel ρ [(.cmp .lss k2 (.var 6), b)] := by
 simp only [CRel_cons, CRel_nil, and_true, BT.den, d.k2, d.d6, intCmp, Option.some.injEq]
 rw [<- h]
 exact decide_eq_decide.2 (by omega)
end
section
variable {w0 : World} {n m b1 cap : Nat} {L : List Int} {ρ : Env} {j : Nat}
theorem leaf_same (j5 : ρ.N 1 = some b1) (j6 : ρ.N 2 = some cap) (hd : decL (ρ.I 4) = L) (cs : Cs) : MGoodO Try.prog ⟨w0, (· = b1), G0⟩ 74 (DnR b1 cap L w0) [RD] [D0] ρ (.done 0 cs sgD) := by
 refine ⟨trivial, fun ρ' hle _ T hT hG' => ?_⟩
 have hT : RD = T := by simpa using hT
 subst hT
 refine ⟨trivial, CRel_nil.2 trivial, fun x w' r => ⟨ret_bool r, row_end r.h rfl (hle.n _ _ j5) (hle.n _ _ j6) ?_⟩⟩
 show decL (ρ'.I 4) = L
 rw [hle.i, hd]
theorem leaf_next (d : DenD ρ n m j L) (j3 : n <= L.length) (j4 : n <= 1000000) (jm2 : m < n) (j5 : ρ.N 1 = some b1) (j6 : ρ.N 2 = some cap) (j9 : (decL (ρ.I 4)).length = L.length) (j10 : downL (decL (ρ.I 4)) j m = L) {kT : IT} {k : Nat} (hk : ∀ ρ', ρ.Le ρ' -> kT.den ρ' = some (k : Int))
 (hkid : kid (decL (ρ.I 4)) j m = k) (hjk : j < k) (hkm : k < m) (hlt : at0 (decL (ρ.I 4)) k < at0 (decL (ρ.I 4)) j) (h2 : 2 * j + 1 < m) (cs : Cs)
 (ih : ∀ ρ', n - (ρ'.I 5).toNat < n - (ρ.I 5).toNat -> JD n m b1 cap L ρ' -> ∀ todo a w, todo = .inLoop db0 :: dk0 ∨ todo = .code (.loop db0) :: dk0 -> SRel ⟨w0, (· = b1), G0⟩ ρ' (D0.st todo) a w -> Goes Try.prog 74 (DnR b1 cap L w0) todo a w) :
 MGoodO Try.prog ⟨w0, (· = b1), G0⟩ 74 (DnR b1 cap L w0) [RD] [D0] ρ (.next 0 (.inLoop db0 :: dk0) cs (sgN kT)) := by
 refine ⟨trivial, fun ρ' hle _ T hT hG' => ?_⟩
 have hT : D0 = T := by simpa using hT
 subst hT
 have e0 : ρ'.I = ρ.I := hle.i
 have d5 : (IT.var 5).den ρ' = some (j : Int) := by rw [den_var, e0]; exact d.d5
 have d2 : (IT.var 2).den ρ' = some (n : Int) := by rw [den_var, e0]; exact d.d2
 have d3 : (IT.var 3).den ρ' = some (L.length : Int) := by rw [den_var, e0]; exact d.d3
 have d6 : (IT.var 6).den ρ' = some (m : Int) := by rw [den_var, e0]; exact d.d6
 have hw := sw_den d5 (hk ρ' hle)
 rw [e0] at hw
 have I5 : ((sgN kT).app ρ').I 5 = (k : Int) := by show (kT.den ρ').getD 0 = _; rw [hk ρ' hle]; rfl
 have I2 : ((sgN kT).app ρ').I 2 = (n : Int) := by show ((IT.var 2).den ρ').getD 0 = _; rw [d2]; rfl
 have I3 : ((sgN kT).app ρ').I 3 = (L.length : Int) := by show ((IT.var 3).den ρ').getD 0 = _; rw [d3]; rfl
 have I6 : ((sgN kT).app ρ').I 6 = (m : Int) := by show ((IT.var 6).den ρ').getD 0 = _; rw [d6]; rfl
 have I4 : ((sgN kT).app ρ').I 4 = encL (swapL (decL (ρ.I 4)) j k) := by show ((swT (.var 5) (atT kT) kT (atT (.var 5))).den ρ').getD 0 = _; rw [hw]; rfl
 have hj : ρ.I 5 = (j : Int) := Option.some.inj d.d5
 refine ⟨trivial, ?_, fun a w r => ih _ ?_ ⟨I2, I3, j3, j4, I6, jm2, hle.n _ _ j5, hle.n _ _ j6, k, I5, by omega, by rw [I4, decL_encL, swapL_length, j9], by rw [I4, decL_encL, <- j10, down_go h2 hkid hlt]⟩ _ a w (.inl rfl) r⟩
 · simp only [D0, csD, CRel_cons, CRel_nil, and_true, BT.den, den_lit, den_var, intCmp, I2, I3, I5, I6, Option.some.injEq, decide_eq_true_eq]
   omega
 · rw [I5, hj]; omega
end
theorem loop_d {w0 : World} {n m b1 cap : Nat} {L : List Int} : ∀ ρ, JD n m b1 cap L ρ -> ∀ todo a w, todo = .inLoop db0 :: dk0 ∨ todo = .code (.loop db0) :: dk0 -> SRel ⟨w0, (· = b1), G0⟩ ρ (D0.st todo) a w -> Goes Try.prog 74 (DnR b1 cap L w0) todo a w := by
 refine loop_goesW (n := 4000) (Ts := [D0]) (Rs := [RD]) (pl := true) (L := [0, 1, 2]) (g := gL) (β := ⟨w0, (· = b1), G0⟩) noCount noExt noSp_ok follows (JD n m b1 cap L) (fun ρ => n - (ρ.I 5).toNat) (fun ρ hJ hcs hG ih => ?_)
 obtain ⟨j1, j2, j3, j4, jm, jm2, j5, j6, j, j7, j8, j9, j10⟩ := hJ
 have d : DenD ρ n m j L := ⟨k1_den j7 (by omega), k2_den j7 (by omega), by rw [den_var, j7], by rw [den_var, j1], by rw [den_var, j2], by rw [den_var, jm]⟩
 have hk1 : ∀ ρ', ρ.Le ρ' -> k1.den ρ' = some ((2 * j + 1 : Nat) : Int) := fun ρ' hle => k1_den (by rw [hle.i]; exact j7) (by omega)
 have hk2 : ∀ ρ', ρ.Le ρ' -> k2.den ρ' = some ((2 * j + 2 : Nat) : Int) := fun ρ' hle => k2_den (by rw [hle.i]; exact j7) (by omega)
 have one : ∀ {s : LM} {Q : LM -> Prop}, Q s -> ∀ x ∈ [s], Q x := fun h x hx => by rw [List.mem_singleton.1 hx]; exact h
 by_cases c1 : m <= 2 * j + 1
 · refine ⟨_, _, CRel_app.2 ⟨?_, hcs⟩, rdA, one (leaf_same j5 j6 (by rw [<- j10, down_end c1]) _)⟩
   simp only [wA, CRel_cons, CRel_nil, and_true, BT.den, d.k1, d.d6, intCmp, Option.some.injEq, decide_eq_true_eq]
   omega
 · have hb := fBs_ok d (by omega) jm2 j3
   by_cases c2 : 2 * j + 2 < m
   · have h6 := lt6_ok d (b := true) (by simpa using c2)
     have hf2 := fk_ok d d.k2 (by omega) (by omega)
     have hkk := ltT_ok d.k2 d.k1
     by_cases c3 : at0 (decL (ρ.I 4)) (2 * j + 2) < at0 (decL (ρ.I 4)) (2 * j + 1)
     · rw [decide_eq_true c3] at hkk
       have h5 := ltT_ok d.k2 d.d5
       by_cases c4 : at0 (decL (ρ.I 4)) (2 * j + 2) < at0 (decL (ρ.I 4)) j
       · rw [decide_eq_true c4] at h5
         exact ⟨_, _, CRel_app.2 ⟨CRel_app.2 ⟨CRel_app.2 ⟨CRel_app.2 ⟨CRel_app.2 ⟨hb, h6⟩, hf2⟩, hkk⟩, h5⟩, hcs⟩, rdC1, one (leaf_next d j3 j4 jm2 j5 j6 j9 j10 hk2 (kid_2 c2 c3) (by omega) (by omega) c4 (by omega) _ ih)⟩
       · rw [decide_eq_false c4] at h5
         exact ⟨_, _, CRel_app.2 ⟨CRel_app.2 ⟨CRel_app.2 ⟨CRel_app.2 ⟨CRel_app.2 ⟨hb, h6⟩, hf2⟩, hkk⟩, h5⟩, hcs⟩, rdC0, one (leaf_same j5 j6 (by rw [<- j10, down_stay (kid_2 c2 c3) (by omega)]) _)⟩
     · rw [decide_eq_false c3] at hkk
       have h5 := ltT_ok d.k1 d.d5
       by_cases c4 : at0 (decL (ρ.I 4)) (2 * j + 1) < at0 (decL (ρ.I 4)) j
       · rw [decide_eq_true c4] at h5
         exact ⟨_, _, CRel_app.2 ⟨CRel_app.2 ⟨CRel_app.2 ⟨CRel_app.2 ⟨CRel_app.2 ⟨hb, h6⟩, hf2⟩, hkk⟩, h5⟩, hcs⟩, rdD1, one (leaf_next d j3 j4 jm2 j5 j6 j9 j10 hk1 (kid_1 (by omega)) (by omega) (by omega) c4 (by omega) _ ih)⟩
       · rw [decide_eq_false c4] at h5
         exact ⟨_, _, CRel_app.2 ⟨CRel_app.2 ⟨CRel_app.2 ⟨CRel_app.2 ⟨CRel_app.2 ⟨hb, h6⟩, hf2⟩, hkk⟩, h5⟩, hcs⟩, rdD0, one (leaf_same j5 j6 (by rw [<- j10, down_stay (kid_1 (by omega)) (by omega)]) _)⟩
   · have h6 := lt6_ok d (b := false) (by simpa using c2)
     have h5 := ltT_ok d.k1 d.d5
     by_cases c4 : at0 (decL (ρ.I 4)) (2 * j + 1) < at0 (decL (ρ.I 4)) j
     · rw [decide_eq_true c4] at h5
       exact ⟨_, _, CRel_app.2 ⟨CRel_app.2 ⟨CRel_app.2 ⟨hb, h6⟩, h5⟩, hcs⟩, rdB1, one (leaf_next d j3 j4 jm2 j5 j6 j9 j10 hk1 (kid_1 (by omega)) (by omega) (by omega) c4 (by omega) _ ih)⟩
     · rw [decide_eq_false c4] at h5
       exact ⟨_, _, CRel_app.2 ⟨CRel_app.2 ⟨CRel_app.2 ⟨hb, h6⟩, h5⟩, hcs⟩, rdB0, one (leaf_same j5 j6 (by rw [<- j10, down_stay (kid_1 (by omega)) (by omega)]) _)⟩
end Go.Proofs.Ytighjgmgpphohaa
end
