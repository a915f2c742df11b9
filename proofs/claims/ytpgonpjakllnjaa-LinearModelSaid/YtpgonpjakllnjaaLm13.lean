/-
  LinearModel (13): ContainsFunc over an order: none is refused, none is ahead of one that stands before it.
-/
import Derived.Test.YtpgonpjakllnjaaLm12
namespace Go.Proofs.Ytpgonpjakllnjaa
open Go.Vm Go.Vm.Md
namespace Lm

-- NONE THAT STANDS BEFORE
def fn56 : AVal := .func (.func 56) [] [.ptr 4 (.lit 0), .ptr 5 (.lit 0)]
def bx5 : Nat × ABlk := (5, .cells [iV 10] 3 none)
def csM : Cs := [(.cmp .lss (.var 8) (.var 6), true)] ++ csA
def csM1 : Cs := [(.cmp .geq at0 (.lit 0), true), (.cmp .leq at0 (.var 8), true)] ++ csM
def T6 : Tpl := ⟨[(0, sO (.var 8)), (1, fn56), (6, sO (.var 8)), (7, .int .i64 (.var 8)), (8, iV 9)], 19, roH [hA0, hA1, bx4, bx5], 10, csM1, 3⟩
def fM (b : Bool) : Cs := [(.cmp .lss at0 (.var 8), b)]
def go6 : Cs := fM true ++ inH (iT at0) ++ inH (.var 10) ++ [(.cmp .geq (cell (.var 10) 8) (.lit 0), true), (.cmp .lss (cell (.var 10) 8) (cell (iT at0) 7), false)]
def sg6 (t : IT) : Sub := ⟨[(8, .var 8), (9, t), (7, .var 7), (6, .var 6), (10, .var 10)], [], [], [], [(1, 1), (3, 3), (4, 4), (5, 5), (0, 0), (2, 2)]⟩
theorem r6_in : (run Try.prog [] (spL []) 4000 true 67 (entry Try.f67 (Try.f67.body.getD .ret) [sO (.var 8), fn56] (ofP (roH [hA0, hA1, bx4, bx5])) 10 csM)).map (·.filterMap (sumD gM [T6])) = some [.next 0 (.code (.loop b67) :: k67) [] (sg6 (.lit 0))] := by kernel_rfl
theorem r6_go : (run Try.prog [] (spL []) 4000 true 67 ((⟨T6.tm, T6.nt, T6.H, T6.nl, go6 ++ T6.cs, T6.dep⟩ : Tpl).st (.code b67 :: .inLoop b67 :: k67))).map (·.filterMap (sumD gM [T6])) = some [.next 0 (.inLoop b67 :: k67) [] (sg6 (upI 9))] := by kernel_rfl
theorem r6_end : (run Try.prog [] (spL []) 4000 true 67 ((⟨T6.tm, T6.nt, T6.H, T6.nl, fM false ++ T6.cs, T6.dep⟩ : Tpl).st (.code b67 :: .inLoop b67 :: k67))).map (·.filterMap (sumD gM [T6])) = some [.ret (.int .i64 (.lit (-1))) []] := by kernel_rfl
structure JM (x y : Int) (n m i : Nat) (ρ : Env) : Prop where
  j : JH x y n i ρ
  i8 : ρ.I 8 = (m : Int)
  i10 : ρ.I 10 = (m : Int)
  im : i ≤ m
  mn : m < n
section
variable {x y : Int} {n m i : Nat} {ρ : Env}
theorem JM.of_le {ρ' : Env} (h : JM x y n m i ρ) (g : ρ.Le ρ') : JM x y n m i ρ' := ⟨h.j.of_le g, by rw [g.i]; exact h.i8, by rw [g.i]; exact h.i10, h.im, h.mn⟩
theorem JM.cs (h : JM x y n m i ρ) (hG : GW.at ρ) : CRel ρ csM1 := by
  have := h.im; have := h.mn
  exact c1 (geqT (varD h.j.i9) (litD 0) (by omega)) (c1 (leqT (varD h.j.i9) (varD h.i8) (by omega)) (c1 (lssT (varD h.i8) (varD h.j.i6) (by omega)) (csA_ok h.j.i5 h.j.i6 h.j.i7 h.j.g hG)))
theorem JM.lt (h : JM x y n m i ρ) {b : Bool} (hb : decide (i < m) = b) : CRel ρ (fM b) := by
  have e : (BT.cmp .lss at0 (.var 8)).den ρ = some b := by
    rw [show at0 = IT.var 9 from rfl, cmpD (varD h.j.i9) (varD h.i8)]
    simp only [intCmp, Option.some.injEq]
    rw [← hb, decide_eq_decide]; omega
  exact c1 e c0
end
theorem idx56 {w : World} {x y : Int} {n b0 b1 q0 q1 b4 b5 m : Nat} (hs : Hs w b0 b1 x y n) (h4 : BoxAt w b4 22 (.slice (some ⟨b0, 0, none⟩) n q0)) (h5 : BoxAt w b5 3 (.int .i64 (m : Int))) (hm : m < n) :
    Calls Try.prog 67 #[.slice (some ⟨b1, 0, none⟩) m q1, .func (.func 56) #[] #[.pointer (some ⟨b4, 0, none⟩), .pointer (some ⟨b5, 0, none⟩)]] w fun e w' => e = .returned (.int .i64 (-1)) ∧ Framed w w' := by
  have hr := startH (q0 := q0) (q1 := q1) (b4 := b4) (b5 := b5) (m := m) (i := m) hs [bx4, bx5] fun p hp => by
    simp only [List.mem_cons, List.not_mem_nil, or_false] at hp
    rcases hp with rfl | rfl
    · obtain ⟨c, fr, h1, h2, h3⟩ := h4
      exact ⟨b4, _, rfl, h1, _, c, fr, rfl, denL1 (den_slice_of rfl rfl rfl rfl), h2, h3, fun e => by cases e⟩
    · obtain ⟨c, fr, h1, h2, h3⟩ := h5
      exact ⟨b5, _, rfl, h1, _, c, fr, rfl, denL1 rfl, h2, h3, fun e => by cases e⟩
  refine scanCall (J := JM x y n m) (T := T6) (b := b67) (k := k67) (v := .int .i64 (-1)) (noSp0 _) rfl Try.func67 rfl r6_in (denL2 (den_slice_of rfl rfl rfl rfl) rfl) hr (c1 (lssT (x := (m : Int)) (y := (n : Int)) rfl rfl (by omega)) (csA_ok rfl rfl rfl hs.g (GW_env ..))) (fun ρ' hle hG => ?_) (scanGo (n := m) (noSp0 _) rfl (fun j => ⟨j.j.i9, j.im⟩) JM.of_le (fun j hG => j.cs hG) r6_go r6_end (fun {i ρ} j hi hG => ?_) (fun j => j.lt (decide_eq_false (Nat.lt_irrefl _))) (fun {i ρ} j hi hG => ?_) (fun ρ h => h) (fun _ => rfl))
  · have jn : JM x y n m 0 ((sg6 (.lit 0)).app ρ') := ⟨⟨by show ρ'.I 5 = _; rw [hle.i]; rfl, by show ρ'.I 6 = _; rw [hle.i]; rfl, by show ρ'.I 7 = _; rw [hle.i]; rfl, rfl, Nat.zero_le _, hs.g⟩, by show ρ'.I 8 = _; rw [hle.i]; rfl, by show ρ'.I 10 = _; rw [hle.i]; rfl, Nat.zero_le _, hm⟩
    exact ⟨hG, ⟨0, jn⟩, jn.cs hG⟩
  · have hin : i < n := by have := j.mn; omega
    have e := j.j.iT (a := at0) (varD j.j.i9) hin
    have e8 := j.j.g.en m j.mn
    have e7 := j.j.g.st i hin
    have em : (IT.var 10).den ρ = some (m : Int) := varD j.i10
    exact CRel_app.2 ⟨CRel_app.2 ⟨CRel_app.2 ⟨j.lt (decide_eq_true hi), j.j.inH e hin⟩, j.j.inH em j.mn⟩, c1 (geqT (j.j.cell em 8) (litD 0) (by omega)) (c1 (lssF (j.j.cell em 8) (j.j.cell e 7) (by omega)) c0)⟩
  · have := j.j.g.n60; have := j.mn
    exact ⟨⟨j.j.i5, j.j.i6, j.j.i7, sbI (t := upI 9) rfl (upD (varD j.j.i9) (by omega)), by omega, j.j.g⟩, j.i8, j.i10, hi, j.mn⟩
-- AS THE MACHINE TAKES IT
def hist2 (H : Heap) (cs : Cs) (l0 : Nat) (n : IT) (l1 : Nat) (m : IT) : Option (IT × IT) := match H.get l0, H.get l1 with
  | some ⟨.arr (.code ks x) ks' _ n0 (.lit (.ofNat 0)) _, _⟩, some ⟨.arr (.code [.i64] y) [.i64] _ n1 (.lit (.ofNat 0)) _, _⟩ => cond (decide (ks = ksR) && decide (ks' = ksR) && IT.beq n n0 && IT.beq m n1) (match lookB cs (gd x y) with
    | some true => some (x, y)
    | _ => none) none
  | _, _ => none
theorem rowAt_of {ρ : Env} {w : World} {H : Heap} {β : Base} {nl : Nat} (hh : HRel β ρ H nl w) {l : Nat} {ks : List IntKind} {x n off : IT} {el : TypeId} {cp : Option IT} {rw : Bool} (h : H.get l = some ⟨.arr (.code ks x) ks el n (.lit (.ofNat 0)) cp, rw⟩) :
    ∃ b xv, ∃ m : Nat, ρ.N l = some b ∧ x.den ρ = some xv ∧ n.den ρ = some (m : Int) ∧ RowAtL w b ks (decL xv) ∧ (decL xv).length = m * ks.length := by
  obtain ⟨b, o, hb, ho, xs, c, fr, el', m, st, rfl, _, hd, hst, ⟨_, hp⟩, hn, hty, _⟩ := hh.blk l _ h
  obtain rfl : st = 0 := by have := Option.some.inj hst; exact (Int.ofNat.inj this).symm
  rw [List.drop_zero] at hp
  simp only [AT.den] at hd
  cases hx : x.den ρ with
  | none => rw [hx] at hd; cases hd
  | some xv =>
    rw [hx, Option.map_some, Option.some.injEq] at hd
    subst hd
    exact ⟨b, xv, m, hb, rfl, hn, ⟨c, fr, el', ho, hp⟩, by have := hty.1; rwa [rowOf_length] at this⟩
theorem hist2_ok {ρ : Env} {w : World} {H : Heap} {β : Base} {nl : Nat} {cs : Cs} (hh : HRel β ρ H nl w) (hc : CRel ρ cs) (hG : ∀ I B S V F, β.G I B S V F → GW I B S V F) {l0 l1 : Nat} {n m x y : IT} (h : hist2 H cs l0 n l1 m = some (x, y)) :
    ∃ b0 b1 xv yv, ∃ N : Nat, ρ.N l0 = some b0 ∧ ρ.N l1 = some b1 ∧ x.den ρ = some xv ∧ y.den ρ = some yv ∧ n.den ρ = some (N : Int) ∧ m.den ρ = some (N : Int) ∧ Hs w b0 b1 xv yv N := by
  unfold hist2 at h
  split at h
  rotate_left
  · cases h
  rename_i ks x' ks' el0 n0 cp0 rw0 y' el1 n1 cp1 rw1 h0 h1
  cases hb : (decide (ks = ksR) && decide (ks' = ksR) && IT.beq n n0 && IT.beq m n1) with
  | false => rw [hb] at h; cases h
  | true =>
    rw [hb] at h
    simp only [cond_true] at h
    simp only [Bool.and_eq_true, decide_eq_true_eq] at hb
    obtain ⟨⟨⟨rfl, rfl⟩, e3⟩, e4⟩ := hb
    obtain rfl := IT.beq_eq e3
    obtain rfl := IT.beq_eq e4
    split at h
    rotate_left
    · cases h
    rename_i hl
    cases h
    obtain ⟨b0, xv, N0, k1, k2, k3, k4, k5⟩ := rowAt_of (off := .lit 0) hh h0
    obtain ⟨b1, yv, N1, p1, p2, p3, p4, p5⟩ := rowAt_of (off := .lit 0) hh h1
    obtain ⟨N, g⟩ := good_of (hG _ _ _ _ _ hh.g) k2 p2 (lookB_ok hl hc)
    have e1 : N0 = N := by
      have := g.lx
      rw [k5, show ksR.length = 16 from rfl] at this
      omega
    have e2 : N1 = N := by
      have := goodLen g
      rw [p5, show [IntKind.i64].length = 1 from rfl] at this
      omega
    subst e1; subst e2
    exact ⟨b0, b1, xv, yv, _, k1, p1, k2, p2, k3, p3, k4, p4, g⟩
theorem boxAt_of {ρ : Env} {w : World} {H : Heap} {β : Base} {nl : Nat} (hh : HRel β ρ H nl w) {l : Nat} {u : AVal} {el : TypeId} {rw : Bool} (h : H.get l = some ⟨.cells [u] el none, rw⟩) : ∃ b v, ρ.N l = some b ∧ u.den ρ = some v ∧ BoxAt w b el v := by
  obtain ⟨b, o, hb, ho, xs, c, fr, rfl, hd, hp, ht, _⟩ := hh.blk l _ h
  cases hu : u.den ρ with
  | none => simp only [AVal.denL, hu] at hd; cases hd
  | some v =>
    simp only [AVal.denL, hu, Option.some.injEq] at hd
    subst hd
    exact ⟨b, v, hb, rfl, c, fr, ho, hp, ht⟩
def spA5 (u : AVal) : SpG := fun args H nl cs => match args with
  | [.slice l1 (.lit (.ofNat 0)) m _, .func (.func 55) [] [.ptr l4 (.lit (.ofNat 0))]] => match H.get l4 with
    | some ⟨.cells [.slice l0 (.lit (.ofNat 0)) n _] 22 none, _⟩ => match hist2 H cs l0 n l1 m with
      | some _ => some [.ret u H nl cs]
      | none => none
    | _ => none
  | [.slice l1 (.lit (.ofNat 0)) m _, .func (.func 56) [] [.ptr l4 (.lit (.ofNat 0)), .ptr l5 (.lit (.ofNat 0))]] => match H.get l4, H.get l5 with
    | some ⟨.cells [.slice l0 (.lit (.ofNat 0)) n _] 22 none, _⟩, some ⟨.cells [.int .i64 i] 3 none, _⟩ => match hist2 H cs l0 n l1 n with
      | some (_, y) => cond (IT.beq i (.un 0 y (.elem (.lit 0) 1 0 m))) (match lookB cs (.cmp .lss m n) with
        | some true => some [.ret u H nl cs]
        | _ => none) none
      | none => none
    | _, _ => none
  | _ => none
theorem spA5_ok {β : Base} (hG : ∀ I B S V F, β.G I B S V F → GW I B S V F) {g : FuncId} {u : AVal} {v : Value} (hu : ∀ ρ, u.den ρ = some v)
    (h5 : ∀ {w : World} {x y : Int} {n b0 b1 q0 q1 b4 : Nat}, Hs w b0 b1 x y n → BoxAt w b4 22 (.slice (some ⟨b0, 0, none⟩) n q0) → Calls Try.prog g #[.slice (some ⟨b1, 0, none⟩) n q1, .func (.func 55) #[] #[.pointer (some ⟨b4, 0, none⟩)]] w fun e w' => e = .returned v ∧ Framed w w')
    (h6 : ∀ {w : World} {x y : Int} {n b0 b1 q0 q1 b4 b5 m : Nat}, Hs w b0 b1 x y n → BoxAt w b4 22 (.slice (some ⟨b0, 0, none⟩) n q0) → BoxAt w b5 3 (.int .i64 (m : Int)) → m < n → Calls Try.prog g #[.slice (some ⟨b1, 0, none⟩) m q1, .func (.func 56) #[] #[.pointer (some ⟨b4, 0, none⟩), .pointer (some ⟨b5, 0, none⟩)]] w fun e w' => e = .returned v ∧ Framed w w') :
    SpGOk Try.prog β g (spA5 u) := by
  intro args H nl cs ls ρ w xs hr hx hh hc
  unfold spA5 at hr
  split at hr
  · rename_i l1 m q l4
    split at hr
    rotate_left
    · cases hr
    rename_i l0 n q' rw4 hg4
    split at hr
    rotate_left
    · cases hr
    rename_i xy hh2
    cases hr
    obtain ⟨b0, b1, xv, yv, N, k0, k1, k2, k3, k4, k5, hs⟩ := hist2_ok hh hc hG hh2
    obtain ⟨b4, vb, k6, k7, k8⟩ := boxAt_of hh hg4
    obtain ⟨b0', o0, N0, q0, rfl, e1, e2, e3, e4⟩ := den_slice k7
    rw [k0] at e1; cases e1
    obtain rfl : o0 = 0 := by have := Option.some.inj e2; exact (Int.ofNat.inj this).symm
    obtain rfl : N0 = N := by have := e3.symm.trans k4; exact Int.ofNat.inj (Option.some.inj this)
    have hx : AVal.denL ρ [.slice l1 (.lit 0) m q, .func (.func 55) [] [.ptr l4 (.lit 0)]] = some xs := hx
    cases hsl : (AVal.slice l1 (.lit 0) m q).den ρ with
    | none => simp only [AVal.denL, hsl] at hx; cases hx
    | some sv =>
      obtain ⟨b1', o1, N1, q1, rfl, e1, e2, e3, e4⟩ := den_slice hsl
      rw [k1] at e1; cases e1
      obtain rfl : o1 = 0 := by have := Option.some.inj e2; exact (Int.ofNat.inj this).symm
      obtain rfl : N1 = N0 := by have := e3.symm.trans k5; exact Int.ofNat.inj (Option.some.inj this)
      have hx' : AVal.denL ρ [.slice l1 (.lit 0) m q, .func (.func 55) [] [.ptr l4 (.lit 0)]] = some [.slice (some ⟨b1, 0, none⟩) N1 q1, .func (.func 55) #[] #[.pointer (some ⟨b4, 0, none⟩)]] := denL2 hsl (by simp only [AVal.den, AVal.denL, k6]; rfl)
      obtain rfl : [.slice (some ⟨b1, 0, none⟩) N1 q1, .func (.func 55) #[] #[.pointer (some ⟨b4, 0, none⟩)]] = xs := Option.some.inj (hx'.symm.trans hx)
      exact spV_ok (h5 hs k8) (hu ρ) hh hc
  · rename_i l1 m q l4 l5
    split at hr
    rotate_left
    · cases hr
    rename_i l0 n q' rw4 i rw5 hg4 hg5
    split at hr
    rotate_left
    · cases hr
    rename_i x' y' hh2
    cases hbq : IT.beq i (.un 0 y' (.elem (.lit 0) 1 0 m)) with
    | false => rw [hbq] at hr; cases hr
    | true =>
      rw [hbq] at hr
      simp only [cond_true] at hr
      obtain rfl := IT.beq_eq hbq
      split at hr
      rotate_left
      · cases hr
      rename_i hlm
      cases hr
      obtain ⟨b0, b1, xv, yv, N, k0, k1, k2, k3, k4, k5, hs⟩ := hist2_ok hh hc hG hh2
      obtain ⟨b4, vb, k6, k7, k8⟩ := boxAt_of hh hg4
      obtain ⟨b5, vi, p6, p7, p8⟩ := boxAt_of hh hg5
      obtain ⟨b0', o0, N0, q0, rfl, e1, e2, e3, e4⟩ := den_slice k7
      rw [k0] at e1; cases e1
      obtain rfl : o0 = 0 := by have := Option.some.inj e2; exact (Int.ofNat.inj this).symm
      obtain rfl : N0 = N := by have := e3.symm.trans k4; exact Int.ofNat.inj (Option.some.inj this)
      have hx : AVal.denL ρ [.slice l1 (.lit 0) m q, .func (.func 56) [] [.ptr l4 (.lit 0), .ptr l5 (.lit 0)]] = some xs := hx
      cases hsl : (AVal.slice l1 (.lit 0) m q).den ρ with
      | none => simp only [AVal.denL, hsl] at hx; cases hx
      | some sv =>
        obtain ⟨b1', o1, M, q1, rfl, e1, e2, e3, e4⟩ := den_slice hsl
        rw [k1] at e1; cases e1
        obtain rfl : o1 = 0 := by have := Option.some.inj e2; exact (Int.ofNat.inj this).symm
        have hm : m.den ρ = some (M : Int) := e3
        have hlt := lookB_ok hlm hc
        rw [cmpD hm k4] at hlt
        simp only [intCmp, Option.some.injEq, decide_eq_true_eq] at hlt
        have hlt : M < N0 := by omega
        have ei : (IT.un 0 y' (.elem (.lit 0) 1 0 m)).den ρ = some (M : Int) := by
          have e := elemD (ρ := ρ) (sz := 1) (j := 0) (litD ((0 : Nat) : Int)) hm
          refine (unD k3 e).trans ?_
          show some ((decL yv).getD (((0 + (M * 1 + 0) : Nat) : Int)).toNat 0) = _
          rw [hs.g.y, Int.toNat_natCast, show 0 + (M * 1 + 0) = M by omega, iota_get hlt]
        have hvi : vi = .int .i64 (M : Int) := by
          simp only [AVal.den, ei, Option.map_some, Option.some.injEq] at p7
          exact p7.symm
        subst hvi
        have hx' : AVal.denL ρ [.slice l1 (.lit 0) m q, .func (.func 56) [] [.ptr l4 (.lit 0), .ptr l5 (.lit 0)]] = some [.slice (some ⟨b1, 0, none⟩) M q1, .func (.func 56) #[] #[.pointer (some ⟨b4, 0, none⟩), .pointer (some ⟨b5, 0, none⟩)]] := denL2 hsl (by simp only [AVal.den, AVal.denL, k6, p6]; rfl)
        obtain rfl : [.slice (some ⟨b1, 0, none⟩) M q1, .func (.func 56) #[] #[.pointer (some ⟨b4, 0, none⟩), .pointer (some ⟨b5, 0, none⟩)]] = xs := Option.some.inj (hx'.symm.trans hx)
        exact spV_ok (h6 hs k8 p8 hlt) (hu ρ) hh hc
  · cases hr
-- ContainsFunc
def spI67 : CallF := spL [(67, spA5 (.int .i64 (.lit (-1))))]
theorem c5_run : (run Try.prog [] spI67 4000 true 54 (entry Try.f54 (Try.f54.body.getD .ret) [sO (.var 6), fn55] (ofP (roH [hA0, hA1, bx4])) 10 csA)).map (·.filterMap (sumD gM [])) = some [.ret (.bool (.lit false)) []] := by kernel_rfl
theorem c6_run : (run Try.prog [] spI67 4000 true 54 (entry Try.f54 (Try.f54.body.getD .ret) [sO (.var 8), .func (.func 56) [] [.ptr 4 (.lit 0), .ptr 5 (.lit 0)]] (ofP (roH [hA0, hA1, bx4, (5, .cells [.int .i64 (iT (.var 8))] 3 none)])) 10 csM)).map (·.filterMap (sumD gM [])) = some [.ret (.bool (.lit false)) []] := by kernel_rfl
theorem spI67_ok {w : World} : CallOk Try.prog ⟨w, [], GW⟩ spI67 := spL_ok fun p hp => by
  rw [List.mem_singleton.1 hp]
  exact spA5_ok (fun _ _ _ _ _ h => h) (fun _ => rfl) idx55 idx56
theorem any55 {w : World} {x y : Int} {n b0 b1 q0 q1 b4 : Nat} (hs : Hs w b0 b1 x y n) (h4 : BoxAt w b4 22 (.slice (some ⟨b0, 0, none⟩) n q0)) :
    Calls Try.prog 54 #[.slice (some ⟨b1, 0, none⟩) n q1, .func (.func 55) #[] #[.pointer (some ⟨b4, 0, none⟩)]] w fun e w' => e = .returned (.bool false) ∧ Framed w w' := by
  have hr := startH (q0 := q0) (q1 := q1) (b4 := b4) (b5 := 0) (m := 0) (i := 0) hs [bx4] fun p hp => by
    rw [List.mem_singleton.1 hp]
    obtain ⟨c, fr, h1, h2, h3⟩ := h4
    exact ⟨b4, _, rfl, h1, _, c, fr, rfl, denL1 (den_slice_of rfl rfl rfl rfl), h2, h3, fun e => by cases e⟩
  exact (calls_sumsD (Q := fun v => v = .bool false) (g := gM) (Ts := []) (pl := true) noCount noExt spI67_ok follows rfl Try.func54 rfl c5_run (denL2 (den_slice_of rfl rfl rfl rfl) rfl) hr (csA_ok rfl rfl rfl hs.g (GW_env ..)) (one (retS (z := .bool false) (fun _ _ => rfl) rfl))).mono fun e w' ⟨v, he, hv, hf⟩ => ⟨by rw [he, hv], hf⟩
theorem any56 {w : World} {x y : Int} {n b0 b1 q0 q1 b4 b5 m : Nat} (hs : Hs w b0 b1 x y n) (h4 : BoxAt w b4 22 (.slice (some ⟨b0, 0, none⟩) n q0)) (h5 : BoxAt w b5 3 (.int .i64 (m : Int))) (hm : m < n) :
    Calls Try.prog 54 #[.slice (some ⟨b1, 0, none⟩) m q1, .func (.func 56) #[] #[.pointer (some ⟨b4, 0, none⟩), .pointer (some ⟨b5, 0, none⟩)]] w fun e w' => e = .returned (.bool false) ∧ Framed w w' := by
  have jh : JH x y n 0 (envH x y n b0 b1 q0 q1 b4 b5 m m) := ⟨rfl, rfl, rfl, rfl, Nat.zero_le _, hs.g⟩
  have hr := startH (q0 := q0) (q1 := q1) (b4 := b4) (b5 := b5) (m := m) (i := m) hs [bx4, (5, .cells [.int .i64 (iT (.var 8))] 3 none)] fun p hp => by
    simp only [List.mem_cons, List.not_mem_nil, or_false] at hp
    rcases hp with rfl | rfl
    · obtain ⟨c, fr, h1, h2, h3⟩ := h4
      exact ⟨b4, _, rfl, h1, _, c, fr, rfl, denL1 (den_slice_of rfl rfl rfl rfl), h2, h3, fun e => by cases e⟩
    · obtain ⟨c, fr, h1, h2, h3⟩ := h5
      exact ⟨b5, _, rfl, h1, _, c, fr, rfl, denL1 (by simp only [AVal.den, jh.iT (a := .var 8) rfl hm, Option.map_some]), h2, h3, fun e => by cases e⟩
  exact (calls_sumsD (Q := fun v => v = .bool false) (g := gM) (Ts := []) (pl := true) noCount noExt spI67_ok follows rfl Try.func54 rfl c6_run (denL2 (den_slice_of rfl rfl rfl rfl) rfl) hr (c1 (lssT (x := (m : Int)) (y := (n : Int)) rfl rfl (by omega)) (csA_ok rfl rfl rfl hs.g (GW_env ..))) (one (retS (z := .bool false) (fun _ _ => rfl) rfl))).mono fun e w' ⟨v, he, hv, hf⟩ => ⟨by rw [he, hv], hf⟩
def spAny : SpG := spA5 (.bool (.lit false))
theorem spAny_ok {β : Base} (hG : ∀ I B S V F, β.G I B S V F → GW I B S V F) : SpGOk Try.prog β 54 spAny := spA5_ok hG (fun _ => rfl) any55 any56
end Lm
end Go.Proofs.Ytpgonpjakllnjaa
