/-
  Ranks (9): the reference's Rising puts numbers in order; its Class.
-/
import Derived.Test.YtglghnfbkiondaaDoorRk3
namespace Go.Proofs.YtglghnfbkiondaaDoor
open Go.Vm Go.Vm.Rk
namespace Rk

-- PLAIN
theorem sortL_uniq {L M : List Int} (h : M.Perm L) (hs : M.Pairwise fun x y => x ≤ y) : M = sortL L :=
  List.Perm.eq_of_pairwise (le := fun a b => a ≤ b) (fun a b _ _ h1 h2 => by omega) hs (sortL_sorted L) (h.trans (sortL_perm L).symm)
theorem sortL_one (x : Int) : sortL [x] = [x] := (sortL_uniq (List.Perm.refl _) (List.pairwise_singleton _ _)).symm
theorem getD_of {L : List Int} {i : Nat} (h : i < L.length) : L.getD i 0 = L[i] := by
  rw [List.getD_eq_getElem?_getD, List.getElem?_eq_getElem h]; rfl
theorem take_snoc {L : List Int} {i : Nat} (h : i < L.length) : L.take (i + 1) = L.take i ++ [L.getD i 0] := by
  rw [List.take_add_one, List.getElem?_eq_getElem h, getD_of h]; rfl
theorem ins_sort {L : List Int} {i a : Nat} (hi : i < L.length) (hlo : ∀ j, j < a → (sortL (L.take i)).getD j 0 ≤ L.getD i 0) (hhi : a = i ∨ a < i ∧ L.getD i 0 < (sortL (L.take i)).getD a 0) :
    (sortL (L.take i)).take a ++ (L.getD i 0 :: (sortL (L.take i)).drop a) = sortL (L.take (i + 1)) := by
  have hl : (sortL (L.take i)).length = i := by rw [sortL_len, List.length_take]; omega
  generalize hR : sortL (L.take i) = R at *
  have hs : R.Pairwise fun x y => x ≤ y := hR ▸ sortL_sorted _
  have hp : R.Perm (L.take i) := hR ▸ sortL_perm _
  refine sortL_uniq ?_ ?_
  · rw [take_snoc hi]
    refine List.perm_middle.trans ?_
    rw [List.take_append_drop]
    exact (List.Perm.cons _ hp).trans (List.perm_append_singleton _ _).symm
  · have h0 : (R.take a ++ R.drop a).Pairwise fun x y => x ≤ y := by rw [List.take_append_drop]; exact hs
    obtain ⟨h1, h2, h3⟩ := List.pairwise_append.1 h0
    have hle : ∀ x ∈ R.take a, x ≤ L.getD i 0 := fun x hx => by
      obtain ⟨j, hj, he⟩ := List.getElem_of_mem hx
      rw [List.length_take] at hj
      have := hlo j (by omega)
      rw [getD_of (L := R) (i := j) (by omega)] at this
      rw [List.getElem_take] at he
      omega
    have hge : ∀ y ∈ R.drop a, L.getD i 0 ≤ y := fun y hy => by
      obtain ⟨j, hj, he⟩ := List.getElem_of_mem hy
      rw [List.length_drop] at hj
      rcases hhi with h | ⟨h, h4⟩
      · omega
      · rw [List.getElem_drop] at he
        rw [getD_of (L := R) (i := a) (by omega)] at h4
        rcases Nat.eq_zero_or_pos j with h5 | h5
        · subst h5
          have : y = R[a] := he.symm
          omega
        · have := List.pairwise_iff_getElem.1 hs a (a + j) (by omega) (by omega) (by omega)
          omega
    refine List.pairwise_append.2 ⟨h1, List.pairwise_cons.2 ⟨hge, h2⟩, fun x hx y hy => ?_⟩
    rcases List.mem_cons.1 hy with rfl | hy
    · exact hle x hx
    · exact h3 x hx y hy
-- A LOOP OF HEADS, WITH MEMORY; what is known of the memory, too
section
variable {P : Program} {β : Base} {f : FuncId} {R : Value → World → Prop} {Rs : List Tpl}
theorem loop_goesL (hc : NoCount P) {E : Exts} (hE : ExtOk P E) {sp : CallF} (hsp : CallOk P β sp) (hm : P.follows .mixedOrders = true) {g : Gen} {L : List Nat} {b : Code} {k : List Item} {n : Nat} {ι : Type} (T : ι → Tpl) (J : ι → Env → Prop) (μ : ι → Env → Nat)
    (hs : ∀ i ρ, J i ρ → (∃ w, HRel β ρ (ofP (T i).H) (T i).nl w) → CRel ρ (T i).cs → GP.at β.G ρ → (∀ i' ρ', μ i' ρ' < μ i ρ → J i' ρ' → ∀ todo a w, todo = .inLoop b :: k ∨ todo = .code (.loop b) :: k → SRel β ρ' ((T i').st todo) a w → Goes P f R todo a w) →
      ∃ pl Ts cs' sums, CRel ρ cs' ∧ (run P E sp n pl f ((⟨(T i).tm, (T i).nt, (T i).H, (T i).nl, cs', (T i).dep⟩ : Tpl).st (.code b :: .inLoop b :: k))).map (·.filterMap (sumMD g L Rs Ts)) = some sums ∧ ∀ s ∈ sums, MGoodO P β f R Rs Ts ρ s) :
    ∀ i ρ, J i ρ → ∀ todo a w, todo = .inLoop b :: k ∨ todo = .code (.loop b) :: k → SRel β ρ ((T i).st todo) a w → Goes P f R todo a w := by
  suffices H : ∀ N i ρ, μ i ρ = N → J i ρ → ∀ todo a w, todo = .inLoop b :: k ∨ todo = .code (.loop b) :: k → SRel β ρ ((T i).st todo) a w → Goes P f R todo a w from fun i ρ => H _ i ρ rfl
  intro N
  induction N using Nat.strongRecOn with
  | _ N ih =>
    intro i ρ hN hJ todo a w htd r
    obtain ⟨pl, Ts, cs', sums, hcs', hrun, hss⟩ := hs i ρ hJ ⟨_, r.h⟩ r.c r.h.g fun i' ρ' hlt hJ' todo' a' w' ht' r' => ih (μ i' ρ') (by omega) i' ρ' rfl hJ' todo' a' w' ht' r'
    obtain ⟨ls, hls, hsum⟩ := Option.map_eq_some_iff.1 hrun
    have key : Goes P f R (.code b :: .inLoop b :: k) a w := run_sound hc hE hsp hm n pl f _ ls ρ a w _ hls ⟨r.d, r.n, r.t, r.h, hcs'⟩ (m_allO (g := g) (L := L) (sums := ls.filterMap (sumMO g L Rs Ts)) rfl (dcsM hsum hss))
    rcases htd with rfl | rfl
    · exact Goes.one (fun cs => step_inLoop) key
    · exact Goes.one (fun cs => step_loop) key
end
-- THE HEADS
namespace Ri
def rC : HB := ⟨.arr (.code [.i64] (.var 11)) [.i64] 3 (.var 14) (.lit 0) (some (.nv 12)), true⟩
def csR : Cs := [(.cmp .geq (.var 14) (.lit 1), true), (.cmp .leq (.var 14) (.lit 300), true), (.cmp .leq (.var 14) (.lit 1000000), true)]
def csK : Cs := [(.cmp .geq (.var 15) (.lit 0), true), (.cmp .leq (.var 15) (.var 14), true)]
def vR : AVal := .slice 13 (.lit 0) (.var 14) (.nv 12)
def TO : Bool → Tpl
  | false => ⟨[(3, .sliceNil), (7, sL), (8, iV 6), (9, .int .i64 (.lit 0))], 39, roH [hL], 10, csN, 3⟩
  | true => ⟨[(3, vR), (7, sL), (8, iV 6), (9, iV 9)], 39, roH [hL] ++ [(13, rC)], 20, csR ++ csI, 3⟩
def TI : Bool → Tpl
  | false => ⟨[(3, .sliceNil), (5, iV 16), (6, .int .i64 (.lit 0)), (7, sL), (8, iV 6), (9, .int .i64 (.lit 0))], 39, roH [hL], 10, csN, 8⟩
  | true => ⟨[(3, vR), (5, iV 16), (6, iV 15), (7, sL), (8, iV 6), (9, iV 9)], 39, roH [hL] ++ [(13, rC)], 20, csK ++ csR ++ csI, 8⟩
def eR : List Tpl := [⟨[(0, vR)], 1, [(13, rC)], 20, [], 0⟩]
noncomputable def b0 : Code := ((loopsOf (Tryd.f21.body.getD .ret) []).getD 0 (.ret, [])).1
noncomputable def k0 : List Item := ((loopsOf (Tryd.f21.body.getD .ret) []).getD 0 (.ret, [])).2
noncomputable def b1 : Code := ((loopsOf (Tryd.f21.body.getD .ret) []).getD 1 (.ret, [])).1
noncomputable def k1 : List Item := ((loopsOf (Tryd.f21.body.getD .ret) []).getD 1 (.ret, [])).2
noncomputable def Run (T : Tpl) (b : Code) (k : List Item) (Ts : List Tpl) (c : Cs) (l : LM) : Prop := (run Tryd.prog [] (spL []) 4000 true 21 ((⟨T.tm, T.nt, T.H, T.nl, c ++ T.cs, T.dep⟩ : Tpl).st (.code b :: .inLoop b :: k))).map (·.filterMap (sumMD gM [] eR Ts)) = some [l]
def n0 : List (Nat × Nat) := [(0, 0)]
def f0 : Cs := [(.cmp .lss (.lit 0) (.var 6), true)]
def eJ : IT := .un 0 (.var 11) (.elem (.lit 0) 1 0 (.var 15))
def piT : IT := .bin .add .i64 (.lit 1) (.un 14 (.var 14) (.var 15))
def lenT : IT := .bin .add .i64 (.var 15) piT
def codeT : IT := .un 12 (.un 10 (.var 11) (.var 15)) (.un 12 (.un 3 (.lit 0) (.var 16)) (.un 11 (.var 11) (.var 15)))
def fJ (b : Bool) : Cs := [(.cmp .lss (.var 15) (.var 14), true), (.cmp .leq eJ (.var 16), b)]
def fX : Cs := [(.cmp .leq (.lit 1) (.lit 1000000), true), (.cmp .geq (.lit 0) (.lit 0), true), (.cmp .leq (.lit 0) (.var 15), true), (.cmp .leq (.var 15) (.nv 12), true), (.cmp .leq (.var 15) (.lit 1000000), true), (.cmp .leq piT (.lit 1000000), true)]
def fZ : Cs := [(.cmp .lss (.var 15) (.var 14), false)]
def s0 : Sub := ⟨[(6, .var 6), (5, .var 5)], [], [], [], n0⟩
def s1 : Sub := ⟨[(16, .un 0 (.var 5) (.elem (.lit 0) 1 0 (.lit 0))), (6, .var 6), (5, .var 5)], [], [], [], n0⟩
def s2 : Sub := ⟨[(14, .var 14), (16, .un 0 (.var 5) (.elem (.lit 0) 1 0 at0)), (15, .lit 0), (6, .var 6), (9, .var 9), (5, .var 5), (11, .var 11)], [], [], [], [(13, 13), (12, 12)] ++ n0⟩
def s3 : Sub := ⟨[(14, .lit 1), (6, .var 6), (9, .lit 1), (5, .var 5), (11, .un 3 (.lit 0) (.var 16))], [], [], [], [(13, 12), (12, 11)] ++ n0⟩
def s4 : Sub := ⟨[(14, .var 14), (16, .var 16), (15, upI 15), (6, .var 6), (9, .var 9), (5, .var 5), (11, .var 11)], [], [], [], [(13, 13), (12, 12)] ++ n0⟩
def s5 : Sub := ⟨[(14, lenT), (6, .var 6), (9, upI 9), (5, .var 5), (11, codeT)], [], [], [], [(13, 24), (12, 23)] ++ n0⟩
def s6 : Sub := ⟨[(14, .var 14), (11, .var 11)], [], [], [], [(13, 13), (12, 12)]⟩
theorem r_in : (run Tryd.prog [] (spL []) 4000 true 21 (entry Tryd.f21 (Tryd.f21.body.getD .ret) [sL] (ofP (roH [hL])) 10 csN)).map (·.filterMap (sumMD gM [] eR [TO false])) = some [.next 0 (.code (.loop b0) :: k0) [] s0] := by kernel_rfl
theorem r_1 : Run (TO false) b0 k0 [TI false] f0 (.next 0 (.code (.loop b1) :: k1) [] s1) := by unfold Run; kernel_rfl
theorem r_2 : Run (TO true) b0 k0 [TI true] (fI true) (.next 0 (.code (.loop b1) :: k1) [] s2) := by unfold Run; kernel_rfl
theorem r_3 : Run (TI false) b1 k1 [TO true] [] (.next 0 (.inLoop b0 :: k0) [] s3) := by unfold Run; kernel_rfl
theorem r_4 : Run (TI true) b1 k1 [TI true] (fJ true) (.next 0 (.inLoop b1 :: k1) [] s4) := by unfold Run; kernel_rfl
theorem r_5 : Run (TI true) b1 k1 [TO true] (fJ false ++ fX) (.next 0 (.inLoop b0 :: k0) [] s5) := by unfold Run; kernel_rfl
theorem r_6 : Run (TI true) b1 k1 [TO true] (fZ ++ fX) (.next 0 (.inLoop b0 :: k0) [] s5) := by unfold Run; kernel_rfl
theorem r_7 : Run (TO true) b0 k0 [] (fI false) (.done 0 [] s6) := by unfold Run; kernel_rfl
-- WHAT HOLDS
structure JR (L : List Int) (i : Nat) (ρ : Env) : Prop where
  j : JI L i ρ
  i11 : ρ.I 11 = encL (sortL (L.take i))
  i14 : ρ.I 14 = (i : Int)
  i1 : 1 ≤ i
theorem JR.of_le {L : List Int} {i : Nat} {ρ ρ' : Env} (h : JR L i ρ) (g : ρ.Le ρ') : JR L i ρ' := ⟨h.j.of_le g, by rw [g.i]; exact h.i11, by rw [g.i]; exact h.i14, h.i1⟩
theorem JR.cs {L : List Int} {i : Nat} {ρ : Env} (h : JR L i ρ) : CRel ρ (csR ++ csI) := by
  have := h.i1; have := h.j.le; have := h.j.n.n3
  exact CRel_app.2 ⟨c1 (geqT (varD h.i14) (litD 1) (by omega)) (c1 (leqT (varD h.i14) (litD 300) (by omega)) (c1 (leqT (varD h.i14) (litD _) (by omega)) c0)), h.j.cs⟩
/-- In the inner loop: at which place. -/
structure JA (L : List Int) (i a : Nat) (ρ : Env) : Prop where
  r : JR L i ρ
  i15 : ρ.I 15 = (a : Int)
  i16 : ρ.I 16 = L.getD i 0
  le : a ≤ i
  lo : ∀ j, j < a → (sortL (L.take i)).getD j 0 ≤ L.getD i 0
theorem JA.of_le {L : List Int} {i a : Nat} {ρ ρ' : Env} (h : JA L i a ρ) (g : ρ.Le ρ') : JA L i a ρ' := ⟨h.r.of_le g, by rw [g.i]; exact h.i15, by rw [g.i]; exact h.i16, h.le, h.lo⟩
theorem JA.cs {L : List Int} {i a : Nat} {ρ : Env} (h : JA L i a ρ) : CRel ρ (csK ++ csR ++ csI) := by
  have := h.le
  obtain ⟨c2, c3⟩ := CRel_app.1 h.r.cs
  exact CRel_app.2 ⟨CRel_app.2 ⟨c1 (geqT (varD h.i15) (litD 0) (by omega)) (c1 (leqT (varD h.i15) (varD h.r.i14) (by omega)) c0), c2⟩, c3⟩
def J0 (L : List Int) : Bool → Env → Prop
  | false => JN L
  | true => fun ρ => ∃ i, JR L i ρ
def μ0 (L : List Int) : Bool → Env → Nat
  | false => fun _ => L.length + 1
  | true => fun ρ => ((L.length : Int) - ρ.I 9).toNat
def J1 (L : List Int) (i : Nat) : Bool → Env → Prop
  | false => fun ρ => JN L ρ ∧ ρ.I 16 = L.getD 0 0 ∧ i = 0
  | true => fun ρ => ∃ a, JA L i a ρ
def ν1 : Bool → Env → Nat
  | false => fun _ => 1000
  | true => fun ρ => (400 - ρ.I 15).toNat
section
variable {L : List Int} {i a : Nat} {ρ : Env}
theorem eJ_den (h : JA L i a ρ) : eJ.den ρ = some ((sortL (L.take i)).getD a 0) := el_den (varD h.r.i11) (varD h.i15)
theorem piT_den (h : JA L i a ρ) : piT.den ρ = some ((i - a + 1 : Nat) : Int) := by
  have := h.le; have := h.r.j.le; have := h.r.j.n.n3
  have e := unD (k := 14) (varD h.r.i14) (varD h.i15)
  have e : (IT.un 14 (.var 14) (.var 15)).den ρ = some ((i - a : Nat) : Int) := by
    refine e.trans ?_
    show some (if (a : Int) ≤ (i : Int) then (i : Int) - (a : Int) else 0) = _
    rw [if_pos (by omega)]; congr 1; omega
  refine (plusD (litD 1) e (by omega) (by omega)).trans ?_
  congr 1; omega
theorem lenT_den (h : JA L i a ρ) : lenT.den ρ = some ((i + 1 : Nat) : Int) := by
  have := h.le; have := h.r.j.le; have := h.r.j.n.n3
  refine (plusD (varD h.i15) (piT_den h) (by omega) (by omega)).trans ?_
  congr 1; omega
theorem codeT_den (h : JA L i a ρ) : codeT.den ρ = some (encL ((sortL (L.take i)).take a ++ (L.getD i 0 :: (sortL (L.take i)).drop a))) := by
  have e1 : (IT.un 10 (.var 11) (.var 15)).den ρ = some (encL ((sortL (L.take i)).take a)) := by
    refine (unD (varD h.r.i11) (varD h.i15)).trans ?_
    show some (encL ((decL (encL _)).take ((a : Nat) : Int).toNat)) = _
    rw [decL_encL, Int.toNat_natCast]
  have e2 : (IT.un 11 (.var 11) (.var 15)).den ρ = some (encL ((sortL (L.take i)).drop a)) := by
    refine (unD (varD h.r.i11) (varD h.i15)).trans ?_
    show some (encL ((decL (encL _)).drop ((a : Nat) : Int).toNat)) = _
    rw [decL_encL, Int.toNat_natCast]
  have e3 : (IT.un 3 (.lit 0) (.var 16)).den ρ = some (encL [L.getD i 0]) := (unD (litD 0) (varD h.i16)).trans rfl
  refine (unD e1 (unD e3 e2)).trans ?_
  show some (encL (decL (encL _) ++ decL (encL (decL (encL _) ++ decL (encL _))))) = _
  simp only [decL_encL, List.singleton_append]
theorem fX_ok {W : World} (h : JA L i a ρ) (hh : ∃ w, HRel ⟨W, [], GR⟩ ρ (ofP (TI true).H) (TI true).nl w) : CRel ρ fX := by
  have := h.le; have := h.r.j.le; have := h.r.j.n.n3
  obtain ⟨w, hh⟩ := hh
  obtain ⟨m, c, h1, h2, h3⟩ := hh.room (l := 13) rfl (by simp)
  have h1 : ρ.I 14 = (m : Int) := Option.some.inj h1
  rw [h.r.i14] at h1
  exact c1 (leqT (litD 1) (litD _) (by omega)) (c1 (geqT (litD 0) (litD 0) (by omega)) (c1 (leqT (litD 0) (varD h.i15) (by omega)) (c1 (leqT (varD h.i15) h2 (by omega)) (c1 (leqT (varD h.i15) (litD _) (by omega)) (c1 (leqT (piT_den h) (litD _) (by omega)) c0)))))
end
end Ri
end Rk
end Go.Proofs.YtglghnfbkiondaaDoor
