/-
  Gears (2): PaceGears: its runs and its loops.
-/
import Derived.Test.YtighjgmgpphohaaPg1
namespace Go.Proofs.Ytighjgmgpphohaa
open Go.Vm Go.RowKit Go.Lib
namespace Gr

def nA : List (Nat × Nat) := [(0, 0), (1, 1), (6, 6), (7, 7), (8, 8), (9, 9), (5, 5), (3, 3), (4, 4)]
def nB : List (Nat × Nat) := nA ++ [(15, 15), (14, 14), (16, 16), (13, 13), (12, 12)]
def sA (z : Bool) (t : IT) : Sub := ⟨[(20, .var 20), (10, t)] ++ cond z [(21, .var 21)] [], [], [], [], nA⟩
def sB : Sub := ⟨[(21, .var 21), (20, .var 20), (12, upT 10)], [], [], [], nB ++ [(11, 11)]⟩
def sC : Sub := ⟨[(21, .var 21), (11, .lit 1), (20, .var 20), (12, .var 12), (15, .un 13 (.lit 1) (.nv 11)), (16, .un 14 kT (.lit 1)), (17, .un 14 (.nv 11) (.lit 1)), (2, .un 3 (.lit 0) (.lit 0))], [], [], [], nB ++ [(19, 22), (18, 21)]⟩
def sD : Sub := ⟨[(21, .var 21), (11, upT 11), (20, .var 20), (12, .var 12), (15, .elem (.var 15) 1 0 (.un 13 (.lit 1) (.var 17))), (16, .un 14 (.var 16) (.lit 1)), (17, .un 14 (.var 17) (.lit 1)), (2, .un 3 (.var 2) (.lit 0))], [], [], [], nB ++ [(19, 25), (18, 24)]⟩
def sE (j : IT) : Sub := ⟨[(21, .var 21), (11, j), (20, .var 20), (12, .var 12)], [], [], [], nA⟩
noncomputable def b0 : Code := ((loopsOf (Try.f4.body.getD .ret) []).getD 0 (.ret, [])).1
noncomputable def k0 : List Item := ((loopsOf (Try.f4.body.getD .ret) []).getD 0 (.ret, [])).2
noncomputable def b1 : Code := ((loopsOf (Try.f4.body.getD .ret) []).getD 1 (.ret, [])).1
noncomputable def k1 : List Item := ((loopsOf (Try.f4.body.getD .ret) []).getD 1 (.ret, [])).2
noncomputable def RunG (z : Bool) (c : Cs) (l : LS) : Prop := (run Try.prog [] sp4 4000 true 4 ((⟨(G0 z).tm, (G0 z).nt, (G0 z).H, (G0 z).nl, c ++ (G0 z).cs, (G0 z).dep⟩ : Tpl).st (.code b0 :: .inLoop b0 :: k0))).map (·.filterMap (sumD gP (G0 z :: Ls))) = some [l]
noncomputable def RunL (T : Tpl) (c : Cs) (l : LS) : Prop := (run Try.prog [] sp4 4000 true 4 ((⟨T.tm, T.nt, T.H, T.nl, c ++ T.cs, T.dep⟩ : Tpl).st (.code b1 :: .inLoop b1 :: k1))).map (·.filterMap (sumD gP Ls)) = some [l]
def yes : LS := .ret (.bool (.lit true)) []
theorem gE0 (z : Bool) : (run Try.prog [] sp4 4000 true 4 (entry Try.f4 (Try.f4.body.getD .ret) [.int .u8 (.var 20), .int .u8 (kV z)] .leaf 0 [])).map (·.filterMap (sumD gP (G0 z :: Ls))) = some [.next 0 (.code (.loop b0) :: k0) [] (sA z (.lit 0))] := by cases z <;> kernel_rfl
theorem g0x (z : Bool) : RunG z (gi true ++ dd false) (.next 0 (.inLoop b0 :: k0) [] (sA z (upT 10))) := by cases z <;> (unfold RunG; kernel_rfl)
theorem g0n : RunG true (gi false ++ dn ++ dd true ++ kk) (.next 3 (.code (.loop b1) :: k1) [] sB) := by unfold RunG; kernel_rfl
theorem g0z : RunG false (gi false ++ dn ++ dd true) yes := by unfold RunG; kernel_rfl
theorem r0t : RunL R0 (ji (.lit 0) true ++ fRd (.lit 0) kT true) (.next 0 (.inLoop b1 :: k1) [] sC) := by unfold RunL; kernel_rfl
theorem r0f : RunL R0 (ji (.lit 0) true ++ fRd (.lit 0) kT false) (.next 1 (.inLoop b1 :: k1) [] (sE (.lit 1))) := by unfold RunL; kernel_rfl
theorem r1t : RunL R1 (ji (.var 11) true ++ fRd i1 (.var 16) true) (.next 0 (.inLoop b1 :: k1) [] sD) := by unfold RunL; kernel_rfl
theorem r1f : RunL R1 (ji (.var 11) true ++ fRd i1 (.var 16) false) (.next 1 (.inLoop b1 :: k1) [] (sE (upT 11))) := by unfold RunL; kernel_rfl
theorem r2e : RunL R2 (ji (.var 11) false ++ gE) yes := by unfold RunL; kernel_rfl
-- THE HEADS
structure Jn (n k : Nat) (ρ : Env) : Prop where
  hn : ρ.I 20 = (n : Int)
  hk : ρ.I 21 = (k : Int)
  n2 : n ≤ 255
  k1 : 1 ≤ k
  k2 : k ≤ 255
  hd : ρ.I 12 = ((n + 1 : Nat) : Int)
structure Jj (k j : Nat) (ρ : Env) : Prop where
  hj : ρ.I 11 = (j : Int)
  o : ρ.I 15 = (j : Int)
  hm : ρ.I 16 = ((k - j : Nat) : Int)
  c : ∃ c : Nat, ρ.I 17 = ((c - j : Nat) : Int) ∧ k ≤ c
  j1 : 1 ≤ j
  jk : j < k
theorem Jn.of_le {n k : Nat} {ρ ρ' : Env} (h : Jn n k ρ) (g : ρ.Le ρ') : Jn n k ρ' := ⟨by rw [g.i]; exact h.hn, by rw [g.i]; exact h.hk, h.n2, h.k1, h.k2, by rw [g.i]; exact h.hd⟩
theorem Jj.of_le {k j : Nat} {ρ ρ' : Env} (h : Jj k j ρ) (g : ρ.Le ρ') : Jj k j ρ' := ⟨by rw [g.i]; exact h.hj, by rw [g.i]; exact h.o, by rw [g.i]; exact h.hm, by rw [g.i]; exact h.c, h.j1, h.jk⟩
theorem univ13 (x y : Int) : univ 13 x y = if x = y then 0 else x := rfl
theorem univ14 (x y : Int) : univ 14 x y = if y ≤ x then x - y else 0 := rfl
theorem cvN {ρ : Env} {q n : Nat} (h : ρ.I q = (n : Int)) (hn : n ≤ 255) : (IT.cv .i64 (.var q)).den ρ = some (n : Int) := by
  rw [cvD (varD h), wrapI (by omega) (by omega)]
section
variable {n k j : Nat} {ρ : Env}
theorem Jn.kT (h : Jn n k ρ) : Gr.kT.den ρ = some (k : Int) := cvN h.hk h.k2
theorem Jn.csK (h : Jn n k ρ) : CRel ρ csK := by
  have := h.k1; have := h.k2
  exact c1 (geqT h.kT (litD 1) (by omega)) (c1 (leqT h.kT (litD 255) (by omega)) c0)
theorem Jj.csJ (q : Jj k j ρ) (h : k ≤ 255) : CRel ρ csJ := by
  have := q.j1; have := q.jk
  exact c1 (geqT (varD q.hj) (litD 1) (by omega)) (c1 (leqT (varD q.hj) (litD 255) (by omega)) c0)
theorem uT_den (h : Jn n k ρ) {t : IT} {x i : Nat} (ht : t.den ρ = some (x : Int)) : (uT i t).den ρ = some 0 := by
  have := unD (k := 0) (unD (k := 20) h.kT (litD 2)) (elemD (sz := 2) (j := i) (litD (ρ := ρ) ((0 : Nat) : Int)) ht)
  refine Eq.trans this ?_
  show some ((decL (encL (List.replicate ((k : Int).toNat * (2 : Int).toNat) 0))).getD _ 0) = _
  rw [decL_encL, List.getD_eq_getElem?_getD, List.getElem?_replicate]
  split <;> rfl
theorem fRd_ok (h : Jn n k ρ) {t u : IT} {x m : Nat} (ht : t.den ρ = some (x : Int)) (hn : u.den ρ = some (m : Int)) (hx : x < k) (hm : 1 ≤ m) {b : Bool} (hb : decide (1 < m) = b) : CRel ρ (fRd t u b) := by
  refine c1 (neqF (uT_den h ht) (litD 0) rfl) (c1 (lssF (uT_den h ht) (litD 0) (by omega)) (c1 (geqF (uT_den h ht) (litD 9) (by omega)) (c1 (eqlT (uT_den h ht) (litD 0) rfl) (c1 rfl (c1 (lssT (litD 0) hn (by omega)) (c1 rfl (c1 (leqT (litD 1) hn (by omega)) (c1 (geqT ht (litD 0) (by omega)) (c1 (lssT ht h.kT (by omega)) (c1 ?_ c0))))))))))
  have e : (IT.un 14 u (.lit 1)).den ρ = some ((m - 1 : Nat) : Int) := by
    rw [unD hn (litD 1), univ14, if_pos (by omega)]; congr 1; omega
  rw [cmpD e (litD 0)]; simp only [intCmp, Option.some.injEq]; rw [← hb, decide_eq_decide]; omega
theorem i1_den (q : Jj k j ρ) : i1.den ρ = some (j : Int) := by
  have := elemD (sz := 1) (j := 0) (varD q.o) (litD (ρ := ρ) ((0 : Nat) : Int))
  refine Eq.trans this ?_
  simp
end
theorem sp4_ok {β : Base} : CallOk Try.prog β sp4 := by
  refine spL_ok fun p hp => ?_
  simp only [List.mem_cons, List.not_mem_nil, or_false] at hp
  rcases hp with rfl | rfl
  · exact spTrue_ok first6
  · exact sp40_ok
section
variable (w0 : World) {n k : Nat}
theorem loopR2 : ∀ ρ, (Jn n k ρ ∧ ρ.I 11 = (k : Int)) → ∀ todo a w, todo = .inLoop b1 :: k1 ∨ todo = .code (.loop b1) :: k1 → SRel (.plain w0) ρ (R2.st todo) a w → Goes Try.prog 4 (RT w0) todo a w := by
  refine loop_goesD (n := 4000) (g := gP) (pl := true) (Ts := Ls) (Q := QT) (β := .plain w0) noCount noExt sp4_ok follows rfl (fun ρ => Jn n k ρ ∧ ρ.I 11 = (k : Int)) (fun _ => 0) (fun ρ hJ hH hcs hG ih => ?_)
  obtain ⟨h, hj⟩ := hJ
  have := h.n2
  have en : nT.den ρ = some (n : Int) := cvN h.hn h.n2
  exact ⟨_, _, CRel_app.2 ⟨CRel_app.2 ⟨c1 (lssF (varD hj) h.kT (by omega)) c0, c1 (neqT (varD h.hd) (litD 0) (by omega)) (c1 (eqlT (varD h.hd) (plusD en (litD 1) (by omega) (by omega)) (by omega)) (c1 (eqlT (varD hj) h.kT rfl) c0))⟩, hcs⟩, r2e, one (retS (z := .bool true) (fun ρ' _ => rfl) rfl)⟩
theorem toR2 {ρ : Env} {t : IT} {cs : Cs} (h : Jn n k ρ) (ht : ∀ ρ', ρ.Le ρ' → t.den ρ' = some (k : Int)) : SumGood Try.prog (.plain w0) 4 QT Ls ρ (.next 1 (.inLoop b1 :: k1) cs (sE t)) := by
  refine nextS (T := R2) rfl fun ρ' hle hG' => ?_
  have hl := h.of_le hle
  have h' : Jn n k ((sE t).app ρ') := ⟨sbI (t := .var 20) rfl (varD hl.hn), sbI (t := .var 21) rfl (varD hl.hk), h.n2, h.k1, h.k2, sbI (t := .var 12) rfl (varD hl.hd)⟩
  exact ⟨trivial, c0, fun a w r => loopR2 w0 _ ⟨h', sbI (t := t) rfl (ht ρ' hle)⟩ _ a w (.inl rfl) r⟩
theorem loopR1 : ∀ ρ, (∃ j, Jn n k ρ ∧ Jj k j ρ) → ∀ todo a w, todo = .inLoop b1 :: k1 ∨ todo = .code (.loop b1) :: k1 → SRel (.plain w0) ρ (R1.st todo) a w → Goes Try.prog 4 (RT w0) todo a w := by
  refine loop_goesD (n := 4000) (g := gP) (pl := true) (Ts := Ls) (Q := QT) (β := .plain w0) noCount noExt sp4_ok follows rfl (fun ρ => ∃ j, Jn n k ρ ∧ Jj k j ρ) (fun ρ => ((k : Int) - ρ.I 11).toNat) (fun ρ hJ hH hcs hG ih => ?_)
  obtain ⟨j, h, q⟩ := hJ
  have hjk := q.jk; have hk2 := h.k2; have hj1 := q.j1
  have fj : CRel ρ (ji (.var 11) true) := c1 (lssT (varD q.hj) h.kT (by omega)) c0
  by_cases hl : 1 < k - j
  · refine ⟨_, _, CRel_app.2 ⟨CRel_app.2 ⟨fj, fRd_ok h (i1_den q) (varD q.hm) hjk (by omega) (b := true) (decide_eq_true hl)⟩, hcs⟩, r1t, one (nextS (T := R1) rfl fun ρ' hle hG' => ?_)⟩
    have hl' := h.of_le hle
    have ql := q.of_le hle
    obtain ⟨c, hc, hck⟩ := ql.c
    have h' : Jn n k (sD.app ρ') := ⟨sbI (t := .var 20) rfl (varD hl'.hn), sbI (t := .var 21) rfl (varD hl'.hk), h.n2, h.k1, h.k2, sbI (t := .var 12) rfl (varD hl'.hd)⟩
    have q' : Jj k (j + 1) (sD.app ρ') := by
      refine ⟨sbI (t := upT 11) rfl (upD (varD ql.hj) (by omega)), sbI (t := .elem (.var 15) 1 0 (.un 13 (.lit 1) (.var 17))) rfl ?_, sbI (t := .un 14 (.var 16) (.lit 1)) rfl ?_, ⟨c, sbI (t := .un 14 (.var 17) (.lit 1)) rfl ?_, hck⟩, by omega, by omega⟩
      · have e : (IT.un 13 (.lit 1) (.var 17)).den ρ' = some ((1 : Nat) : Int) := by
          rw [unD (litD 1) (varD hc), univ13, if_neg (by omega)]; rfl
        rw [elemD (varD ql.o) e]
      · rw [unD (varD ql.hm) (litD 1), univ14, if_pos (by omega)]; congr 1; omega
      · rw [unD (varD hc) (litD 1), univ14, if_pos (by omega)]; congr 1; omega
    refine ⟨trivial, CRel_app.2 ⟨q'.csJ hk2, h'.csK⟩, fun a w r => ih _ ?_ ⟨j + 1, h', q'⟩ _ a w (.inl rfl) r⟩
    rw [q'.hj, q.hj]; omega
  · refine ⟨_, _, CRel_app.2 ⟨CRel_app.2 ⟨fj, fRd_ok h (i1_den q) (varD q.hm) hjk (by omega) (b := false) (decide_eq_false hl)⟩, hcs⟩, r1f, one (toR2 w0 h fun ρ' hle => ?_)⟩
    rw [show upT 11 = .bin .add .i64 (.var 11) (.lit 1) from rfl, upD (varD (q.of_le hle).hj) (by omega)]; congr 2; omega
theorem loopR0 : ∀ ρ, Jn n k ρ → ∀ todo a w, todo = .inLoop b1 :: k1 ∨ todo = .code (.loop b1) :: k1 → SRel (.plain w0) ρ (R0.st todo) a w → Goes Try.prog 4 (RT w0) todo a w := by
  refine loop_goesD (n := 4000) (g := gP) (pl := true) (Ts := Ls) (Q := QT) (β := .plain w0) noCount noExt sp4_ok follows rfl (fun ρ => Jn n k ρ) (fun _ => 0) (fun ρ h hH hcs hG ih => ?_)
  have hk2 := h.k2; have hk1 := h.k1
  obtain ⟨w1, hh⟩ := hH
  obtain ⟨m, c, hm, hc, hmc⟩ := hh.room (l := 12) (t := .code [.u64, .i64] (.un 20 kT (.lit 2))) (ks := [.u64, .i64]) (e := 35) (an := kT) (off := .lit 0) (cp := .nv 11) (rw := true) rfl (by simp)
  obtain rfl : m = k := by have := hm.symm.trans h.kT; exact Int.ofNat.inj (Option.some.inj this)
  obtain ⟨c', h11⟩ : ∃ c', ρ.N 11 = some c' := by
    cases h11 : ρ.N 11 with
    | none => simp only [IT.den, h11] at hc; cases hc
    | some c' => exact ⟨c', rfl⟩
  obtain rfl : c' = c := by have := (nvD h11).symm.trans hc; exact Int.ofNat.inj (Option.some.inj this)
  have fj : CRel ρ (ji (.lit 0) true) := c1 (lssT (litD 0) h.kT (by omega)) c0
  have l0 : (IT.lit 0).den ρ = some ((0 : Nat) : Int) := rfl
  by_cases hl : 1 < m
  · refine ⟨_, _, CRel_app.2 ⟨CRel_app.2 ⟨fj, fRd_ok h l0 h.kT (by omega) hk1 (b := true) (decide_eq_true hl)⟩, hcs⟩, r0t, one (nextS (T := R1) rfl fun ρ' hle hG' => ?_)⟩
    have hl' := h.of_le hle
    have e11 := nvD (hle.n _ _ h11)
    have h' : Jn n m (sC.app ρ') := ⟨sbI (t := .var 20) rfl (varD hl'.hn), sbI (t := .var 21) rfl (varD hl'.hk), h.n2, h.k1, h.k2, sbI (t := .var 12) rfl (varD hl'.hd)⟩
    have q' : Jj m 1 (sC.app ρ') := by
      refine ⟨sbI (t := .lit 1) rfl rfl, sbI (t := .un 13 (.lit 1) (.nv 11)) rfl ?_, sbI (t := .un 14 kT (.lit 1)) rfl ?_, ⟨c', sbI (t := .un 14 (.nv 11) (.lit 1)) rfl ?_, hmc⟩, Nat.le_refl _, hl⟩
      · rw [unD (litD 1) e11, univ13, if_neg (by omega)]; rfl
      · rw [unD hl'.kT (litD 1), univ14, if_pos (by omega)]; congr 1; omega
      · rw [unD e11 (litD 1), univ14, if_pos (by omega)]; congr 1; omega
    exact ⟨trivial, CRel_app.2 ⟨q'.csJ hk2, h'.csK⟩, fun a w r => loopR1 w0 _ ⟨1, h', q'⟩ _ a w (.inl rfl) r⟩
  · refine ⟨_, _, CRel_app.2 ⟨CRel_app.2 ⟨fj, fRd_ok h l0 h.kT (by omega) hk1 (b := false) (decide_eq_false hl)⟩, hcs⟩, r0f, one (toR2 w0 h fun ρ' _ => ?_)⟩
    have : (m : Int) = 1 := by omega
    rw [this]; rfl
theorem loopG0 {z : Bool} (hn : n ≤ 255) (hk : z = true → 1 ≤ k ∧ k ≤ 255) : ∀ ρ, (ρ.I 20 = (n : Int) ∧ (z = true → ρ.I 21 = (k : Int)) ∧ ∃ i : Nat, ρ.I 10 = (i : Int) ∧ i ≤ n) → ∀ todo a w, todo = .inLoop b0 :: k0 ∨ todo = .code (.loop b0) :: k0 → SRel (.plain w0) ρ ((G0 z).st todo) a w → Goes Try.prog 4 (RT w0) todo a w := by
  refine loop_goesD (n := 4000) (g := gP) (pl := true) (Ts := G0 z :: Ls) (Q := QT) (β := .plain w0) noCount noExt sp4_ok follows rfl (fun ρ => ρ.I 20 = (n : Int) ∧ (z = true → ρ.I 21 = (k : Int)) ∧ ∃ i : Nat, ρ.I 10 = (i : Int) ∧ i ≤ n) (fun ρ => ((n : Int) - ρ.I 10).toNat) (fun ρ hJ hH hcs hG ih => ?_)
  obtain ⟨h20, h21, i, h10, hi⟩ := hJ
  have en : nT.den ρ = some (n : Int) := cvN h20 hn
  have en1 := plusD en (litD 1) (by omega) (by omega)
  have ei1 := plusD (varD h10) (litD 1) (by omega) (by omega)
  by_cases hlt : i < n
  · refine ⟨_, _, CRel_app.2 ⟨CRel_app.2 ⟨c1 (lssT (varD h10) en (by omega)) c0, c1 (eqlF ei1 en1 (by omega)) c0⟩, hcs⟩, g0x z, one (nextS (T := G0 z) rfl fun ρ' hle hG' => ?_)⟩
    have e10 : ((sA z (upT 10)).app ρ').I 10 = ((i + 1 : Nat) : Int) := sbI (t := upT 10) rfl (upD (varD (by rw [hle.i]; exact h10)) (by omega))
    refine ⟨trivial, c0, fun a w r => ih _ ?_ ⟨sbI (t := .var 20) rfl (varD (by rw [hle.i]; exact h20)), fun hz => ?_, i + 1, e10, by omega⟩ _ a w (.inl rfl) r⟩
    · rw [e10, h10]; omega
    · subst hz
      exact sbI (t := .var 21) rfl (varD (by rw [hle.i]; exact h21 rfl))
  · obtain rfl : i = n := by omega
    have pre := CRel_app.2 ⟨CRel_app.2 ⟨c1 (lssF (varD h10) en (by omega)) (c0 (ρ := ρ)), c1 (neqF (varD h10) en rfl) c0⟩, c1 (eqlT ei1 en1 rfl) c0⟩
    cases z with
    | false => exact ⟨_, _, CRel_app.2 ⟨pre, hcs⟩, g0z, one (retS (z := .bool true) (fun ρ' _ => rfl) rfl)⟩
    | true =>
      obtain ⟨hk1, hk2⟩ := hk rfl
      have h21 := h21 rfl
      have ek : kT.den ρ = some (k : Int) := cvN h21 hk2
      refine ⟨_, _, CRel_app.2 ⟨CRel_app.2 ⟨pre, c1 (geqT ek (litD 1) (by omega)) (c1 (leqT ek (litD 1000000) (by omega)) (c1 (eqlF (varD h21) (litD 0) (by omega)) c0))⟩, hcs⟩, g0n, one (nextS (T := R0) rfl fun ρ' hle hG' => ?_)⟩
      have h' : Jn i k (sB.app ρ') := ⟨sbI (t := .var 20) rfl (varD (by rw [hle.i]; exact h20)), sbI (t := .var 21) rfl (varD (by rw [hle.i]; exact h21)), hn, hk1, hk2, sbI (t := upT 10) rfl (upD (varD (by rw [hle.i]; exact h10)) (by omega))⟩
      exact ⟨trivial, h'.csK, fun a w r => loopR0 w0 _ h' _ a w (.inr rfl) r⟩
end
def envG (n k : Nat) : Env := ⟨fun i => if i = 20 then n else if i = 21 then k else 0, fun _ => false, fun _ => default, fun _ => undef, fun _ => none, F0⟩
/-- THE LAW's WALK. -/
theorem gears_walk (W : World) (n k : Nat) (hn : n ≤ 255) (hk : k ≤ 255) : Calls Try.prog 4 #[.int .u8 (n : Int), .int .u8 (k : Int)] W (fun e w' => e = .returned (.bool true) ∧ Framed W w') := by
  obtain ⟨z, hz, hzk⟩ : ∃ z : Bool, (z = true → 1 ≤ k ∧ k ≤ 255) ∧ (kV z).den (envG n k) = some (k : Int) := by
    rcases Nat.eq_zero_or_pos k with rfl | h
    · exact ⟨false, (fun e => by cases e), rfl⟩
    · exact ⟨true, fun _ => ⟨h, hk⟩, rfl⟩
  have hx : AVal.denL (envG n k) [.int .u8 (.var 20), .int .u8 (kV z)] = some [.int .u8 (n : Int), .int .u8 (k : Int)] := denL2 rfl (by simp only [AVal.den, hzk, Option.map_some])
  refine (calls_sumsD (β := .plain W) (Q := QT) (Ts := G0 z :: Ls) (g := gP) (pl := true) noCount noExt sp4_ok follows rfl Try.func4 rfl (gE0 z) hx (HRel.start W _ fun _ => rfl) c0 (one (nextS (T := G0 z) rfl fun ρ' hle hG' => ?_))).mono fun e w' ⟨v, he, hv, hf⟩ => ⟨by rw [he, hv], hf⟩
  refine ⟨trivial, c0, fun a w' r => loopG0 W hn hz _ ⟨sbI (t := .var 20) rfl (varD (by rw [hle.i]; rfl)), fun h => ?_, 0, sbI (t := .lit 0) rfl rfl, Nat.zero_le _⟩ _ a w' (.inr rfl) r⟩
  subst h
  exact sbI (t := .var 21) rfl (varD (by rw [hle.i]; rfl))
end Gr
end Go.Proofs.Ytighjgmgpphohaa
