/-
  Pace (5): PaceLatest: its loop.
-/
import Derived.Test.YtighjgmgpphohaaPc4
namespace Go.Proofs.Ytighjgmgpphohaa
open Go.Vm Go.RowKit Go.Lib

structure Jp (M N i k : Nat) (ρ : Env) : Prop where
  hN : ρ.I 20 = (N : Int)
  hM : ρ.I 21 = (M : Int)
  hI : ρ.I 10 = (i : Int)
  hK : ρ.I 9 = (k : Int)
  le : i ≤ N
  n1 : 1 ≤ N
  n2 : N ≤ 200
  m5 : M ≤ 50
  kM : k ≤ M
structure Jr (N i r : Nat) (ρ : Env) : Prop where
  r3 : ρ.I 3 = (r : Int)
  o : ρ.I 15 = (r : Int)
  n : ρ.I 16 = ((N - r : Nat) : Int)
  c : ∃ c : Nat, ρ.I 17 = ((c - r : Nat) : Int) ∧ N ≤ c
  r1 : 1 ≤ r
  ri : r ≤ i
  rN : r < N
theorem Jp.of_le {M N i k : Nat} {ρ ρ' : Env} (h : Jp M N i k ρ) (g : ρ.Le ρ') : Jp M N i k ρ' := ⟨by rw [g.i]; exact h.hN, by rw [g.i]; exact h.hM, by rw [g.i]; exact h.hI, by rw [g.i]; exact h.hK, h.le, h.n1, h.n2, h.m5, h.kM⟩
theorem Jr.of_le {N i r : Nat} {ρ ρ' : Env} (h : Jr N i r ρ) (g : ρ.Le ρ') : Jr N i r ρ' := ⟨by rw [g.i]; exact h.r3, by rw [g.i]; exact h.o, by rw [g.i]; exact h.n, by rw [g.i]; exact h.c, h.r1, h.ri, h.rN⟩
theorem Jp.cs {M N i k : Nat} {ρ : Env} (h : Jp M N i k ρ) : CRel ρ csP := by
  have := h.n1; have := h.n2; have := h.m5
  exact c1 (gtrF (varD h.hM) (litD 50) (by omega)) (c1 (gtrF (varD h.hN) (litD 200) (by omega)) (c1 (geqT (varD h.hN) (litD 1) (by omega)) (c1 (leqT (varD h.hN) (litD 1000000) (by omega)) c0)))
theorem univ13 (x y : Int) : univ 13 x y = if x = y then 0 else x := rfl
theorem univ14 (x y : Int) : univ 14 x y = if y ≤ x then x - y else 0 := rfl
section
variable {z : Zv} {M N i k r : Nat} {ρ : Env}
theorem fIn_ok (h : Jp M N i k ρ) {b : Bool} (hb : decide (i < N) = b) : CRel ρ (fIn b) := by
  refine c1 (geqT (varD h.hI) (litD 0) (by omega)) (c1 ?_ c0)
  rw [cmpD (varD h.hI) (varD h.hN)]; simp only [intCmp, Option.some.injEq]; rw [← hb, decide_eq_decide]; omega
theorem fPar_ok (h : Jp M N i k ρ) : CRel ρ (fPar ((selI (ρ.V 1) (i * 1 + 0)).tmod 2 == 0)) := by
  have e : (IT.bin .rem .u8 (.sel 1 1 0 (.var 10)) (.lit 2)).den ρ = some ((selI (ρ.V 1) (i * 1 + 0)).tmod 2) := by
    rw [binD (selD (varD h.hI)) (litD 2)]; rfl
  exact c1 (by rw [cmpD e (litD 0)]; rfl) c0
theorem fKT_ok (h : Jp M N i k ρ) (hk : k < M) : CRel ρ (fK .row true) := c1 (geqT (varD h.hK) (litD 0) (by omega)) (c1 (lssT (varD h.hK) (varD h.hM) (by omega)) c0)
theorem fKF_ok (h : Jp M N i k ρ) (hk : z = .row → M ≤ k) : CRel ρ (fK z false) := by
  refine c1 (geqT (varD h.hK) (litD 0) (by omega)) (c1 ?_ c0)
  cases z with
  | row => exact lssF (varD h.hK) (varD h.hM) (by have := hk rfl; omega)
  | nil => exact lssF (varD h.hK) (litD 0) (by omega)
  | zero => exact lssF (varD h.hK) (litD 0) (by omega)
theorem uT_den (h : Jp M N i k ρ) {t : IT} {x j : Nat} (ht : t.den ρ = some (x : Int)) : (uT j t).den ρ = some 0 := by
  have := unD (k := 0) (unD (k := 20) (varD h.hN) (litD 2)) (elemD (sz := 2) (j := j) (litD (ρ := ρ) ((0 : Nat) : Int)) ht)
  refine Eq.trans this ?_
  show some ((decL (encL (List.replicate ((N : Int).toNat * (2 : Int).toNat) 0))).getD _ 0) = _
  rw [decL_encL, List.getD_eq_getElem?_getD, List.getElem?_replicate]
  split <;> rfl
theorem fRd_ok (h : Jp M N i k ρ) {t n : IT} {x m : Nat} (ht : t.den ρ = some (x : Int)) (hn : n.den ρ = some (m : Int)) (hx : x < N) (hm : 1 ≤ m) {b : Bool} (hb : decide (1 < m) = b) : CRel ρ (fRd t n b) := by
  refine c1 (neqF (uT_den h ht) (litD 0) rfl) (c1 (lssF (uT_den h ht) (litD 0) (by omega)) (c1 (geqF (uT_den h ht) (litD 9) (by omega)) (c1 (eqlT (uT_den h ht) (litD 0) rfl) (c1 rfl (c1 (lssT (litD 0) hn (by omega)) (c1 rfl (c1 (leqT (litD 1) hn (by omega)) (c1 (geqT ht (litD 0) (by omega)) (c1 (lssT ht (varD h.hN) (by omega)) (c1 ?_ c0))))))))))
  have e : (IT.un 14 n (.lit 1)).den ρ = some ((m - 1 : Nat) : Int) := by
    rw [unD hn (litD 1), univ14, if_pos (by omega)]; congr 1; omega
  rw [cmpD e (litD 0)]; simp only [intCmp, Option.some.injEq]; rw [← hb, decide_eq_decide]; omega
theorem fNn_ok (h : Jp M N i k ρ) (q : Jr N i r ρ) : CRel ρ fNn := by
  have := q.r1; have := q.rN; have := h.n2
  exact c1 (geqT (varD q.r3) (litD 1) (by omega)) (c1 (leqT (varD q.r3) (litD 1000000) (by omega)) c0)
theorem i1_den (q : Jr N i r ρ) : i1.den ρ = some (r : Int) := by
  have := elemD (sz := 1) (j := 0) (varD q.o) (litD (ρ := ρ) ((0 : Nat) : Int))
  refine Eq.trans this ?_
  simp
-- WHAT A ROUND BRINGS
theorem Jp.write (h : Jp M N i k ρ) (hi : i < N) (hk : k < M) {I : List (Nat × IT)} {Nl : List (Nat × Nat)} (e9 : lk I 9 = some (upT 9)) (e10 : lk I 10 = some (upT 10)) : Jp M N (i + 1) (k + 1) ((cs1z .row I Nl).app ρ) := by
  have := h.n2; have := h.m5
  exact ⟨sbI (t := .var 20) rfl (varD h.hN), sbI (t := .var 21) rfl (varD h.hM), sbI (t := upT 10) e10 (upD (varD h.hI) (by omega)), sbI (t := upT 9) e9 (upD (varD h.hK) (by omega)), by omega, h.n1, h.n2, h.m5, by omega⟩
theorem Jp.read (h : Jp M N i k ρ) (hi : i < N) {I : List (Nat × IT)} {Nl : List (Nat × Nat)} (e9 : lk I 9 = some (.var 9)) (e10 : lk I 10 = some (upT 10)) (e21 : lk I 21 = none) : Jp M N (i + 1) k ((cs1z z I Nl).app ρ) := by
  have := h.n2
  refine ⟨sbI (t := .var 20) (by cases z <;> rfl) (varD h.hN), ?_, sbI (t := upT 10) (by cases z <;> exact e10) (upD (varD h.hI) (by omega)), sbI (t := .var 9) (by cases z <;> exact e9) (varD h.hK), by omega, h.n1, h.n2, h.m5, h.kM⟩
  cases z with
  | row => exact sbI (t := .var 21) rfl (varD h.hM)
  | nil =>
    have : lk (cs1z .nil I Nl).I 21 = none := e21
    rw [app_I this]; exact h.hM
  | zero =>
    have : lk (cs1z .zero I Nl).I 21 = none := e21
    rw [app_I this]; exact h.hM
/-- The first read. -/
theorem Jr.first (h : Jp M N i k ρ) {c : Nat} (h7 : ρ.N 7 = some c) (hc : N ≤ c) (h1 : 1 < N) : Jr N (i + 1) 1 ((s0r z).app ρ) := by
  have e7 := nvD h7
  refine ⟨sbI (t := .lit 1) (by cases z <;> rfl) rfl, sbI (t := .un 13 (.lit 1) (.nv 7)) (by cases z <;> rfl) ?_, sbI (t := .un 14 (.var 20) (.lit 1)) (by cases z <;> rfl) ?_, ⟨c, sbI (t := .un 14 (.nv 7) (.lit 1)) (by cases z <;> rfl) ?_, hc⟩, Nat.le_refl _, by omega, h1⟩
  · rw [unD (litD 1) e7, univ13, if_neg (by omega)]; rfl
  · rw [unD (varD h.hN) (litD 1), univ14, if_pos (by omega)]; congr 1; omega
  · rw [unD e7 (litD 1), univ14, if_pos (by omega)]; congr 1; omega
theorem Jr.next (h : Jp M N i k ρ) (q : Jr N i r ρ) (h1 : r + 1 < N) : Jr N (i + 1) (r + 1) ((s1r z).app ρ) := by
  obtain ⟨c, hc, hcN⟩ := q.c
  have := h.n2; have := q.ri
  refine ⟨sbI (t := upT 3) (by cases z <;> rfl) (upD (varD q.r3) (by omega)), sbI (t := .elem (.var 15) 1 0 (.un 13 (.lit 1) (.var 17))) (by cases z <;> rfl) ?_, sbI (t := .un 14 (.var 16) (.lit 1)) (by cases z <;> rfl) ?_, ⟨c, sbI (t := .un 14 (.var 17) (.lit 1)) (by cases z <;> rfl) ?_, hcN⟩, by omega, by omega, h1⟩
  · have e : (IT.un 13 (.lit 1) (.var 17)).den ρ = some ((1 : Nat) : Int) := by
      rw [unD (litD 1) (varD hc), univ13, if_neg (by omega)]; rfl
    rw [elemD (varD q.o) e]
  · rw [unD (varD q.n) (litD 1), univ14, if_pos (by omega)]; congr 1; omega
  · rw [unD (varD hc) (litD 1), univ14, if_pos (by omega)]; congr 1; omega
end
-- CALLEES
theorem sp3_ok {β : Base} : CallOk Try.prog β sp3 := by
  refine spL_ok fun p hp => ?_
  simp only [List.mem_cons, List.not_mem_nil, or_false] at hp
  rcases hp with rfl | rfl | rfl | rfl
  · exact spTrue_ok first6
  · exact sp40_ok
  · exact sp43_ok
  · exact spWords_ok
-- THE LOOPS
section
variable (w0 : World) {z : Zv} {M N : Nat}
theorem loopP2 : ∀ ρ, (∃ k, Jp M N N k ρ ∧ ρ.I 3 = (N : Int)) → ∀ todo a w, todo = .inLoop pb0 :: pk0 ∨ todo = .code (.loop pb0) :: pk0 → SRel (.plain w0) ρ ((T2 z).st todo) a w → Goes Try.prog 3 (RT w0) todo a w := by
  refine loop_goesD (n := 4000) (g := gP) (pl := true) (Ts := Ts z) (Q := QT) (β := .plain w0) noCount noExt sp3_ok follows rfl (fun ρ => ∃ k, Jp M N N k ρ ∧ ρ.I 3 = (N : Int)) (fun _ => 0) (fun ρ hJ hH hcs hG ih => ?_)
  obtain ⟨k, h, h3⟩ := hJ
  have := h.n1; have := h.n2
  exact ⟨_, _, CRel_app.2 ⟨CRel_app.2 ⟨CRel_app.2 ⟨fIn_ok h (b := false) (decide_eq_false (by omega)), c1 (geqT (varD h3) (litD 1) (by omega)) (c1 (leqT (varD h3) (litD 1000000) (by omega)) c0)⟩, c1 (geqT (varD h3) (varD h.hN) (by omega)) c0⟩, hcs⟩, p2e z, one (retS (z := .bool true) (fun ρ' _ => rfl) rfl)⟩
variable (hz : z ≠ .row → M = 0)
include hz
theorem loopP1 : ∀ ρ, (∃ i k r, Jp M N i k ρ ∧ Jr N i r ρ) → ∀ todo a w, todo = .inLoop pb0 :: pk0 ∨ todo = .code (.loop pb0) :: pk0 → SRel (.plain w0) ρ ((T1 z).st todo) a w → Goes Try.prog 3 (RT w0) todo a w := by
  refine loop_goesD (n := 4000) (g := gP) (pl := true) (Ts := Ts z) (Q := QT) (β := .plain w0) noCount noExt sp3_ok follows rfl (fun ρ => ∃ i k r, Jp M N i k ρ ∧ Jr N i r ρ) (fun ρ => ((N : Int) - ρ.I 10).toNat) (fun ρ hJ hH hcs hG ih => ?_)
  obtain ⟨i, k, r, h, q⟩ := hJ
  have hle := h.le; have hN := h.n2; have hri := q.ri; have hrN := q.rN; have hr1 := q.r1
  by_cases hi : i < N
  rotate_left
  · exact ⟨_, _, CRel_app.2 ⟨CRel_app.2 ⟨CRel_app.2 ⟨fIn_ok h (b := false) (decide_eq_false hi), fNn_ok h q⟩, c1 (geqF (varD q.r3) (varD h.hN) (by omega)) c0⟩, hcs⟩, p1e z, one (retS (z := .bool true) (fun ρ' _ => rfl) rfl)⟩
  have fi := fIn_ok h (b := true) (decide_eq_true hi)
  have fn := fNn_ok h q
  have fr := fRd_ok h (i1_den q) (varD q.n) hrN (by omega) (b := decide (1 < N - r)) rfl
  have rd : ∀ s ∈ [nx (cond (decide (1 < N - r)) 0 1) (s1r z)], SumGood Try.prog (.plain w0) 3 QT (Ts z) ρ s := by
    refine one ?_
    by_cases hl : 1 < N - r
    · rw [decide_eq_true hl]
      refine nextS (T := T1 z) rfl fun ρ' hle' hG' => ?_
      have h' : Jp M N (i + 1) k ((s1r z).app ρ') := (h.of_le hle').read hi rfl rfl rfl
      have q' : Jr N (i + 1) (r + 1) ((s1r z).app ρ') := Jr.next (h.of_le hle') (q.of_le hle') (by omega)
      refine ⟨trivial, h'.cs, fun a w rr => ih _ ?_ ⟨_, _, _, h', q'⟩ _ a w (.inl rfl) rr⟩
      rw [h'.hI, h.hI]; omega
    · rw [decide_eq_false hl]
      refine nextS (T := T2 z) rfl fun ρ' hle' hG' => ?_
      have h' : Jp M N (i + 1) k ((s1r z).app ρ') := (h.of_le hle').read hi rfl rfl rfl
      have h3 : ((s1r z).app ρ').I 3 = ((r + 1 : Nat) : Int) := sbI (t := upT 3) (by cases z <;> rfl) (upD (varD (q.of_le hle').r3) (by omega))
      obtain rfl : N = i + 1 := by omega
      exact ⟨trivial, h'.cs, fun a w rr => loopP2 w0 _ ⟨_, h', by rw [h3]; congr 1; omega⟩ _ a w (.inl rfl) rr⟩
  have par := fPar_ok h
  cases hp : (selI (ρ.V 1) (i * 1 + 0)).tmod 2 == 0 with
  | false =>
    rw [hp] at par
    exact ⟨_, _, CRel_app.2 ⟨CRel_app.2 ⟨CRel_app.2 ⟨CRel_app.2 ⟨fi, par⟩, fr⟩, fn⟩, hcs⟩, p1r2 z _, rd⟩
  | true =>
    rw [hp] at par
    by_cases hk : k < M
    · obtain rfl : z = .row := by
        cases z with
        | row => rfl
        | nil => have := hz (by simp); omega
        | zero => have := hz (by simp); omega
      refine ⟨_, _, CRel_app.2 ⟨CRel_app.2 ⟨CRel_app.2 ⟨fi, par⟩, fKT_ok h hk⟩, hcs⟩, p1w, one (nextS (T := T1 .row) rfl fun ρ' hle' hG' => ?_)⟩
      have h' : Jp M N (i + 1) (k + 1) ((s1w .row).app ρ') := (h.of_le hle').write hi hk rfl rfl
      have ql := q.of_le hle'
      have q' : Jr N (i + 1) r ((s1w .row).app ρ') := ⟨sbI (t := .var 3) rfl (varD ql.r3), sbI (t := .var 15) rfl (varD ql.o), sbI (t := .var 16) rfl (varD ql.n), ql.c.imp fun c hc => ⟨sbI (t := .var 17) rfl (varD hc.1), hc.2⟩, hr1, by omega, hrN⟩
      refine ⟨trivial, h'.cs, fun a w rr => ih _ ?_ ⟨_, _, _, h', q'⟩ _ a w (.inl rfl) rr⟩
      rw [h'.hI, h.hI]; omega
    · exact ⟨_, _, CRel_app.2 ⟨CRel_app.2 ⟨CRel_app.2 ⟨CRel_app.2 ⟨CRel_app.2 ⟨fi, par⟩, fKF_ok h (fun _ => by omega)⟩, fr⟩, fn⟩, hcs⟩, p1r1 z _, rd⟩
theorem loopP0 : ∀ ρ, (∃ i k, Jp M N i k ρ) → ∀ todo a w, todo = .inLoop pb0 :: pk0 ∨ todo = .code (.loop pb0) :: pk0 → SRel (.plain w0) ρ ((T0 z).st todo) a w → Goes Try.prog 3 (RT w0) todo a w := by
  refine loop_goesD (n := 4000) (g := gP) (pl := true) (Ts := Ts z) (Q := QT) (β := .plain w0) noCount noExt sp3_ok follows rfl (fun ρ => ∃ i k, Jp M N i k ρ) (fun ρ => ((N : Int) - ρ.I 10).toNat) (fun ρ hJ hH hcs hG ih => ?_)
  obtain ⟨i, k, h⟩ := hJ
  have hle := h.le; have hN := h.n2; have hN1 := h.n1
  obtain ⟨w1, hh⟩ := hH
  obtain ⟨m, c, hm, hc, hmc⟩ := hh.room (l := 8) (t := .code [.u64, .i64] (.un 20 (.var 20) (.lit 2))) (ks := [.u64, .i64]) (e := 35) (an := .var 20) (off := .lit 0) (cp := .nv 7) (rw := true) (by cases z <;> rfl) (by simp)
  obtain rfl : m = N := by have := hm.symm.trans (varD h.hN); exact Int.ofNat.inj (Option.some.inj this)
  obtain ⟨c', h7⟩ : ∃ c', ρ.N 7 = some c' := by
    cases h7 : ρ.N 7 with
    | none => simp only [IT.den, h7] at hc; cases hc
    | some c' => exact ⟨c', rfl⟩
  obtain rfl : c' = c := by have := (nvD h7).symm.trans hc; exact Int.ofNat.inj (Option.some.inj this)
  by_cases hi : i < m
  rotate_left
  · exact ⟨_, _, CRel_app.2 ⟨CRel_app.2 ⟨fIn_ok h (b := false) (decide_eq_false hi), c1 (geqF (litD 0) (varD h.hN) (by omega)) c0⟩, hcs⟩, p0e z, one (retS (z := .bool true) (fun ρ' _ => rfl) rfl)⟩
  have fi := fIn_ok h (b := true) (decide_eq_true hi)
  have fr := fRd_ok h (t := .lit 0) (litD (0 : Nat)) (varD h.hN) (by omega) hN1 (b := decide (1 < m)) rfl
  have rd : ∀ s ∈ [nx (cond (decide (1 < m)) 0 1) (s0r z)], SumGood Try.prog (.plain w0) 3 QT (Ts z) ρ s := by
    refine one ?_
    by_cases hl : 1 < m
    · rw [decide_eq_true hl]
      refine nextS (T := T1 z) rfl fun ρ' hle' hG' => ?_
      have h' : Jp M m (i + 1) k ((s0r z).app ρ') := (h.of_le hle').read hi rfl rfl rfl
      have q' : Jr m (i + 1) 1 ((s0r z).app ρ') := Jr.first (h.of_le hle') (hle'.n _ _ h7) hmc hl
      exact ⟨trivial, h'.cs, fun a w rr => loopP1 w0 hz _ ⟨_, _, _, h', q'⟩ _ a w (.inl rfl) rr⟩
    · rw [decide_eq_false hl]
      refine nextS (T := T2 z) rfl fun ρ' hle' hG' => ?_
      have h' : Jp M m (i + 1) k ((s0r z).app ρ') := (h.of_le hle').read hi rfl rfl rfl
      have h3 : ((s0r z).app ρ').I 3 = 1 := sbI (t := .lit 1) (by cases z <;> rfl) rfl
      obtain rfl : m = i + 1 := by omega
      exact ⟨trivial, h'.cs, fun a w rr => loopP2 w0 _ ⟨_, h', by rw [h3]; omega⟩ _ a w (.inl rfl) rr⟩
  have par := fPar_ok h
  cases hp : (selI (ρ.V 1) (i * 1 + 0)).tmod 2 == 0 with
  | false =>
    rw [hp] at par
    exact ⟨_, _, CRel_app.2 ⟨CRel_app.2 ⟨CRel_app.2 ⟨fi, par⟩, fr⟩, hcs⟩, p0r2 z _, rd⟩
  | true =>
    rw [hp] at par
    by_cases hk : k < M
    · obtain rfl : z = .row := by
        cases z with
        | row => rfl
        | nil => have := hz (by simp); omega
        | zero => have := hz (by simp); omega
      refine ⟨_, _, CRel_app.2 ⟨CRel_app.2 ⟨CRel_app.2 ⟨fi, par⟩, fKT_ok h hk⟩, hcs⟩, p0w, one (nextS (T := T0 .row) rfl fun ρ' hle' hG' => ?_)⟩
      have h' : Jp M m (i + 1) (k + 1) ((s0w .row).app ρ') := (h.of_le hle').write hi hk rfl rfl
      refine ⟨trivial, h'.cs, fun a w rr => ih _ ?_ ⟨_, _, h'⟩ _ a w (.inl rfl) rr⟩
      rw [h'.hI, h.hI]; omega
    · exact ⟨_, _, CRel_app.2 ⟨CRel_app.2 ⟨CRel_app.2 ⟨CRel_app.2 ⟨fi, par⟩, fKF_ok h (fun _ => by omega)⟩, fr⟩, hcs⟩, p0r1 z _, rd⟩
end
end Go.Proofs.Ytighjgmgpphohaa
