/-
  LinearModel (9): Apply, of every operation.
-/
import Derived.Test.YtpgonpjakllnjaaLm8
namespace Go.Proofs.Ytpgonpjakllnjaa
open Go.Vm Go.Vm.Md
namespace Lm

def spM9 : CallF := spL [(27, spA spRight), (22, spLeft), (51, spFloor)]
theorem a9 (z : Bq) : (run Try.prog [] spM9 4000 true 11 (entry Try.f11 (Try.f11.body.getD .ret) [me, opM 9] (ofP (hM 1 z)) 10 (fR 9 true ++ [(.cmp .geq (.var 31) (.lit 0), true), (.cmp .leq (.var 31) (.lit 255), true)] ++ csQ z))).map (·.filterMap (sumMD gM (oM z) (eM ans) [])) = some [.done (qz z) [] (sgM z (.fn 95 (.var 7) (.var 31)) (.fn 96 (.var 7) (.var 31)) m7 s8)] := by cases z <;> kernel_rfl
abbrev ApplyR (w : World) (bb : Nat) (F : Nat → Prop) (m : Mod) (c k a b : Int) (r : (Int × Int) × Mod) : Prop := Calls Try.prog 11 #[.pointer (some ⟨bb, 0, none⟩), .agg #[.int .i64 c, .int .i64 k, .int .i64 a, .int .i64 b]] w (fun e w' => ∃ v, e = .returned v ∧ RM w bb F r v w')
section
variable {w : World} {bb : Nat} {F : Nat → Prop} {z0 : Bq} {m : Mod} {k a b : Int} {ρ : Env}
variable {n : Nat}
theorem den_hd {b : Nat} {h : ρ.N 0 = some b} : me.den ρ = some (.pointer (some ⟨b, 0, none⟩)) := by simp only [me, AVal.den, h]; rfl
section
variable (hr : HRel ⟨w, oM z0, GL⟩ ρ (ofP (hM 1 z0)) 10 w) (hb : ρ.N 0 = some bb) (ho : ∀ l ∈ oM z0, ∃ y, ρ.N l = some y ∧ F y)
include hr hb ho
theorem w0 (s : SM m z0 0 k a b ρ) (hR : rgt 0 k a b = true) : ApplyR w bb F m 0 k a b (apply m 0 k a b) :=
  goD (n := 0) (a0 z0) hr s hb ho hR c0 (fun ρ' s' => ⟨rfl, rfl, k7 s', k8 s'⟩) rfl
theorem w3 (s : SM m z0 3 k a b ρ) (hR : rgt 3 k a b = true) : ApplyR w bb F m 3 k a b (apply m 3 k a b) :=
  goD (n := 3) (a3 z0) hr s hb ho hR c0 (fun ρ' s' => ⟨rfl, by
    cases z0 with
    | nil => rw [s'.n (by simp)]; rfl
    | zero => rw [s'.n (by simp)]; rfl
    | row => exact varD (s'.r rfl).2.1, k7 s', k8 s'⟩) rfl
theorem w4 (s : SM m z0 4 k a b ρ) (hR : rgt 4 k a b = true) : ApplyR w bb F m 4 k a b (apply m 4 k a b) :=
  goD (n := 4) (x := (had (mGet m.M k)).1) (y := (had (mGet m.M k)).2) (a4 z0 (mGet m.M k).isSome) hr s hb ho hR (f7 s rfl) (fun ρ' s' => ⟨by rw [kO, had1], hO (v7 s') rfl, k7 s', k8 s'⟩) rfl
theorem w5 (s : SM m z0 5 k a b ρ) (hR : rgt 5 k a b = true) : ApplyR w bb F m 5 k a b (apply m 5 k a b) :=
  goD (n := 5) (x := (had (mGet m.M k)).1) (y := (had (mGet m.M k)).2) (a5 z0 (mGet m.M k).isSome) hr s hb ho hR (f7 s rfl) (fun ρ' s' => ⟨by rw [kO, had1], hO (v7 s') rfl, p7 s' (varD s'.i32), k8 s'⟩) rfl
theorem w6 (s : SM m z0 6 k a b ρ) (hR : rgt 6 k a b = true) : ApplyR w bb F m 6 k a b (apply m 6 k a b) :=
  goD (n := 6) (x := (had (mGet m.M k)).1) (y := (had (mGet m.M k)).2) (a6 z0 (mGet m.M k).isSome) hr s hb ho hR (f7 s rfl) (fun ρ' s' => ⟨by rw [kO, had1], hO (v7 s') rfl, del_den (k7 s') (varD s'.i31), k8 s'⟩) rfl
theorem w7 (s : SM m z0 7 k a b ρ) (hR : rgt 7 k a b = true) : ApplyR w bb F m 7 k a b (apply m 7 k a b) := by
  cases hm : mGet m.M k with
  | none =>
    refine goD (n := 7) (a7n z0) hr s hb ho hR (f7 s (by rw [hm]; rfl)) (fun ρ' s' => ⟨rfl, rfl, k7 s', k8 s'⟩) ?_
    simp only [apply, hm]
  | some v =>
    have e : ∀ {ρ}, SM m z0 7 k a b ρ → (vOf m7).den ρ = some v := fun s => by rw [v7 s, hm]; rfl
    have f0 := f7 s (h := true) (by rw [hm]; rfl)
    by_cases hv : v = a
    · refine goD (n := 7) (a7y z0) hr s hb ho hR (CRel_app.2 ⟨f0, c1 (neqF (e s) (varD s.i32) hv) c0⟩) (fun ρ' s' => ⟨rfl, e s', p7 s' (varD s'.i33), k8 s'⟩) ?_
      simp only [apply, hm, if_pos hv]
    · refine goD (n := 7) (a7u z0) hr s hb ho hR (CRel_app.2 ⟨f0, c1 (neqT (e s) (varD s.i32) hv) c0⟩) (fun ρ' s' => ⟨rfl, e s', k7 s', k8 s'⟩) ?_
      simp only [apply, hm, if_neg hv]
theorem w8 (s : SM m z0 8 k a b ρ) (hR : rgt 8 k a b = true) : ApplyR w bb F m 8 k a b (apply m 8 k a b) :=
  goD (n := 8) (a8 z0) hr s hb ho hR c0 (fun ρ' s' => ⟨rfl, by
    rw [unD (k7 s') (litD 0)]
    show some (((decL (encL m.M)).length / 2 : Nat) : Int) = _
    rw [decL_encL], k7 s', k8 s'⟩) rfl
theorem w9 (s : SM m z0 9 k a b ρ) (hR : rgt 9 k a b = true) : ApplyR w bb F m 9 k a b (apply m 9 k a b) := by
  have hk := rgt_in hR
  have hx : AVal.denL ρ [me, opM 9] = some [.pointer (some ⟨bb, 0, none⟩), .agg #[.int .i64 9, .int .i64 k, .int .i64 a, .int .i64 b]] := denL2 (by simp only [me, AVal.den, hb]; rfl) (by
    simp only [opM, iV, AVal.den, AVal.denL, IT.den, s.i31, s.i32, s.i33, Option.map_some]; rfl)
  have hfR : CRel ρ (fR 9 true) := c1 (by rw [rgt_den (litD (ρ := ρ) (Int.ofNat 9)) (varD s.i31) (varD s.i32) (varD s.i33)]; exact congrArg some hR) c0
  have hsp : CallOk Try.prog ⟨w, oM z0, GL⟩ spM9 := spL_ok fun p hp => by
    simp only [List.mem_cons, List.not_mem_nil, or_false] at hp
    rcases hp with rfl | rfl | rfl
    · exact spA_ok right27
    · exact spLeft_ok
    · exact spFloor_ok fun _ _ _ _ _ h => h
  refine calls_sumsE (β := ⟨w, oM z0, GL⟩) (R := RM w bb F (apply m 9 k a b)) (g := gM) (L := oM z0) (Rs := eM ans) (Ts := []) (pl := true) noCount noExt hsp follows Try.func11 rfl (a9 z0) hx hr (CRel_app.2 ⟨CRel_app.2 ⟨hfR, c1 (geqT (varD s.i31) (litD 0) hk.2.2.1) (c1 (leqT (varD s.i31) (litD 255) hk.2.2.2.1) c0)⟩, csQ_ok s⟩) (one (endD (x := (flM m.M (k.toNat + 1)).1) (y := (flM m.M (k.toNat + 1)).2) (M' := m.M) (S' := m.S) hb ho s fun ρ' s' hG => ?_))
  obtain ⟨g1, g2⟩ := hG
  exact ⟨by rw [fnD (varD s'.i7) (varD s'.i31), g1]; simp only [decL_encL], by rw [fnD (varD s'.i7) (varD s'.i31), g2]; simp only [decL_encL], k7 s', k8 s'⟩
theorem w10 (s : SM m z0 10 k a b ρ) (hR : rgt 10 k a b = true) : ApplyR w bb F m 10 k a b (apply m 10 k a b) :=
  goD (n := 10) (x := (had (mGet m.S k)).1) (y := (had (mGet m.S k)).2) (a10 z0 (mGet m.S k).isSome) hr s hb ho hR (f8 s rfl) (fun ρ' s' => ⟨by rw [kO, had1], hO (v8 s') rfl, k7 s', p8 s' (varD s'.i32)⟩) rfl
theorem w11 (s : SM m z0 11 k a b ρ) (hR : rgt 11 k a b = true) : ApplyR w bb F m 11 k a b (apply m 11 k a b) := by
  cases hm : mGet m.S k with
  | none =>
    refine goD (n := 11) (a11n z0) hr s hb ho hR (f8 s (by rw [hm]; rfl)) (fun ρ' s' => ⟨rfl, rfl, k7 s', k8 s'⟩) ?_
    simp only [apply, hm]
  | some v =>
    have e : ∀ {ρ}, SM m z0 11 k a b ρ → (vOf s8).den ρ = some v := fun s => by rw [v8 s, hm]; rfl
    have f0 := f8 s (h := true) (by rw [hm]; rfl)
    by_cases hv : v = 0
    · refine goD (n := 11) (a11e z0) hr s hb ho hR (CRel_app.2 ⟨f0, c1 (eqlT (e s) (litD 0) hv) c0⟩) (fun ρ' s' => ⟨rfl, rfl, k7 s', k8 s'⟩) ?_
      simp only [apply, hm, stepM, if_pos hv]
    · have e1 : ∀ {ρ}, SM m z0 11 k a b ρ → (by1 (-1)).den ρ = some (IntKind.i64.wrap (v + -1)) := fun s => by rw [b8 s, hm]; rfl
      refine goD (n := 11) (a11y z0) hr s hb ho hR (CRel_app.2 ⟨f0, c1 (eqlF (e s) (litD 0) hv) c0⟩) (fun ρ' s' => ⟨rfl, e1 s', k7 s', p8 s' (e1 s')⟩) ?_
      simp only [apply, hm, stepM, if_neg hv]
theorem w12 (s : SM m z0 12 k a b ρ) (hR : rgt 12 k a b = true) : ApplyR w bb F m 12 k a b (apply m 12 k a b) := by
  cases hm : mGet m.S k with
  | none =>
    refine goD (n := 12) (a12n z0) hr s hb ho hR (f8 s (by rw [hm]; rfl)) (fun ρ' s' => ⟨rfl, rfl, k7 s', k8 s'⟩) ?_
    simp only [apply, hm]
  | some v =>
    have e : ∀ {ρ}, SM m z0 12 k a b ρ → (vOf s8).den ρ = some v := fun s => by rw [v8 s, hm]; rfl
    have f0 := f8 s (h := true) (by rw [hm]; rfl)
    by_cases hv : v = 1023
    · refine goD (n := 12) (a12e z0) hr s hb ho hR (CRel_app.2 ⟨f0, c1 (eqlT (e s) (litD 1023) hv) c0⟩) (fun ρ' s' => ⟨rfl, rfl, k7 s', k8 s'⟩) ?_
      simp only [apply, hm, stepM, if_pos hv]
    · have e1 : ∀ {ρ}, SM m z0 12 k a b ρ → (by1 1).den ρ = some (IntKind.i64.wrap (v + 1)) := fun s => by rw [b8 s, hm]; rfl
      refine goD (n := 12) (a12y z0) hr s hb ho hR (CRel_app.2 ⟨f0, c1 (eqlF (e s) (litD 1023) hv) c0⟩) (fun ρ' s' => ⟨rfl, e1 s', k7 s', p8 s' (e1 s')⟩) ?_
      simp only [apply, hm, stepM, if_neg hv]
theorem w13 (s : SM m z0 13 k a b ρ) (hR : rgt 13 k a b = true) : ApplyR w bb F m 13 k a b (apply m 13 k a b) :=
  goD (n := 13) (x := (had (mGet m.S k)).1) (y := (had (mGet m.S k)).2) (a13 z0 (mGet m.S k).isSome) hr s hb ho hR (f8 s rfl) (fun ρ' s' => ⟨by rw [kO, had1], hO (v8 s') rfl, k7 s', k8 s'⟩) rfl
theorem w14 (s : SM m z0 14 k a b ρ) (hR : rgt 14 k a b = true) : ApplyR w bb F m 14 k a b (apply m 14 k a b) :=
  goD (n := 14) (x := (had (mGet m.S k)).1) (y := (had (mGet m.S k)).2) (a14 z0 (mGet m.S k).isSome) hr s hb ho hR (f8 s rfl) (fun ρ' s' => ⟨by rw [kO, had1], hO (v8 s') rfl, k7 s', del_den (k8 s') (varD s'.i31)⟩) rfl
theorem w1 (s : SM m z0 1 k a b ρ) (hR : rgt 1 k a b = true) : ApplyR w bb F m 1 k a b (apply m 1 k a b) := by
  by_cases hz : z0 = .row
  · subst hz
    obtain ⟨h5, h6, h1⟩ := s.r rfl
    have hle := s.le
    by_cases hf : 256 ≤ m.Q.length
    · refine goD (n := 1) a1f hr s hb ho hR (c1 (geqT (varD h6) (litD 256) (by omega)) c0) (fun ρ' s' => ⟨rfl, rfl, k7 s', k8 s'⟩) ?_
      simp only [apply, if_pos hf]
    · refine go1 (n := 1) a1r hr s hb hR (c1 (geqF (varD h6) (litD 256) (by omega)) c0) (endA (z := .row) (l := 9) hb ho s rfl (.inr rfl) (fun l hl => ?_) (fun ρ' l hl => ?_) fun ρ' s' hG => ?_)
      · simp only [oM, List.mem_cons, List.not_mem_nil, or_false] at hl
        rcases hl with rfl | rfl | rfl | rfl <;> rfl
      · simp only [oM, List.mem_cons, List.not_mem_nil, or_false] at hl
        rcases hl with rfl | rfl | rfl | rfl <;> rfl
      · obtain ⟨g5, g6, _⟩ := s'.r rfl
        have e6 : up6.den ρ' = some ((m.Q.length : Int) + 1) := plusD (varD g6) (litD 1) (by omega) (by omega)
        have e5 : (IT.un 3 (.var 5) (.var 32)).den ρ' = some (encL (m.Q ++ [a])) := by
          rw [unD (varD g5) (varD s'.i32)]
          show some (encL (decL (encL m.Q) ++ [a])) = _
          rw [decL_encL]
        have q : apply m 1 k a b = ((0, (m.Q.length : Int) + 1), { m with Q := m.Q ++ [a] }) := by simp only [apply, if_neg hf]
        rw [q]
        refine ⟨sbI (t := .lit 0) rfl rfl, sbI (t := up6) rfl e6, ?_, ?_, fun _ => ⟨?_, ?_, ?_⟩, fun h => absurd rfl h⟩
        · rw [sbI (t := m7) rfl (k7 s'), decL_encL]
        · rw [sbI (t := s8) rfl (k8 s'), decL_encL]
        · rw [sbI rfl e5, decL_encL]
        · rw [sbI (t := up6) rfl e6, List.length_append]; rfl
        · simp
  · have h0 := s.n hz
    have q : apply m 1 k a b = ((0, 1), { m with Q := [a] }) := by simp [apply, h0]
    rw [q]
    refine go1 (n := 1) (a1n z0 hz) hr s hb hR c0 (endA (z := .row) (l := 1) hb ho s rfl (.inl rfl) (fun l hl => ?_) (fun ρ' l hl => ?_) fun ρ' s' hG => ?_)
    · cases z0 <;> first | exact absurd rfl hz | (simp only [oM, List.mem_cons, List.not_mem_nil, or_false] at hl; rcases hl with rfl | rfl | rfl <;> rfl)
    · cases z0 <;> first | exact absurd rfl hz | (simp only [oM, List.mem_cons, List.not_mem_nil, or_false] at hl; rcases hl with rfl | rfl | rfl <;> rfl)
    · have e5 : (IT.un 3 (.lit 0) (.var 32)).den ρ' = some (encL [a]) := by
        rw [unD (litD 0) (varD s'.i32)]
        show some (encL (decL 0 ++ [a])) = _
        rw [decL_zero]; rfl
      refine ⟨sbI (t := .lit 0) rfl rfl, sbI (t := .lit 1) rfl rfl, ?_, ?_, fun _ => ⟨?_, ?_, ?_⟩, fun h => absurd rfl h⟩
      · rw [sbI (t := m7) rfl (k7 s'), decL_encL]
      · rw [sbI (t := s8) rfl (k8 s'), decL_encL]
      · rw [sbI rfl e5, decL_encL]
      · exact sbI (t := .lit 1) rfl rfl
      · simp
theorem w2 (s : SM m z0 2 k a b ρ) (hR : rgt 2 k a b = true) : ApplyR w bb F m 2 k a b (apply m 2 k a b) := by
  by_cases hz : z0 = .row
  · subst hz
    obtain ⟨h5, h6, h1⟩ := s.r rfl
    have hle := s.le
    have hne : m.Q ≠ [] := List.length_pos_iff.1 h1
    have q : apply m 2 k a b = ((0, m.Q.getD 0 0), { m with Q := m.Q.drop 1 }) := by simp only [apply, if_neg hne]
    have lf : ∀ {ρ}, SM m .row 2 k a b ρ → (leftLen (.var 6)).den ρ = some ((m.Q.length : Int) - 1) := fun {ρ} s => by
      obtain ⟨_, g6, _⟩ := s.r rfl
      unfold leftLen
      rw [unD (varD g6) (litD 1)]
      show some (if (1 : Int) ≤ (m.Q.length : Int) then (m.Q.length : Int) - 1 else 0) = _
      rw [if_pos (by omega)]
    have hd : ∀ {ρ}, SM m .row 2 k a b ρ → head5.den ρ = some (m.Q.getD 0 0) := fun {ρ} s => by
      obtain ⟨g5, _, _⟩ := s.r rfl
      unfold head5
      refine (unD (varD g5) (elemD (sz := 1) (j := 0) (litD ((0 : Nat) : Int)) (litD ((0 : Nat) : Int)))).trans ?_
      show some ((decL (encL m.Q)).getD _ 0) = _
      rw [decL_encL]; rfl
    have hf : ∀ {bo : Bool}, (BT.cmp .geq (leftLen (.var 6)) (.lit 1)).den ρ = some bo → CRel ρ (f2 bo) := fun {bo} h =>
      c1 (leqT (litD 1) (varD h6) (by omega)) (c1 (lssT (litD 0) (varD h6) (by omega)) (c1 rfl (c1 rfl (c1 (leqT (lf s) (litD _) (by omega)) (c1 h c0)))))
    rw [q]
    by_cases h2 : 2 ≤ m.Q.length
    · refine go1 (n := 2) a2r hr s hb hR (hf (geqT (lf s) (litD 1) (by omega))) (endA (z := .row) (l := 9) hb ho s rfl (.inr rfl) (fun l hl => ?_) (fun ρ' l hl => ?_) fun ρ' s' hG => ?_)
      · simp only [oM, List.mem_cons, List.not_mem_nil, or_false] at hl
        rcases hl with rfl | rfl | rfl | rfl <;> rfl
      · simp only [oM, List.mem_cons, List.not_mem_nil, or_false] at hl
        rcases hl with rfl | rfl | rfl | rfl <;> rfl
      · obtain ⟨g5, g6, _⟩ := s'.r rfl
        have e5 : (IT.un 11 (.var 5) (.lit 1)).den ρ' = some (encL (m.Q.drop 1)) := by
          rw [unD (varD g5) (litD 1)]
          show some (encL ((decL (encL m.Q)).drop 1)) = _
          rw [decL_encL]
        refine ⟨sbI (t := .lit 0) rfl rfl, sbI (t := head5) rfl (hd s'), ?_, ?_, fun _ => ⟨?_, ?_, ?_⟩, fun h => absurd rfl h⟩
        · rw [sbI (t := m7) rfl (k7 s'), decL_encL]
        · rw [sbI (t := s8) rfl (k8 s'), decL_encL]
        · rw [sbI rfl e5, decL_encL]
        · rw [sbI (t := leftLen (.var 6)) rfl (lf s'), List.length_drop]; omega
        · rw [List.length_drop]; omega
    · refine go1 (n := 2) a2l hr s hb hR (hf (geqF (lf s) (litD 1) (by omega))) (endA (z := .zero) (l := 9) hb ho s rfl (.inr rfl) (fun l hl => ?_) (fun ρ' l hl => ?_) fun ρ' s' hG => ?_)
      · simp only [oM, List.mem_cons, List.not_mem_nil, or_false] at hl
        rcases hl with rfl | rfl | rfl | rfl <;> rfl
      · simp only [oM, List.mem_cons, List.not_mem_nil, or_false] at hl
        rcases hl with rfl | rfl | rfl | rfl <;> rfl
      · refine ⟨sbI (t := .lit 0) rfl rfl, sbI (t := head5) rfl (hd s'), ?_, ?_, fun h => absurd h (by simp), fun _ => ?_⟩
        · rw [sbI (t := m7) rfl (k7 s'), decL_encL]
        · rw [sbI (t := s8) rfl (k8 s'), decL_encL]
        · exact List.eq_nil_of_length_eq_zero (by rw [List.length_drop]; omega)
  · have h0 := s.n hz
    refine goD (n := 2) (a2n z0 hz) hr s hb ho hR c0 (fun ρ' s' => ⟨rfl, rfl, k7 s', k8 s'⟩) ?_
    simp only [apply, if_pos h0]
theorem wNot {c : Int} (s : SM m z0 c k a b ρ) (hR : rgt c k a b = false) : ApplyR w bb F m c k a b ((1, 0), m) := by
  have hx : AVal.denL ρ [me, .agg [iV 30, iV 31, iV 32, iV 33]] = some [.pointer (some ⟨bb, 0, none⟩), .agg #[.int .i64 c, .int .i64 k, .int .i64 a, .int .i64 b]] := denL2 (by simp only [me, AVal.den, hb]; rfl) (by
    simp only [iV, AVal.den, AVal.denL, IT.den, s.i30, s.i31, s.i32, s.i33, Option.map_some])
  have hfR : (tRight (.var 30) (.var 31) (.var 32) (.var 33)).den ρ = some false := by rw [rgt_den (varD s.i30) (varD s.i31) (varD s.i32) (varD s.i33), hR]
  exact calls_sumsE (β := ⟨w, oM z0, GL⟩) (R := RM w bb F ((1, 0), m)) (g := gM) (L := oM z0) (Rs := eM ans) (Ts := []) (pl := true) noCount noExt noTs follows Try.func11 rfl (aNot z0) hx hr (CRel_app.2 ⟨c1 hfR c0, csQ_ok s⟩) (one (endD hb ho s fun ρ' s' _ => ⟨rfl, rfl, k7 s', k8 s'⟩))
end
end
/-- Apply, of any model and any operation. -/
theorem apply11 {w : World} {bb : Nat} {F : Nat → Prop} {m : Mod} (s : ModelIn w bb F m.Q m.M m.S) (hl : m.Q.length ≤ 1000) (c k a b : Int) : ApplyR w bb F m c k a b (applyO m c k a b) := by
  obtain ⟨z, ρ, hr, sm, ho, hb⟩ := startM c k a b s hl
  cases hR : rgt c k a b with
  | false => rw [applyO, hR, if_neg (by decide)]; exact wNot hr hb ho sm hR
  | true =>
    rw [applyO, hR, if_pos rfl]
    have h0 := rgt_in hR
    obtain ⟨n, rfl⟩ : ∃ n : Nat, c = (n : Int) := ⟨c.toNat, by omega⟩
    have hn : n ≤ 14 := by omega
    rw [Int.toNat_natCast]
    match n, hn, sm, hR with
    | 0, _, sm, hR => exact w0 hr hb ho sm hR
    | 1, _, sm, hR => exact w1 hr hb ho sm hR
    | 2, _, sm, hR => exact w2 hr hb ho sm hR
    | 3, _, sm, hR => exact w3 hr hb ho sm hR
    | 4, _, sm, hR => exact w4 hr hb ho sm hR
    | 5, _, sm, hR => exact w5 hr hb ho sm hR
    | 6, _, sm, hR => exact w6 hr hb ho sm hR
    | 7, _, sm, hR => exact w7 hr hb ho sm hR
    | 8, _, sm, hR => exact w8 hr hb ho sm hR
    | 9, _, sm, hR => exact w9 hr hb ho sm hR
    | 10, _, sm, hR => exact w10 hr hb ho sm hR
    | 11, _, sm, hR => exact w11 hr hb ho sm hR
    | 12, _, sm, hR => exact w12 hr hb ho sm hR
    | 13, _, sm, hR => exact w13 hr hb ho sm hR
    | 14, _, sm, hR => exact w14 hr hb ho sm hR
end Lm
end Go.Proofs.Ytpgonpjakllnjaa
