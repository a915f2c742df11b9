/-
  HistoryWide (3): history.Width.
-/
import Derived.Test.YtagdcclpibjfoaaDoorHw2
namespace Go.Proofs.YtagdcclpibjfoaaDoor
open Go.Vm

theorem wrap_ok {x : Int} (h : -9223372036854775808 ≤ x) (h2 : x < 9223372036854775808) : IntKind.i64.wrap x = x := by
  rw [IntKind.wrap_i64]; omega
theorem up1 {x : Int} {m : Nat} (h : x = m) (h2 : m < 9223372036854775807) : IntKind.i64.wrap (x + 1) = ((m + 1 : Nat) : Int) := by
  rw [h, wrap_ok (by omega) (by omega)]; omega
theorem cntW_le (v : Value) (i : Nat) : ∀ j : Nat, 0 ≤ cntW v i j ∧ cntW v i j ≤ j
  | 0 => by simp [cntW]
  | j + 1 => by
    have := cntW_le v i j
    simp only [cntW]
    cases (opn v j (St v i) && opn v i (St v i)) <;> simp <;> omega
def maxN : Nat := 9223372036854775807
noncomputable def wb0 : Code := ((loopsOf (Tryd.f28.body.getD .ret) []).getD 0 (.ret, [])).1
noncomputable def wk0 : List Item := ((loopsOf (Tryd.f28.body.getD .ret) []).getD 0 (.ret, [])).2
noncomputable def wb1 : Code := ((loopsOf (Tryd.f28.body.getD .ret) []).getD 1 (.ret, [])).1
noncomputable def wk1 : List Item := ((loopsOf (Tryd.f28.body.getD .ret) []).getD 1 (.ret, [])).2
noncomputable def sums28e : List LS := [.next 1 (.code (.loop wb0) :: wk0) [] ⟨[(0, (.lit 0)), (1, (.lit 0))], [], [], [], [(0, 0)]⟩]
noncomputable def sums28o : List LS := [.next 0 (.code (.loop wb1) :: wk1) [((.cmp .lss (.var 0) (.var 10)), true), ((.cmp .geq (.var 0) (.lit 0)), true), ((.cmp .leq (.var 0) (.var 10)), true)] ⟨[(0, (.var 0)), (1, (.var 1)), (2, (.lit 0)), (3, (.lit 0))], [], [], [], [(0, 0), (1, 1)]⟩,
  .ret (.int .i64 (.var 1)) [((.cmp .lss (.var 0) (.var 10)), false), ((.cmp .geq (.var 0) (.lit 0)), true), ((.cmp .leq (.var 0) (.var 10)), true)]]
noncomputable def sums28i : List LS := [.next 0 (.inLoop wb1 :: wk1) [((.not (.cmp .geq (.sel 0 16 8 (.var 0)) (.lit 0))), true), ((.cmp .leq (.sel 0 16 7 (.var 0)) (.sel 0 16 7 (.var 0))), true), ((.not (.cmp .geq (.sel 0 16 8 (.var 2)) (.lit 0))), true), ((.cmp .leq (.sel 0 16 7 (.var 2)) (.sel 0 16 7 (.var 0))), true), ((.cmp .lss (.var 2) (.var 10)), true), ((.cmp .lss (.var 0) (.var 10)), true), ((.cmp .geq (.var 0) (.lit 0)), true), ((.cmp .leq (.var 0) (.var 10)), true), ((.cmp .geq (.var 2) (.lit 0)), true), ((.cmp .leq (.var 2) (.var 10)), true)] ⟨[(0, (.var 0)), (1, (.var 1)), (2, (.bin .add .i64 (.var 2) (.lit 1))), (3, (.bin .add .i64 (.var 3) (.lit 1)))], [], [], [], [(0, 0), (1, 1)]⟩,
  .next 0 (.inLoop wb1 :: wk1) [((.cmp .leq (.sel 0 16 7 (.var 0)) (.sel 0 16 8 (.var 0))), true), ((.not (.cmp .geq (.sel 0 16 8 (.var 0)) (.lit 0))), false), ((.cmp .leq (.sel 0 16 7 (.var 0)) (.sel 0 16 7 (.var 0))), true), ((.not (.cmp .geq (.sel 0 16 8 (.var 2)) (.lit 0))), true), ((.cmp .leq (.sel 0 16 7 (.var 2)) (.sel 0 16 7 (.var 0))), true), ((.cmp .lss (.var 2) (.var 10)), true), ((.cmp .lss (.var 0) (.var 10)), true), ((.cmp .geq (.var 0) (.lit 0)), true), ((.cmp .leq (.var 0) (.var 10)), true), ((.cmp .geq (.var 2) (.lit 0)), true), ((.cmp .leq (.var 2) (.var 10)), true)] ⟨[(0, (.var 0)), (1, (.var 1)), (2, (.bin .add .i64 (.var 2) (.lit 1))), (3, (.bin .add .i64 (.var 3) (.lit 1)))], [], [], [], [(0, 0), (1, 1)]⟩,
  .next 0 (.inLoop wb1 :: wk1) [((.cmp .leq (.sel 0 16 7 (.var 0)) (.sel 0 16 8 (.var 0))), false), ((.not (.cmp .geq (.sel 0 16 8 (.var 0)) (.lit 0))), false), ((.cmp .leq (.sel 0 16 7 (.var 0)) (.sel 0 16 7 (.var 0))), true), ((.not (.cmp .geq (.sel 0 16 8 (.var 2)) (.lit 0))), true), ((.cmp .leq (.sel 0 16 7 (.var 2)) (.sel 0 16 7 (.var 0))), true), ((.cmp .lss (.var 2) (.var 10)), true), ((.cmp .lss (.var 0) (.var 10)), true), ((.cmp .geq (.var 0) (.lit 0)), true), ((.cmp .leq (.var 0) (.var 10)), true), ((.cmp .geq (.var 2) (.lit 0)), true), ((.cmp .leq (.var 2) (.var 10)), true)] ⟨[(0, (.var 0)), (1, (.var 1)), (2, (.bin .add .i64 (.var 2) (.lit 1))), (3, (.var 3))], [], [], [], [(0, 0), (1, 1)]⟩,
  .next 0 (.inLoop wb1 :: wk1) [((.not (.cmp .geq (.sel 0 16 8 (.var 0)) (.lit 0))), true), ((.cmp .leq (.sel 0 16 7 (.var 0)) (.sel 0 16 7 (.var 0))), true), ((.cmp .leq (.sel 0 16 7 (.var 0)) (.sel 0 16 8 (.var 2))), true), ((.not (.cmp .geq (.sel 0 16 8 (.var 2)) (.lit 0))), false), ((.cmp .leq (.sel 0 16 7 (.var 2)) (.sel 0 16 7 (.var 0))), true), ((.cmp .lss (.var 2) (.var 10)), true), ((.cmp .lss (.var 0) (.var 10)), true), ((.cmp .geq (.var 0) (.lit 0)), true), ((.cmp .leq (.var 0) (.var 10)), true), ((.cmp .geq (.var 2) (.lit 0)), true), ((.cmp .leq (.var 2) (.var 10)), true)] ⟨[(0, (.var 0)), (1, (.var 1)), (2, (.bin .add .i64 (.var 2) (.lit 1))), (3, (.bin .add .i64 (.var 3) (.lit 1)))], [], [], [], [(0, 0), (1, 1)]⟩,
  .next 0 (.inLoop wb1 :: wk1) [((.cmp .leq (.sel 0 16 7 (.var 0)) (.sel 0 16 8 (.var 0))), true), ((.not (.cmp .geq (.sel 0 16 8 (.var 0)) (.lit 0))), false), ((.cmp .leq (.sel 0 16 7 (.var 0)) (.sel 0 16 7 (.var 0))), true), ((.cmp .leq (.sel 0 16 7 (.var 0)) (.sel 0 16 8 (.var 2))), true), ((.not (.cmp .geq (.sel 0 16 8 (.var 2)) (.lit 0))), false), ((.cmp .leq (.sel 0 16 7 (.var 2)) (.sel 0 16 7 (.var 0))), true), ((.cmp .lss (.var 2) (.var 10)), true), ((.cmp .lss (.var 0) (.var 10)), true), ((.cmp .geq (.var 0) (.lit 0)), true), ((.cmp .leq (.var 0) (.var 10)), true), ((.cmp .geq (.var 2) (.lit 0)), true), ((.cmp .leq (.var 2) (.var 10)), true)] ⟨[(0, (.var 0)), (1, (.var 1)), (2, (.bin .add .i64 (.var 2) (.lit 1))), (3, (.bin .add .i64 (.var 3) (.lit 1)))], [], [], [], [(0, 0), (1, 1)]⟩,
  .next 0 (.inLoop wb1 :: wk1) [((.cmp .leq (.sel 0 16 7 (.var 0)) (.sel 0 16 8 (.var 0))), false), ((.not (.cmp .geq (.sel 0 16 8 (.var 0)) (.lit 0))), false), ((.cmp .leq (.sel 0 16 7 (.var 0)) (.sel 0 16 7 (.var 0))), true), ((.cmp .leq (.sel 0 16 7 (.var 0)) (.sel 0 16 8 (.var 2))), true), ((.not (.cmp .geq (.sel 0 16 8 (.var 2)) (.lit 0))), false), ((.cmp .leq (.sel 0 16 7 (.var 2)) (.sel 0 16 7 (.var 0))), true), ((.cmp .lss (.var 2) (.var 10)), true), ((.cmp .lss (.var 0) (.var 10)), true), ((.cmp .geq (.var 0) (.lit 0)), true), ((.cmp .leq (.var 0) (.var 10)), true), ((.cmp .geq (.var 2) (.lit 0)), true), ((.cmp .leq (.var 2) (.var 10)), true)] ⟨[(0, (.var 0)), (1, (.var 1)), (2, (.bin .add .i64 (.var 2) (.lit 1))), (3, (.var 3))], [], [], [], [(0, 0), (1, 1)]⟩,
  .next 0 (.inLoop wb1 :: wk1) [((.cmp .leq (.sel 0 16 7 (.var 0)) (.sel 0 16 8 (.var 2))), false), ((.not (.cmp .geq (.sel 0 16 8 (.var 2)) (.lit 0))), false), ((.cmp .leq (.sel 0 16 7 (.var 2)) (.sel 0 16 7 (.var 0))), true), ((.cmp .lss (.var 2) (.var 10)), true), ((.cmp .lss (.var 0) (.var 10)), true), ((.cmp .geq (.var 0) (.lit 0)), true), ((.cmp .leq (.var 0) (.var 10)), true), ((.cmp .geq (.var 2) (.lit 0)), true), ((.cmp .leq (.var 2) (.var 10)), true)] ⟨[(0, (.var 0)), (1, (.var 1)), (2, (.bin .add .i64 (.var 2) (.lit 1))), (3, (.var 3))], [], [], [], [(0, 0), (1, 1)]⟩,
  .next 0 (.inLoop wb1 :: wk1) [((.cmp .leq (.sel 0 16 7 (.var 2)) (.sel 0 16 7 (.var 0))), false), ((.cmp .lss (.var 2) (.var 10)), true), ((.cmp .lss (.var 0) (.var 10)), true), ((.cmp .geq (.var 0) (.lit 0)), true), ((.cmp .leq (.var 0) (.var 10)), true), ((.cmp .geq (.var 2) (.lit 0)), true), ((.cmp .leq (.var 2) (.var 10)), true)] ⟨[(0, (.var 0)), (1, (.var 1)), (2, (.bin .add .i64 (.var 2) (.lit 1))), (3, (.var 3))], [], [], [], [(0, 0), (1, 1)]⟩,
  .next 1 (.inLoop wb0 :: wk0) [((.cmp .lss (.var 2) (.var 10)), false), ((.cmp .lss (.var 0) (.var 10)), true), ((.cmp .geq (.var 0) (.lit 0)), true), ((.cmp .leq (.var 0) (.var 10)), true), ((.cmp .geq (.var 2) (.lit 0)), true), ((.cmp .leq (.var 2) (.var 10)), true)] ⟨[(0, (.bin .add .i64 (.var 0) (.lit 1))), (1, (.mx (.var 1) (.var 3)))], [], [], [], [(0, 0)]⟩]
theorem run28e : (run Tryd.prog [] noSp 4000 true 28 (entry Tryd.f28 (Tryd.f28.body.getD .ret) [sl] (ofP H0) 1 [])).map (·.filterMap (sumL g10 [W1, W0])) = some sums28e := by kernel_rfl
theorem run28o : (run Tryd.prog [] noSp 4000 true 28 (W0.st (.code wb0 :: .inLoop wb0 :: wk0))).map (·.filterMap (sumL g10 [W1, W0])) = some sums28o := by kernel_rfl
theorem run28i : (run Tryd.prog [] noSp 4000 true 28 (W1.st (.code wb1 :: .inLoop wb1 :: wk1))).map (·.filterMap (sumL g10 [W1, W0])) = some sums28i := by kernel_rfl

def JW0 (v : Value) (n : Nat) : GP := fun I _ _ V _ => I 10 = n ∧ V 0 = v ∧ ∃ i : Nat, I 0 = i ∧ I 1 = maxW v n i
def JW1 (v : Value) (n i : Nat) : GP := fun I _ _ V _ => I 10 = n ∧ V 0 = v ∧ I 0 = i ∧ I 1 = maxW v n i ∧ ∃ j : Nat, I 2 = j ∧ I 3 = cntW v i j
abbrev QW (v : Value) (n : Nat) : Value → Prop := fun x => x = .int .i64 (maxW v n n)

theorem inner28 (w0 : World) (v : Value) (n : Nat) (hn : n ≤ maxN) (i : Nat)
    (H : ∀ ρ', (JW0 v n).at ρ' → ρ'.I 0 = ((i + 1 : Nat) : Int) → ∀ todo a w, todo = .inLoop wb0 :: wk0 ∨ todo = .code (.loop wb0) :: wk0 → SRel (.plain w0) ρ' (W0.st todo) a w → Goes Tryd.prog 28 (fun x w' => QW v n x ∧ Framed w0 w') todo a w) :
    ∀ ρ, (JW1 v n i).at ρ → ∀ todo a w, todo = .inLoop wb1 :: wk1 ∨ todo = .code (.loop wb1) :: wk1 → SRel (.plain w0) ρ (W1.st todo) a w → Goes Tryd.prog 28 (fun x w' => QW v n x ∧ Framed w0 w') todo a w := by
  refine loop_goes (β := .plain w0) noCount noExt noSp_ok follows rfl run28i (JW1 v n i) (fun ρ => (n - ρ.I 2).toNat) (fun ρ hJ hcs hG ih s hs => ?_)
  simp only [sums28i, List.mem_cons, List.not_mem_nil, or_false] at hs
  rcases hs with rfl | rfl | rfl | rfl | rfl | rfl | rfl | rfl | rfl
  all_goals
    intro ρ' hle hc T hT hG'
    obtain ⟨j1, j2, j3, j4, j, j5, j6⟩ := GP.mono hle hJ
    have hcn := cntW_le v i j
    have e2 : ρ.I = ρ'.I := hle.i.symm
    simp [CRel_cons, CRel_nil, BT.den, IT.den, intCmp, j1, j2, j3, j5] at hc
  case' inr.inr.inr.inr.inr.inr.inr.inr =>
    have hT : W0 = T := by simpa using hT
    subst hT
    have hij : j = n := by omega
    subst hij
    have e0 : IntKind.i64.wrap (ρ'.I 0 + 1) = ((i + 1 : Nat) : Int) := up1 j3 (by simp only [maxN] at hn; omega)
    refine ⟨hG', ?_, fun a w r => H _ ?_ ?_ _ a w (.inl rfl) r⟩
    · simp [W0, inCs, CRel_cons, CRel_nil, BT.den, IT.den, intCmp, intBin, Go.Vm.Sub.app, lk_cons, lk_nil, e0, j1]
      omega
    · refine ⟨j1, j2, i + 1, e0, ?_⟩
      show (if ρ'.I 3 > ρ'.I 1 then ρ'.I 3 else ρ'.I 1) = _
      rw [j4, j6]; rfl
    · exact e0
  all_goals
    have hT : W1 = T := by simpa using hT
    subst hT
    have e0 : IntKind.i64.wrap (ρ'.I 2 + 1) = ((j + 1 : Nat) : Int) := up1 j5 (by simp only [maxN] at hn; omega)
    have e1 : IntKind.i64.wrap (ρ'.I 3 + 1) = ρ'.I 3 + 1 := wrap_ok (by simp only [maxN] at hn; omega) (by simp only [maxN] at hn; omega)
    refine ⟨hG', ?_, fun a w r => ih _ ?_ ?_ _ a w (.inl rfl) r⟩
    · simp [W1, inCs, CRel_cons, CRel_nil, BT.den, IT.den, intCmp, intBin, Go.Vm.Sub.app, lk_cons, lk_nil, e0, j1, j3]
      omega
    · show ((n : Int) - IntKind.i64.wrap (ρ'.I 2 + 1)).toNat < _
      rw [e0, e2, j5]; omega
    · refine ⟨j1, j2, j3, j4, j + 1, e0, ?_⟩
      first
        | (show IntKind.i64.wrap (ρ'.I 3 + 1) = _
           rw [e1, j6]
           simp only [cntW]
           rw [show (opn v j (St v i) && opn v i (St v i)) = true by (rw [Bool.and_eq_true]; refine ⟨opn_iff.2 ?_, opn_iff.2 ?_⟩ <;> simp only [St, En] <;> omega)]
           rfl)
        | (show ρ'.I 3 = _
           rw [j6]
           simp only [cntW]
           rw [show (opn v j (St v i) && opn v i (St v i)) = false by (rw [Bool.eq_false_iff]; intro h; simp only [Bool.and_eq_true, opn_iff, St, En] at h; omega)]
           simp)

theorem outer28 (w0 : World) (v : Value) (n : Nat) (hn : n ≤ maxN) :
    ∀ ρ, (JW0 v n).at ρ → ∀ todo a w, todo = .inLoop wb0 :: wk0 ∨ todo = .code (.loop wb0) :: wk0 → SRel (.plain w0) ρ (W0.st todo) a w → Goes Tryd.prog 28 (fun x w' => QW v n x ∧ Framed w0 w') todo a w := by
  refine loop_goes (β := .plain w0) noCount noExt noSp_ok follows rfl run28o (JW0 v n) (fun ρ => (n - ρ.I 0).toNat) (fun ρ hJ hcs hG ih s hs => ?_)
  simp only [sums28o, List.mem_cons, List.not_mem_nil, or_false] at hs
  rcases hs with rfl | rfl
  · intro ρ' hle hc T hT hG'
    have hT : W1 = T := by simpa using hT
    subst hT
    obtain ⟨j1, j2, i, j3, j4⟩ := GP.mono hle hJ
    have e2 : ρ.I = ρ'.I := hle.i.symm
    simp [CRel_cons, CRel_nil, BT.den, IT.den, intCmp, j1, j3] at hc
    have hμ : ∀ ρ2 : Env, ρ2.I 0 = ((i + 1 : Nat) : Int) → ((n : Int) - ρ2.I 0).toNat < ((n : Int) - ρ.I 0).toNat := fun ρ2 h2 => by
      rw [h2, e2, j3]; omega
    refine ⟨hG', ?_, fun a w r => inner28 w0 v n hn i (fun ρ2 hJ2 h2 => ih ρ2 (hμ ρ2 h2) hJ2) _ ?_ _ a w (.inr rfl) r⟩
    · simp [W1, inCs, CRel_cons, CRel_nil, BT.den, IT.den, intCmp, Go.Vm.Sub.app, lk_cons, lk_nil, j1, j3]
      omega
    · exact ⟨j1, j2, j3, j4, 0, rfl, rfl⟩
  · intro ρ' hle hc u hu
    obtain ⟨j1, j2, i, j3, j4⟩ := GP.mono hle hJ
    simp [CRel_cons, CRel_nil, BT.den, IT.den, intCmp, j1, j3] at hc
    have hij : i = n := by omega
    subst hij
    simp only [AVal.den, IT.den, Option.map_some, Option.some.injEq] at hu
    rw [← hu, j4]

/-- Where a row came in: its names. -/
def ρR (x20 x21 : Int) (n cap o : Nat) (v : Value) (b : Nat) (F : Nat → Int → Int → Int) : Env := ⟨fun i => if i = 10 then n else if i = 11 then cap else if i = 12 then o else if i = 20 then x20 else if i = 21 then x21 else 0, fun _ => false, fun _ => default, fun _ => v, fun i => if i = 0 then some b else none, F⟩
theorem slD (x20 x21 : Int) (n cap o : Nat) (v : Value) (b : Nat) (F : Nat → Int → Int → Int) : sl.den (ρR x20 x21 n cap o v b F) = some (.slice (some ⟨b, o, none⟩) n cap) := by
  have h0 : natOf ((IT.var 12).den (ρR x20 x21 n cap o v b F)) = some o := rfl
  have h1 : natOf ((IT.var 10).den (ρR x20 x21 n cap o v b F)) = some n := rfl
  have h2 : natOf ((IT.var 11).den (ρR x20 x21 n cap o v b F)) = some cap := rfl
  have h3 : (ρR x20 x21 n cap o v b F).N 0 = some b := rfl
  simp only [sl, AVal.den, h0, h1, h2, h3]

theorem width28 (w : World) (v : Value) (n b o cap : Nat) (hn : n ≤ maxN) (hrow : RowAt w b o ksR n v) : Calls Tryd.prog 28 #[.slice (some ⟨b, o, none⟩) n cap] w (fun e w' => e = .returned (.int .i64 (maxW v n n)) ∧ Framed w w') := by
  have hr : HRel (.plain w) (ρR 0 0 n cap o v b F0) (ofP H0) 1 w := HRel.row (a := 0) hrow rfl rfl (fun _ => rfl) trivial
  have := calls_sums (β := .plain w) (Q := QW v n) noCount noExt noSp_ok follows rfl Tryd.func28 rfl run28e (xs := [.slice (some ⟨b, o, none⟩) n cap]) (by simp only [AVal.denL, slD]) hr (fun _ h => by cases h) (fun s hs => ?_)
  · exact this.mono fun _ _ ⟨_, he, hv, hf⟩ => ⟨by rw [he, hv], hf⟩
  · rcases List.mem_cons.1 hs with rfl | hs
    · intro ρ' hle hc T hT hG
      have hT : W0 = T := by simpa using hT
      subst hT
      have e : ρ'.I = (ρR 0 0 n cap o v b F0).I := hle.i
      have ev : ρ'.V = (ρR 0 0 n cap o v b F0).V := hle.v
      have e10 : ρ'.I 10 = n := by rw [e]; rfl
      refine ⟨hG, ?_, fun a w' r => outer28 w v n hn _ ?_ _ a w' (.inr rfl) r⟩
      rotate_left
      · exact ⟨e10, by show ρ'.V 0 = v; rw [ev]; rfl, 0, rfl, rfl⟩
      simp [W0, inCs, CRel_cons, CRel_nil, BT.den, IT.den, intCmp, Go.Vm.Sub.app, lk_cons, lk_nil, e10]
    · cases hs

end Go.Proofs.YtagdcclpibjfoaaDoor
