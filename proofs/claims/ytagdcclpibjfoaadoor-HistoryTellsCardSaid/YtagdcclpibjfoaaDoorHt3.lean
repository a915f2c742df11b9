/-
  HistoryTells (3): history.Longest, history.Invocations, history.Report.
-/
import Derived.Test.YtagdcclpibjfoaaDoorHt2
import Derived.Test.YtagdcclpibjfoaaDoorVm25
namespace Go.Proofs.YtagdcclpibjfoaaDoor
open Go.Vm Txt
namespace Ht

theorem wrap_ok {x : Int} (h : -9223372036854775808 ≤ x) (h2 : x < 9223372036854775808) : IntKind.i64.wrap x = x := by
  rw [IntKind.wrap_i64]; omega
theorem up1 {x : Int} {m : Nat} (h : x = m) (h2 : m < 9223372036854775807) : IntKind.i64.wrap (x + 1) = ((m + 1 : Nat) : Int) := by
  rw [h, wrap_ok (by omega) (by omega)]; omega
def maxN : Nat := 9223372036854775807
-- THE ENVIRONMENT
noncomputable def SH (v : Value) (n : Nat) : Nat → ByteArray := SxF (fun k x _ => if k = 5 then rtext v x.toNat else []) (fun i => if i = 1 then ⟨(joinT v n).toArray⟩ else default)
theorem SH_1 (v : Value) (n : Nat) : SH v n 1 = ⟨(joinT v n).toArray⟩ := by unfold SH; rw [SxF_lo _ _ (by decide)]; rfl
theorem SH_5 (v : Value) (n : Nat) (i : Int) : SH v n (codN 5 i 0) = ⟨(rtext v i.toNat).toArray⟩ := by unfold SH; rw [SxF_cod]; rfl
noncomputable def ρH (v : Value) (n : Nat) (kind : Int) (cap o b : Nat) : Env :=
  ⟨fun i => if i = 10 then n else if i = 11 then cap else if i = 12 then o else if i = 21 then kind else if i = 22 then encL (invs v n) else if i = 23 then ((invs v n).length : Int) else if i = 24 then longR v kind n else 0, fun _ => false,
    SH v n, fun _ => v, fun i => if i = 0 then some b else none, F0⟩
theorem ρH_G (v : Value) (n : Nat) (kind : Int) (cap o b : Nat) : GP.at (GH v n kind) (ρH v n kind cap o b) :=
  ⟨rfl, rfl, rfl, rfl, rfl, rfl, SH_1 v n, SH_5 v n⟩
theorem slD (v : Value) (n : Nat) (kind : Int) (cap o b : Nat) : sl.den (ρH v n kind cap o b) = some (.slice (some ⟨b, o, none⟩) n cap) := by
  have h0 : natOf ((IT.var 12).den (ρH v n kind cap o b)) = some o := rfl
  have h1 : natOf ((IT.var 10).den (ρH v n kind cap o b)) = some n := rfl
  have h2 : natOf ((IT.var 11).den (ρH v n kind cap o b)) = some cap := rfl
  have h3 : (ρH v n kind cap o b).N 0 = some b := rfl
  simp only [sl, AVal.den, h0, h1, h2, h3]
theorem start (w : World) {v : Value} {n : Nat} (kind : Int) {b o cap : Nat} (hrow : RowAt w b o ksR n v) : HRel (βH w v n kind) (ρH v n kind cap o b) (ofP H0) 1 w :=
  HRel.row (a := 0) hrow rfl rfl (fun _ => rfl) (ρH_G v n kind cap o b)

theorem GH_app {v : Value} {n : Nat} {kind : Int} {σ : Sub} {ρ : Env} (h : GP.at (GH v n kind) ρ) (h10 : lk σ.I 10 = none) (h21 : lk σ.I 21 = none) (h22 : lk σ.I 22 = none) (h23 : lk σ.I 23 = none) (h24 : lk σ.I 24 = none) (hV : lk σ.V 0 = none) (hS : lk σ.S 1 = none) : GP.at (GH v n kind) (σ.app ρ) := by
  obtain ⟨g1, g2, g3, g4, g5, g6, g7, g8⟩ := h
  exact ⟨(app_V hV).trans g1, (app_I h10).trans g2, (app_I h21).trans g3, (app_I h22).trans g4, (app_I h23).trans g5, (app_I h24).trans g6, (app_S hS).trans g7, fun i => (app_cod 5 i 0).trans (g8 i)⟩
def g4 : Gen := ⟨10, 0, 1, 0⟩

-- LONGEST
def N0 : Tpl := ⟨[(0, sl), (1, iI 21), (5, iI 1), (8, sl), (9, nI), (10, iI 0)], 28, H0, 1, inCs 0, 3⟩
noncomputable def ob0 : Code := ((loopsOf (Tryd.f27.body.getD .ret) []).getD 0 (.ret, [])).1
noncomputable def ok0 : List Item := ((loopsOf (Tryd.f27.body.getD .ret) []).getD 0 (.ret, [])).2
noncomputable def sLonE : List LS := [.next 0 (.code (.loop ob0) :: ok0) [] ⟨[(1, (.lit 0)), (0, (.lit 0))], [], [], [], [(0, 0)]⟩]
noncomputable def sLon : List LS := [.next 0 (.inLoop ob0 :: ok0) [((.cmp .eql (.sel 0 16 1 (.var 0)) (.var 21)), true), ((.cmp .geq (.sel 0 16 8 (.var 0)) (.lit 0)), true), ((.cmp .lss (.var 0) (.var 10)), true), ((.cmp .geq (.var 0) (.lit 0)), true), ((.cmp .leq (.var 0) (.var 10)), true)] ⟨[(1, (.mx (.var 1) (.sel 0 16 12 (.var 0)))), (0, (.bin .add .i64 (.var 0) (.lit 1)))], [], [], [], [(0, 0)]⟩,
  .next 0 (.inLoop ob0 :: ok0) [((.cmp .eql (.sel 0 16 1 (.var 0)) (.var 21)), false), ((.cmp .geq (.sel 0 16 8 (.var 0)) (.lit 0)), true), ((.cmp .lss (.var 0) (.var 10)), true), ((.cmp .geq (.var 0) (.lit 0)), true), ((.cmp .leq (.var 0) (.var 10)), true)] ⟨[(1, (.var 1)), (0, (.bin .add .i64 (.var 0) (.lit 1)))], [], [], [], [(0, 0)]⟩,
  .next 0 (.inLoop ob0 :: ok0) [((.cmp .geq (.sel 0 16 8 (.var 0)) (.lit 0)), false), ((.cmp .lss (.var 0) (.var 10)), true), ((.cmp .geq (.var 0) (.lit 0)), true), ((.cmp .leq (.var 0) (.var 10)), true)] ⟨[(1, (.var 1)), (0, (.bin .add .i64 (.var 0) (.lit 1)))], [], [], [], [(0, 0)]⟩,
  .ret (.int .i64 (.var 1)) [((.cmp .lss (.var 0) (.var 10)), false), ((.cmp .geq (.var 0) (.lit 0)), true), ((.cmp .leq (.var 0) (.var 10)), true)]]
theorem rLonE : (run Tryd.prog [] noSp 4000 true 27 (entry Tryd.f27 (Tryd.f27.body.getD .ret) [sl, iI 21] (ofP H0) 1 [])).map (·.filterMap (sumL g4 [N0])) = some sLonE := by kernel_rfl
theorem rLon : (run Tryd.prog [] noSp 4000 true 27 (N0.st (.code ob0 :: .inLoop ob0 :: ok0))).map (·.filterMap (sumL g4 [N0])) = some sLon := by kernel_rfl
def JLon (v : Value) (n : Nat) (kind : Int) : GP := fun I _ _ _ _ => ∃ i : Nat, I 0 = i ∧ i ≤ n ∧ I 1 = longR v kind i
theorem loop27 (w0 : World) (v : Value) (n : Nat) (kind : Int) (hn : n ≤ maxN) : ∀ ρ, (JLon v n kind).at ρ → ∀ todo a w, todo = .inLoop ob0 :: ok0 ∨ todo = .code (.loop ob0) :: ok0 → SRel (βH w0 v n kind) ρ (N0.st todo) a w →
    Goes Tryd.prog 27 (fun x w' => x = .int .i64 (longR v kind n) ∧ Framed w0 w') todo a w := by
  refine loop_goes (β := βH w0 v n kind) noCount noExt noSp_ok follows rfl rLon (JLon v n kind) (fun ρ => (n - ρ.I 0).toNat) (fun ρ hJ hcs hG ih s hs => ?_)
  simp only [sLon, List.mem_cons, List.not_mem_nil, or_false] at hs
  rcases hs with rfl | rfl | rfl | rfl
  case' inr.inr.inr =>
    intro ρ' hle hc u hu
    obtain ⟨i, j1, j2, j3⟩ := GP.mono hle hJ
    obtain ⟨g1, g2, g3, _⟩ := GP.mono hle hG
    simp [CRel_cons, CRel_nil, BT.den, IT.den, intCmp, j1, g2] at hc
    have hij : i = n := by omega
    subst hij
    simp only [AVal.den, IT.den, Option.map_some, Option.some.injEq] at hu
    rw [← hu, j3]
  all_goals
    intro ρ' hle hc T hT hG'
    obtain ⟨i, j1, j2, j3⟩ := GP.mono hle hJ
    obtain ⟨g1, g2, g3, _⟩ := id hG'
    have e2 : ρ.I = ρ'.I := hle.i.symm
    simp [CRel_cons, CRel_nil, BT.den, IT.den, intCmp, j1, g1, g2, g3] at hc
    have hT : N0 = T := by simpa using hT
    subst hT
    have hlt : i < n := by omega
    have e0 : IntKind.i64.wrap (ρ'.I 0 + 1) = ((i + 1 : Nat) : Int) := up1 j1 (by simp only [maxN] at hn; omega)
    refine ⟨GH_app hG' rfl rfl rfl rfl rfl rfl rfl, ?_, fun a w r => ih _ ?_ ?_ _ a w (.inl rfl) r⟩
    · simp [N0, inCs, CRel_cons, CRel_nil, BT.den, IT.den, intCmp, intBin, Go.Vm.Sub.app, lk_cons, lk_nil, e0, g2]
      omega
    · show ((n : Int) - IntKind.i64.wrap (ρ'.I 0 + 1)).toNat < _
      rw [e0, e2, j1]; omega
    · refine ⟨i + 1, e0, by omega, ?_⟩
      have eM : (if selI (ρ'.V 0) ((ρ'.I 0).toNat * 16 + 12) > ρ'.I 1 then selI (ρ'.V 0) ((ρ'.I 0).toNat * 16 + 12) else ρ'.I 1) = mx2 (longR v kind i) (selI v (i * 16 + 12)) := by rw [j1, g1, j3, Int.toNat_natCast]; rfl
      have eK : longR v kind (i + 1) = if selI v (i * 16 + 1) = kind ∧ 0 ≤ selI v (i * 16 + 8) then mx2 (longR v kind i) (selI v (i * 16 + 12)) else longR v kind i := rfl
      rw [eK]
      first
        | (rw [if_pos (by omega)]; exact eM)
        | (rw [if_neg (by omega)]; exact j3)
theorem long27 (w : World) (v : Value) (n b o cap : Nat) (kind : Int) (hn : n ≤ maxN) (hrow : RowAt w b o ksR n v) : Calls Tryd.prog 27 #[.slice (some ⟨b, o, none⟩) n cap, .int .i64 kind] w (fun e w' => e = .returned (.int .i64 (longR v kind n)) ∧ Framed w w') := by
  have := calls_sums (β := βH w v n kind) (Q := fun x => x = .int .i64 (longR v kind n)) noCount noExt noSp_ok follows rfl Tryd.func27 rfl rLonE (xs := [.slice (some ⟨b, o, none⟩) n cap, .int .i64 kind]) (by simp only [AVal.denL, slD]; rfl) (start w kind hrow) (fun _ h => by cases h) (fun s hs => ?_)
  · exact this.mono fun _ _ ⟨_, he, hv, hf⟩ => ⟨by rw [he, hv], hf⟩
  · rcases List.mem_cons.1 hs with rfl | hs
    · intro ρ' hle hc T hT hG
      have hT : N0 = T := by simpa using hT
      subst hT
      obtain ⟨g1, g2, _⟩ := id hG
      refine ⟨GH_app hG rfl rfl rfl rfl rfl rfl rfl, ?_, fun a w' r => loop27 w v n kind hn _ ⟨0, rfl, Nat.zero_le _, rfl⟩ _ a w' (.inr rfl) r⟩
      simp [N0, inCs, CRel_cons, CRel_nil, BT.den, IT.den, intCmp, Go.Vm.Sub.app, lk_cons, lk_nil, g2]
    · cases hs

-- INVOCATIONS
def at1 : AVal := .slice 2 (.lit 0) (.var 3) (.nv 1)
def HA (e : Nat) : Nat × HB := (2, ⟨.arr (.code [.i64] (.var 2)) [.i64] e (.var 3) (.lit 0) (some (.nv 1)), true⟩)
def I0 (a : AVal) (hs : List (Nat × HB)) (nl : Nat) : Tpl := ⟨[(0, sl), (3, a), (6, sl), (7, nI), (8, iI 0)], 22, H0 ++ hs, nl, inCs 0 ++ [(.cmp .leq (.var 10) (.lit 100), true), (.cmp .leq (.var 3) (.lit 100), true)], 3⟩
def IA := I0 .sliceNil [] 1
def IB := I0 at1 [HA 3] 3
def RA : Tpl := ⟨[(0, .sliceNil)], 1, [], 1, [], 0⟩
def RB : Tpl := ⟨[(0, at1)], 1, [HA 3], 3, [], 0⟩
noncomputable def ib0 : Code := ((loopsOf (Tryd.f25.body.getD .ret) []).getD 0 (.ret, [])).1
noncomputable def ik0 : List Item := ((loopsOf (Tryd.f25.body.getD .ret) []).getD 0 (.ret, [])).2
noncomputable def sInvE : List LM := [.next 1 (.code (.loop ib0) :: ik0) [((.cmp .leq (.var 10) (.lit 100)), true)] ⟨[(0, (.lit 0))], [], [], [], [(0, 0)]⟩]
noncomputable def sInvA : List LM := [.next 0 (.inLoop ib0 :: ik0) [((.cmp .eql (.sel 0 16 1 (.var 0)) (.lit 2)), true), ((.cmp .lss (.var 0) (.var 10)), true), ((.cmp .geq (.var 0) (.lit 0)), true), ((.cmp .leq (.var 0) (.var 10)), true), ((.cmp .leq (.var 10) (.lit 100)), true), ((.cmp .leq (.var 3) (.lit 100)), true)] ⟨[(3, (.lit 1)), (0, (.bin .add .i64 (.var 0) (.lit 1))), (2, (.un 3 (.lit 0) (.var 0)))], [], [], [], [(0, 0), (2, 4), (1, 3)]⟩,
  .next 1 (.inLoop ib0 :: ik0) [((.cmp .eql (.sel 0 16 1 (.var 0)) (.lit 2)), false), ((.cmp .lss (.var 0) (.var 10)), true), ((.cmp .geq (.var 0) (.lit 0)), true), ((.cmp .leq (.var 0) (.var 10)), true), ((.cmp .leq (.var 10) (.lit 100)), true), ((.cmp .leq (.var 3) (.lit 100)), true)] ⟨[(0, (.bin .add .i64 (.var 0) (.lit 1)))], [], [], [], [(0, 0)]⟩,
  .done 0 [((.cmp .lss (.var 0) (.var 10)), false), ((.cmp .geq (.var 0) (.lit 0)), true), ((.cmp .leq (.var 0) (.var 10)), true), ((.cmp .leq (.var 10) (.lit 100)), true), ((.cmp .leq (.var 3) (.lit 100)), true)] ⟨[], [], [], [], []⟩]
noncomputable def sInvB : List LM := [.next 0 (.inLoop ib0 :: ik0) [((.cmp .leq (.var 3) (.lit 1000000)), true), ((.cmp .eql (.sel 0 16 1 (.var 0)) (.lit 2)), true), ((.cmp .lss (.var 0) (.var 10)), true), ((.cmp .geq (.var 0) (.lit 0)), true), ((.cmp .leq (.var 0) (.var 10)), true), ((.cmp .leq (.var 10) (.lit 100)), true), ((.cmp .leq (.var 3) (.lit 100)), true)] ⟨[(3, (.bin .add .i64 (.var 3) (.lit 1))), (0, (.bin .add .i64 (.var 0) (.lit 1))), (2, (.un 3 (.var 2) (.var 0)))], [], [], [], [(0, 0), (2, 6), (1, 5)]⟩,
  .next 0 (.inLoop ib0 :: ik0) [((.cmp .eql (.sel 0 16 1 (.var 0)) (.lit 2)), false), ((.cmp .lss (.var 0) (.var 10)), true), ((.cmp .geq (.var 0) (.lit 0)), true), ((.cmp .leq (.var 0) (.var 10)), true), ((.cmp .leq (.var 10) (.lit 100)), true), ((.cmp .leq (.var 3) (.lit 100)), true)] ⟨[(3, (.var 3)), (0, (.bin .add .i64 (.var 0) (.lit 1))), (2, (.var 2))], [], [], [], [(0, 0), (2, 2), (1, 1)]⟩,
  .done 1 [((.cmp .lss (.var 0) (.var 10)), false), ((.cmp .geq (.var 0) (.lit 0)), true), ((.cmp .leq (.var 0) (.var 10)), true), ((.cmp .leq (.var 10) (.lit 100)), true), ((.cmp .leq (.var 3) (.lit 100)), true)] ⟨[(3, (.var 3)), (2, (.var 2))], [], [], [], [(2, 2), (1, 1)]⟩]
theorem rInvE : (run Tryd.prog [] noSp 4000 true 25 (entry Tryd.f25 (Tryd.f25.body.getD .ret) [sl] (ofP H0) 1 [(.cmp .leq (.var 10) (.lit 100), true)])).map (·.filterMap (sumM g4 [RA, RB] [IB, IA])) = some sInvE := by kernel_rfl
theorem rInvA : (run Tryd.prog [] noSp 4000 true 25 (IA.st (.code ib0 :: .inLoop ib0 :: ik0))).map (·.filterMap (sumM g4 [RA, RB] [IB, IA])) = some sInvA := by kernel_rfl
theorem rInvB : (run Tryd.prog [] noSp 4000 true 25 (IB.st (.code ib0 :: .inLoop ib0 :: ik0))).map (·.filterMap (sumM g4 [RA, RB] [IB, IA])) = some sInvB := by kernel_rfl
def JA (v : Value) (n : Nat) : GP := fun I _ _ _ _ => ∃ i : Nat, I 0 = i ∧ i ≤ n ∧ invs v i = []
def JB (v : Value) (n : Nat) : GP := fun I _ _ _ _ => ∃ i : Nat, I 0 = i ∧ i ≤ n ∧ I 2 = encL (invs v i) ∧ I 3 = ((invs v i).length : Int) ∧ invs v i ≠ []
abbrev RInv (w0 : World) (v : Value) (n : Nat) : Value → World → Prop := fun x w' => RowOr w0 w' x 3 [.i64] (invs v n) (invs v n).length
theorem un3 {x : Int} {l : List Int} {y : Int} (h : x = encL l) : univ 3 x y = encL (l ++ [y]) := by
  rw [h]; show encL (decL (encL l) ++ [y]) = _; rw [decL_encL]
theorem loop25b (w0 : World) (v : Value) (n : Nat) (kind : Int) (hn : n ≤ 100) : ∀ ρ, (JB v n).at ρ → ∀ todo a w, todo = .inLoop ib0 :: ik0 ∨ todo = .code (.loop ib0) :: ik0 → SRel (βH w0 v n kind) ρ (IB.st todo) a w → Goes Tryd.prog 25 (RInv w0 v n) todo a w := by
  refine loop_goesM (β := βH w0 v n kind) noCount noExt noSp_ok follows rfl rInvB (JB v n) (fun ρ => (n - ρ.I 0).toNat) (fun ρ hJ hcs hG ih s hs => ?_)
  simp only [sInvB, List.mem_cons, List.not_mem_nil, or_false] at hs
  rcases hs with rfl | rfl | rfl
  case' inr.inr =>
    intro ρ' hle hc T hT hG'
    obtain ⟨i, j1, j2, j3, j4, j5⟩ := GP.mono hle hJ
    obtain ⟨g1, g2, g3, _⟩ := id hG'
    simp [CRel_cons, CRel_nil, BT.den, IT.den, intCmp, j1, g2] at hc
    have hij : i = n := by omega
    subst hij
    have hT : RB = T := by simpa using hT
    subst hT
    refine ⟨GH_app hG' rfl rfl rfl rfl rfl rfl rfl, (fun _ h => by cases h), fun x w' r => .inr ⟨List.length_pos_iff.2 j5, ?_⟩⟩
    obtain ⟨y, hy, he⟩ := r.t 0 at1 rfl
    obtain rfl := Option.some.inj he
    exact row_out (l := 2) (j := 1) (nT := .var 3) (c := .var 2) rfl r.h rfl hy (congrArg some j4) (congrArg some j3)
  all_goals
    intro ρ' hle hc T hT hG'
    obtain ⟨i, j1, j2, j3, j4, j5⟩ := GP.mono hle hJ
    obtain ⟨g1, g2, g3, _⟩ := id hG'
    have e2 : ρ.I = ρ'.I := hle.i.symm
    simp [CRel_cons, CRel_nil, BT.den, IT.den, intCmp, j1, j4, g1, g2] at hc
    have hT : IB = T := by simpa using hT
    subst hT
    have hlt : i < n := by omega
    have hil := invs_len v i
    have e0 : IntKind.i64.wrap (ρ'.I 0 + 1) = ((i + 1 : Nat) : Int) := up1 j1 (by omega)
    have e3 : IntKind.i64.wrap (ρ'.I 3 + 1) = (((invs v i).length + 1 : Nat) : Int) := up1 j4 (by omega)
    have e3' : IntKind.i64.wrap (((invs v i).length : Int) + 1) = (((invs v i).length + 1 : Nat) : Int) := up1 rfl (by omega)
    refine ⟨GH_app hG' rfl rfl rfl rfl rfl rfl rfl, ?_, fun a w r => ih _ ?_ ?_ _ a w (.inl rfl) r⟩
    · simp [IB, I0, inCs, CRel_cons, CRel_nil, BT.den, IT.den, intCmp, intBin, Go.Vm.Sub.app, lk_cons, lk_nil, e0, e3', g2, j4]
      omega
    · show ((n : Int) - IntKind.i64.wrap (ρ'.I 0 + 1)).toNat < _
      rw [e0, e2, j1]; omega
    · refine ⟨i + 1, e0, by omega, ?_⟩
      first
        | (have e : invs v (i + 1) = invs v i ++ [(i : Int)] := by simp only [invs]; rw [if_pos (by omega)]
           rw [e]
           exact ⟨(un3 j3).trans (by rw [j1]), e3.trans (by simp), by simp⟩)
        | (have e : invs v (i + 1) = invs v i := by simp only [invs]; rw [if_neg (by omega)]
           rw [e]
           exact ⟨j3, j4, j5⟩)
theorem loop25a (w0 : World) (v : Value) (n : Nat) (kind : Int) (hn : n ≤ 100) : ∀ ρ, (JA v n).at ρ → ∀ todo a w, todo = .inLoop ib0 :: ik0 ∨ todo = .code (.loop ib0) :: ik0 → SRel (βH w0 v n kind) ρ (IA.st todo) a w → Goes Tryd.prog 25 (RInv w0 v n) todo a w := by
  refine loop_goesM (β := βH w0 v n kind) noCount noExt noSp_ok follows rfl rInvA (JA v n) (fun ρ => (n - ρ.I 0).toNat) (fun ρ hJ hcs hG ih s hs => ?_)
  simp only [sInvA, List.mem_cons, List.not_mem_nil, or_false] at hs
  rcases hs with rfl | rfl | rfl
  · intro ρ' hle hc T hT hG'
    obtain ⟨i, j1, j2, j3⟩ := GP.mono hle hJ
    obtain ⟨g1, g2, g3, _⟩ := id hG'
    simp [CRel_cons, CRel_nil, BT.den, IT.den, intCmp, j1, g1, g2] at hc
    have hT : IB = T := by simpa using hT
    subst hT
    have hlt : i < n := by omega
    have e0 : IntKind.i64.wrap (ρ'.I 0 + 1) = ((i + 1 : Nat) : Int) := up1 j1 (by omega)
    refine ⟨GH_app hG' rfl rfl rfl rfl rfl rfl rfl, ?_, fun a w r => loop25b w0 v n kind hn _ ⟨i + 1, e0, by omega, ?_⟩ _ a w (.inl rfl) r⟩
    · simp [IB, I0, inCs, CRel_cons, CRel_nil, BT.den, IT.den, intCmp, intBin, Go.Vm.Sub.app, lk_cons, lk_nil, e0, g2]
      omega
    · have e : invs v (i + 1) = [] ++ [(i : Int)] := by simp only [invs]; rw [if_pos (by omega), j3]
      rw [e]
      exact ⟨(un3 (x := 0) (l := []) rfl).trans (by rw [j1]), rfl, by simp⟩
  · intro ρ' hle hc T hT hG'
    obtain ⟨i, j1, j2, j3⟩ := GP.mono hle hJ
    obtain ⟨g1, g2, g3, _⟩ := id hG'
    have e2 : ρ.I = ρ'.I := hle.i.symm
    simp [CRel_cons, CRel_nil, BT.den, IT.den, intCmp, j1, g1, g2] at hc
    have hT : IA = T := by simpa using hT
    subst hT
    have hlt : i < n := by omega
    have e0 : IntKind.i64.wrap (ρ'.I 0 + 1) = ((i + 1 : Nat) : Int) := up1 j1 (by omega)
    refine ⟨GH_app hG' rfl rfl rfl rfl rfl rfl rfl, ?_, fun a w r => ih _ ?_ ⟨i + 1, e0, by omega, ?_⟩ _ a w (.inl rfl) r⟩
    · simp [IA, I0, inCs, CRel_cons, CRel_nil, BT.den, IT.den, intCmp, intBin, Go.Vm.Sub.app, lk_cons, lk_nil, e0, g2]
      omega
    · show ((n : Int) - IntKind.i64.wrap (ρ'.I 0 + 1)).toNat < _
      rw [e0, e2, j1]; omega
    · simp only [invs]; rw [if_neg (by omega)]; exact j3
  · intro ρ' hle hc T hT hG'
    obtain ⟨i, j1, j2, j3⟩ := GP.mono hle hJ
    obtain ⟨g1, g2, g3, _⟩ := id hG'
    simp [CRel_cons, CRel_nil, BT.den, IT.den, intCmp, j1, g2] at hc
    have hij : i = n := by omega
    subst hij
    have hT : RA = T := by simpa using hT
    subst hT
    refine ⟨GH_app hG' rfl rfl rfl rfl rfl rfl rfl, (fun _ h => by cases h), fun x w' r => .inl ⟨by rw [j3]; rfl, ?_, framed_base rfl r.h⟩⟩
    obtain ⟨y, hy, he⟩ := r.t 0 .sliceNil rfl
    obtain rfl := Option.some.inj he
    exact (Option.some.inj hy).symm
theorem inv25 (w : World) (v : Value) (n b o cap : Nat) (hn : n ≤ 100) (hrow : RowAt w b o ksR n v) : Calls Tryd.prog 25 #[.slice (some ⟨b, o, none⟩) n cap] w (fun e w' => ∃ x, e = .returned x ∧ RInv w v n x w') := by
  refine calls_sumsM (β := βH w v n 0) (ρ := ρH v n 0 cap o b) noCount noExt noSp_ok follows rfl Tryd.func25 rfl rInvE (xs := [.slice (some ⟨b, o, none⟩) n cap]) (by simp only [AVal.denL, slD]) (start w 0 hrow) (CRel_cons.2 ⟨?_, CRel_nil.2 trivial⟩) (fun s hs => ?_)
  · show some (decide ((n : Int) ≤ 100)) = some true
    simp; omega
  · rcases List.mem_cons.1 hs with rfl | hs
    · intro ρ' hle hc T hT hG
      have hT : IA = T := by simpa using hT
      subst hT
      obtain ⟨g1, g2, _⟩ := id hG
      refine ⟨GH_app hG rfl rfl rfl rfl rfl rfl rfl, ?_, fun a w' r => loop25a w v n 0 hn _ ⟨0, rfl, Nat.zero_le _, rfl⟩ _ a w' (.inr rfl) r⟩
      have h3 : ρ'.I 3 = 0 := by rw [hle.i]; rfl
      simp [IA, I0, inCs, CRel_cons, CRel_nil, BT.den, IT.den, intCmp, Go.Vm.Sub.app, lk_cons, lk_nil, g2, h3]
      omega
    · cases hs

-- REPORT
def bld (hs : List AVal) : Nat × HB := (1, ⟨.cells hs 98 none, true⟩)
def RP0 : Tpl := ⟨[(0, sl), (3, .ptr 1 (.lit 0)), (6, sl), (7, nI), (8, .int .i64 (.lit 0))], 18, H0 ++ [bld [.ptrNil, .sliceNil]], 2, [(.cmp .leq (.var 10) (.lit 100), true)], 3⟩
def RP1 : Tpl := ⟨[(0, sl), (3, .ptr 1 (.lit 0)), (6, sl), (7, nI), (8, iI 0)], 18, H0 ++ [bld [.ptr 1 (.lit 0), .slice 3 (.lit 0) (.var 4) (.nv 2)], (3, ⟨.arr (.bts (.var 0)) [.u8] 5 (.var 4) (.lit 0) (some (.nv 2)), true⟩)], 4, inCs 0 ++ [(.cmp .leq (.var 10) (.lit 100), true), (.cmp .geq (.var 4) (.lit 1), true), (.cmp .leq (.var 4) (.lit 500000), true)], 3⟩
noncomputable def rb0 : Code := ((loopsOf (Tryd.f26.body.getD .ret) []).getD 0 (.ret, [])).1
noncomputable def rk0 : List Item := ((loopsOf (Tryd.f26.body.getD .ret) []).getD 0 (.ret, [])).2
noncomputable def sRepE : List LS := [.next 1 (.code (.loop rb0) :: rk0) [((.cmp .leq (.var 10) (.lit 100)), true)] ⟨[], [], [], [], [(0, 0), (1, 1)]⟩]
noncomputable def sRep0 : List LS := [.next 0 (.inLoop rb0 :: rk0) [((.cmp .geq (.slen (.fn 5 (.lit 0) (.lit 0))) (.lit 1)), true), ((.cmp .geq (.lit 0) (.lit 0)), true), ((.cmp .lss (.lit 0) (.var 10)), true), ((.cmp .leq (.var 10) (.lit 100)), true)] ⟨[(0, (.lit 1)), (4, (.bin .add .i64 (.slen (.fn 5 (.lit 0) (.lit 0))) (.lit 1)))], [], [(0, (.cat (.fn 5 (.lit 0) (.lit 0)) (.lit [10])))], [], [(0, 0), (1, 1), (3, 7), (2, 6)]⟩,
  .stop [((.cmp .geq (.slen (.fn 5 (.lit 0) (.lit 0))) (.lit 1)), false), ((.cmp .geq (.lit 0) (.lit 0)), true), ((.cmp .lss (.lit 0) (.var 10)), true), ((.cmp .leq (.var 10) (.lit 100)), true)],
  .ret (.str (.lit [])) [((.cmp .lss (.lit 0) (.var 10)), false), ((.cmp .leq (.var 10) (.lit 100)), true)]]
noncomputable def sRep1 : List LS := [.next 0 (.inLoop rb0 :: rk0) [((.cmp .leq (.bin .add .i64 (.var 4) (.slen (.fn 5 (.var 0) (.lit 0)))) (.lit 1000000)), true), ((.cmp .leq (.var 4) (.lit 1000000000000)), true), ((.cmp .lss (.var 0) (.var 10)), true), ((.cmp .geq (.var 0) (.lit 0)), true), ((.cmp .leq (.var 0) (.var 10)), true), ((.cmp .leq (.var 10) (.lit 100)), true), ((.cmp .geq (.var 4) (.lit 1)), true), ((.cmp .leq (.var 4) (.lit 500000)), true)] ⟨[(0, (.bin .add .i64 (.var 0) (.lit 1))), (4, (.bin .add .i64 (.bin .add .i64 (.var 4) (.slen (.fn 5 (.var 0) (.lit 0)))) (.lit 1)))], [], [(0, (.cat (.cat (.var 0) (.fn 5 (.var 0) (.lit 0))) (.lit [10])))], [], [(0, 0), (1, 1), (3, 9), (2, 8)]⟩,
  .stop [((.cmp .leq (.bin .add .i64 (.var 4) (.slen (.fn 5 (.var 0) (.lit 0)))) (.lit 1000000)), false), ((.cmp .leq (.var 4) (.lit 1000000000000)), true), ((.cmp .lss (.var 0) (.var 10)), true), ((.cmp .geq (.var 0) (.lit 0)), true), ((.cmp .leq (.var 0) (.var 10)), true), ((.cmp .leq (.var 10) (.lit 100)), true), ((.cmp .geq (.var 4) (.lit 1)), true), ((.cmp .leq (.var 4) (.lit 500000)), true)],
  .ret (.str (.var 0)) [((.cmp .leq (.var 4) (.lit 1000000000000)), true), ((.cmp .lss (.var 0) (.var 10)), false), ((.cmp .geq (.var 0) (.lit 0)), true), ((.cmp .leq (.var 0) (.var 10)), true), ((.cmp .leq (.var 10) (.lit 100)), true), ((.cmp .geq (.var 4) (.lit 1)), true), ((.cmp .leq (.var 4) (.lit 500000)), true)]]
def spT : CallF := spL [(18, spRec)]
theorem rRepE : (run Tryd.prog exts05 spT 4000 true 26 (entry Tryd.f26 (Tryd.f26.body.getD .ret) [sl] (ofP H0) 1 [(.cmp .leq (.var 10) (.lit 100), true)])).map (·.filterMap (sumL g4 [RP1, RP0])) = some sRepE := by kernel_rfl
theorem rRep0 : (run Tryd.prog exts05 spT 4000 true 26 (RP0.st (.code rb0 :: .inLoop rb0 :: rk0))).map (·.filterMap (sumL g4 [RP1, RP0])) = some sRep0 := by kernel_rfl
theorem rRep1 : (run Tryd.prog exts05 spT 4000 true 26 (RP1.st (.code rb0 :: .inLoop rb0 :: rk0))).map (·.filterMap (sumL g4 [RP1, RP0])) = some sRep1 := by kernel_rfl
theorem bsz (l : List UInt8) : (ByteArray.mk l.toArray).size = l.length := by show l.toArray.size = _; simp
theorem bcat (a b : List UInt8) : (ByteArray.mk a.toArray) ++ (ByteArray.mk b.toArray) = ⟨(a ++ b).toArray⟩ := by apply ByteArray.ext; simp
def JR (v : Value) (n : Nat) : GP := fun I _ S _ _ => ∃ i : Nat, I 0 = i ∧ i ≤ n ∧ S 0 = ⟨(joinT v i).toArray⟩ ∧ I 4 = ((joinT v i).length : Int)
theorem spT_ok (w0 : World) (v : Value) (n : Nat) (kind : Int) (hv : RecIn v) (hT : TabW w0) : CallOk Tryd.prog (βH w0 v n kind) spT := by
  refine spL_ok fun p hp => ?_
  simp only [List.mem_cons, List.not_mem_nil, or_false] at hp
  obtain rfl := hp
  exact spRec_ok hv fun w H nl ρ hh f z hf => recText18 w (TabW.of hT rfl hh) hf
theorem tden {v : Value} {n : Nat} {kind : Int} {ρ : Env} (hv : RecIn v) (hG : GP.at (GH v n kind) ρ) (p : PT) (i : Nat) (hp : p.den ρ = (i : Int)) : (ST.fn 5 p (.lit 0)).den ρ = ⟨(rtext v i).toArray⟩ := by
  have := text_den hv hG.2.2.2.2.2.2.2 p
  rw [hp, Int.toNat_natCast] at this; exact this
theorem loop26 (w0 : World) (v : Value) (n : Nat) (kind : Int) (hv : RecIn v) (hT : TabW w0) (hn : n ≤ 100) : ∀ ρ, (JR v n).at ρ → ∀ todo a w, todo = .inLoop rb0 :: rk0 ∨ todo = .code (.loop rb0) :: rk0 → SRel (βH w0 v n kind) ρ (RP1.st todo) a w →
    Goes Tryd.prog 26 (fun x w' => x = .string ⟨(joinT v n).toArray⟩ ∧ Framed w0 w') todo a w := by
  refine loop_goes (β := βH w0 v n kind) noCount exts05_ok (spT_ok w0 v n kind hv hT) follows rfl rRep1 (JR v n) (fun ρ => (n - ρ.I 0).toNat) (fun ρ hJ hcs hG ih s hs => ?_)
  simp only [sRep1, List.mem_cons, List.not_mem_nil, or_false] at hs
  rcases hs with rfl | rfl | rfl
  · intro ρ' hle hc T hT hG'
    obtain ⟨i, j1, j2, j3, j4⟩ := GP.mono hle hJ
    obtain ⟨g1, g2, g3, _⟩ := id hG'
    have e2 : ρ.I = ρ'.I := hle.i.symm
    have td := tden hv hG' (.var 0) i j1
    have tl := rtext_len hv i
    have jl := joinT_len hv i
    have hc0 : i < n := by
      simp [CRel_cons, CRel_nil, BT.den, IT.den, intCmp, j1, g2] at hc; omega
    have hT : RP1 = T := by simpa using hT
    subst hT
    have e0 : IntKind.i64.wrap (ρ'.I 0 + 1) = ((i + 1 : Nat) : Int) := up1 j1 (by omega)
    have e4 : IntKind.i64.wrap (ρ'.I 4 + (((ST.fn 5 (.var 0) (.lit 0)).den ρ').size : Int)) = (((joinT v i).length + (rtext v i).length : Nat) : Int) := by
      rw [td, bsz, j4, wrap_ok (by omega) (by omega)]; omega
    have e5 : IntKind.i64.wrap (IntKind.i64.wrap (ρ'.I 4 + (((ST.fn 5 (.var 0) (.lit 0)).den ρ').size : Int)) + 1) = ((joinT v (i + 1)).length : Int) := by
      rw [up1 e4 (by omega)]; simp only [joinT, List.length_append, List.length_cons, List.length_nil]; omega
    have jl1 := joinT_len hv (i + 1)
    refine ⟨GH_app hG' rfl rfl rfl rfl rfl rfl rfl, ?_, fun a w r => ih _ ?_ ⟨i + 1, e0, by omega, ?_, e5⟩ _ a w (.inl rfl) r⟩
    · simp [RP1, inCs, CRel_cons, CRel_nil, BT.den, IT.den, intCmp, intBin, Go.Vm.Sub.app, lk_cons, lk_nil, e0, e5, g2]
      omega
    · show ((n : Int) - IntKind.i64.wrap (ρ'.I 0 + 1)).toNat < _
      rw [e0, e2, j1]; omega
    · show (ρ'.S 0 ++ (ST.fn 5 (.var 0) (.lit 0)).den ρ') ++ ⟨[10].toArray⟩ = _
      rw [j3, td, bcat, bcat]
      simp only [joinT, List.append_assoc]
  · intro ρ' hle hc
    obtain ⟨i, j1, j2, j3, j4⟩ := GP.mono hle hJ
    have hG' := GP.mono hle hG
    have td := tden hv hG' (.var 0) i j1
    have tl := rtext_len hv i
    have jl := joinT_len hv i
    have e4 : IntKind.i64.wrap (ρ'.I 4 + (((ST.fn 5 (.var 0) (.lit 0)).den ρ').size : Int)) = (((joinT v i).length + (rtext v i).length : Nat) : Int) := by
      rw [td, bsz, j4, wrap_ok (by omega) (by omega)]; omega
    have h1 := hc _ List.mem_cons_self
    simp only [BT.den, IT.den, intBin, e4, intCmp, Option.some.injEq, decide_eq_false_iff_not] at h1
    omega
  · intro ρ' hle hc u hu
    obtain ⟨i, j1, j2, j3, j4⟩ := GP.mono hle hJ
    obtain ⟨g1, g2, g3, _⟩ := GP.mono hle hG
    simp [CRel_cons, CRel_nil, BT.den, IT.den, intCmp, j1, g2] at hc
    have hij : i = n := by omega
    subst hij
    simp only [AVal.den, ST.den, Option.some.injEq] at hu
    rw [← hu, j3]
theorem loop26z (w0 : World) (v : Value) (n : Nat) (kind : Int) (hv : RecIn v) (hTab : TabW w0) (hn : n ≤ 100) : ∀ ρ, GP.at (fun _ _ _ _ _ => True) ρ → ∀ todo a w, todo = .inLoop rb0 :: rk0 ∨ todo = .code (.loop rb0) :: rk0 → SRel (βH w0 v n kind) ρ (RP0.st todo) a w →
    Goes Tryd.prog 26 (fun x w' => x = .string ⟨(joinT v n).toArray⟩ ∧ Framed w0 w') todo a w := by
  refine loop_goes (β := βH w0 v n kind) noCount exts05_ok (spT_ok w0 v n kind hv hTab) follows rfl rRep0 (fun _ _ _ _ _ => True) (fun _ => 0) (fun ρ hJ hcs hG ih s hs => ?_)
  simp only [sRep0, List.mem_cons, List.not_mem_nil, or_false] at hs
  rcases hs with rfl | rfl | rfl
  · intro ρ' hle hc T hT hG'
    obtain ⟨g1, g2, g3, _⟩ := id hG'
    have td := tden hv hG' (.lit 0) 0 rfl
    have tl := rtext_len hv 0
    have hc0 : 0 < n := by
      simp [CRel_cons, CRel_nil, BT.den, IT.den, intCmp, g2] at hc; omega
    have hT : RP1 = T := by simpa using hT
    subst hT
    have e5 : IntKind.i64.wrap ((((ST.fn 5 (.lit 0) (.lit 0)).den ρ').size : Int) + 1) = ((joinT v 1).length : Int) := by
      rw [td, bsz, up1 rfl (by omega)]; simp [joinT]
    have jl1 := joinT_len hv 1
    refine ⟨GH_app hG' rfl rfl rfl rfl rfl rfl rfl, ?_, fun a w r => loop26 w0 v n kind hv hTab hn _ ⟨1, rfl, hc0, ?_, e5⟩ _ a w (.inl rfl) r⟩
    · simp [RP1, inCs, CRel_cons, CRel_nil, BT.den, IT.den, intCmp, intBin, Go.Vm.Sub.app, lk_cons, lk_nil, e5, g2]
      omega
    · show (ST.fn 5 (.lit 0) (.lit 0)).den ρ' ++ ⟨[10].toArray⟩ = _
      rw [td, bcat]
      simp only [joinT, List.nil_append]
  · intro ρ' hle hc
    have hG' := GP.mono hle hG
    have td := tden hv hG' (.lit 0) 0 rfl
    have tl := rtext_len hv 0
    have h1 := hc _ List.mem_cons_self
    simp only [BT.den, IT.den, td, bsz, intCmp, Option.some.injEq, decide_eq_false_iff_not] at h1
    omega
  · intro ρ' hle hc u hu
    obtain ⟨g1, g2, g3, _⟩ := GP.mono hle hG
    simp [CRel_cons, CRel_nil, BT.den, IT.den, intCmp, g2] at hc
    have hn0 : n = 0 := by omega
    subst hn0
    simp only [AVal.den, ST.den, Option.some.injEq] at hu
    rw [← hu]; rfl
theorem rep26 (w : World) (v : Value) (n b o cap : Nat) (hv : RecIn v) (hT : TabW w) (hn : n ≤ 100) (hrow : RowAt w b o ksR n v) : Calls Tryd.prog 26 #[.slice (some ⟨b, o, none⟩) n cap] w (fun e w' => e = .returned (.string ⟨(joinT v n).toArray⟩) ∧ Framed w w') := by
  have := calls_sums (β := βH w v n 0) (ρ := ρH v n 0 cap o b) (Q := fun x => x = .string ⟨(joinT v n).toArray⟩) noCount exts05_ok (spT_ok w v n 0 hv hT) follows rfl Tryd.func26 rfl rRepE (xs := [.slice (some ⟨b, o, none⟩) n cap]) (by simp only [AVal.denL, slD]) (start w 0 hrow) (CRel_cons.2 ⟨?_, CRel_nil.2 trivial⟩) (fun s hs => ?_)
  · exact this.mono fun _ _ ⟨_, he, hv, hf⟩ => ⟨by rw [he, hv], hf⟩
  · show some (decide ((n : Int) ≤ 100)) = some true
    simp; omega
  · rcases List.mem_cons.1 hs with rfl | hs
    · intro ρ' hle hc T hT' hG
      have hT' : RP0 = T := by simpa using hT'
      subst hT'
      obtain ⟨g1, g2, _⟩ := id hG
      refine ⟨GH_app hG rfl rfl rfl rfl rfl rfl rfl, ?_, fun a w' r => loop26z w v n 0 hv hT hn _ trivial _ a w' (.inr rfl) r⟩
      simp [RP0, CRel_cons, CRel_nil, BT.den, IT.den, intCmp, Go.Vm.Sub.app, lk_nil, g2]
      omega
    · cases hs
end Ht
end Go.Proofs.YtagdcclpibjfoaaDoor
