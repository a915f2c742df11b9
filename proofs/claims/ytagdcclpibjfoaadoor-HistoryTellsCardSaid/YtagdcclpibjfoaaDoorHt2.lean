/-
  HistoryTells (2): what is known of the functions that are asked of one record, and of a row's records.
-/
import Derived.Test.YtagdcclpibjfoaaDoorHt1
namespace Go.Proofs.YtagdcclpibjfoaaDoor
open Go.Vm Txt
namespace Ht

def ksR : List IntKind := [.i64, .i64, .i64, .i64, .i64, .i64, .i64, .i64, .i64, .i64, .i64, .i64, .i64, .i64, .i64, .u64]
theorem list16 {α : Type} {l : List α} (h : l.length = 16) : ∃ a0 a1 a2 a3 a4 a5 a6 a7 a8 a9 a10 a11 a12 a13 a14 a15, l = [a0, a1, a2, a3, a4, a5, a6, a7, a8, a9, a10, a11, a12, a13, a14, a15] := by
  match l, h with
  | [a0, a1, a2, a3, a4, a5, a6, a7, a8, a9, a10, a11, a12, a13, a14, a15], _ => exact ⟨_, _, _, _, _, _, _, _, _, _, _, _, _, _, _, _, rfl⟩
/-- The cell of a record. -/
def cellAt (cs : List AVal) (j : Nat) : IT := match cs[j]? with
  | some (.int _ t) => t
  | _ => .lit 0
theorem kinds1_get : ∀ {ks : List IntKind} {cs : List AVal} {j : Nat} {k : IntKind}, kinds1 ks cs = true → ks[j]? = some k → ∃ t, cs[j]? = some (.int k t)
  | [], [], j, k, _, hk => by simp at hk
  | [], _ :: _, j, k, h, _ => by simp [kinds1] at h
  | _ :: _, [], j, k, h, _ => by simp [kinds1] at h
  | k0 :: r, v :: s, j, k, h, hk => by
    cases v <;> simp only [kinds1] at h <;> first | (cases h; done) | skip
    simp only [Bool.and_eq_true, decide_eq_true_eq] at h
    obtain ⟨rfl, h2⟩ := h
    cases j with
    | zero => simp at hk; subst hk; exact ⟨_, rfl⟩
    | succ j => simpa using kinds1_get h2 (by simpa using hk)
theorem rec_den {ρ : Env} {cs : List AVal} {xs : List Value} (h : kinds1 ksR cs = true) (hx : AVal.denL ρ cs = some xs) :
    ∃ f z, Value.agg xs.toArray = recV f z ∧ ∀ j, j < 15 → (cellAt cs j).den ρ = some (f j) := by
  obtain ⟨hl, hk⟩ := kinds1_ok h hx
  obtain ⟨a0, a1, a2, a3, a4, a5, a6, a7, a8, a9, a10, a11, a12, a13, a14, a15, rfl⟩ := list16 (l := xs) hl
  obtain ⟨z0, e0⟩ := hk 0 .i64 rfl
  obtain ⟨z1, e1⟩ := hk 1 .i64 rfl
  obtain ⟨z2, e2⟩ := hk 2 .i64 rfl
  obtain ⟨z3, e3⟩ := hk 3 .i64 rfl
  obtain ⟨z4, e4⟩ := hk 4 .i64 rfl
  obtain ⟨z5, e5⟩ := hk 5 .i64 rfl
  obtain ⟨z6, e6⟩ := hk 6 .i64 rfl
  obtain ⟨z7, e7⟩ := hk 7 .i64 rfl
  obtain ⟨z8, e8⟩ := hk 8 .i64 rfl
  obtain ⟨z9, e9⟩ := hk 9 .i64 rfl
  obtain ⟨z10, e10⟩ := hk 10 .i64 rfl
  obtain ⟨z11, e11⟩ := hk 11 .i64 rfl
  obtain ⟨z12, e12⟩ := hk 12 .i64 rfl
  obtain ⟨z13, e13⟩ := hk 13 .i64 rfl
  obtain ⟨z14, e14⟩ := hk 14 .i64 rfl
  obtain ⟨z15, e15⟩ := hk 15 .u64 rfl
  cases e0; cases e1; cases e2; cases e3; cases e4; cases e5; cases e6; cases e7; cases e8; cases e9; cases e10; cases e11; cases e12; cases e13; cases e14; cases e15
  refine ⟨fun j => [z0, z1, z2, z3, z4, z5, z6, z7, z8, z9, z10, z11, z12, z13, z14].getD j 0, z15, rfl, fun j hj => ?_⟩
  have key : ∀ {j : Nat} {z : Int}, ksR[j]? = some .i64 → ([Value.int .i64 z0, .int .i64 z1, .int .i64 z2, .int .i64 z3, .int .i64 z4, .int .i64 z5, .int .i64 z6, .int .i64 z7, .int .i64 z8, .int .i64 z9, .int .i64 z10, .int .i64 z11, .int .i64 z12, .int .i64 z13, .int .i64 z14, .int .u64 z15] : List Value)[j]? = some (.int .i64 z) → (cellAt cs j).den ρ = some z := by
    intro j z hk hz
    obtain ⟨t, ht⟩ := kinds1_get h hk
    obtain ⟨x, hx1, hx2⟩ := AVal.denL_get hx ht
    rw [hz] at hx1; cases hx1
    simp only [AVal.den] at hx2
    obtain ⟨y, hy, he⟩ := Option.map_eq_some_iff.1 hx2
    cases he
    simp only [cellAt, ht, hy]
  rcases (show j = 0 ∨ j = 1 ∨ j = 2 ∨ j = 3 ∨ j = 4 ∨ j = 5 ∨ j = 6 ∨ j = 7 ∨ j = 8 ∨ j = 9 ∨ j = 10 ∨ j = 11 ∨ j = 12 ∨ j = 13 ∨ j = 14 by omega) with rfl | rfl | rfl | rfl | rfl | rfl | rfl | rfl | rfl | rfl | rfl | rfl | rfl | rfl | rfl <;> exact key rfl rfl
/-- A truth value of one record, of two. -/
def rec1 (T : (Nat → IT) → BT) : SpecF := fun args => match args with
  | [.agg cs] => cond (kinds1 ksR cs) (some [(.bool (T (cellAt cs)), [])]) none
  | _ => none
def rec2 (T : (Nat → IT) → (Nat → IT) → BT) : SpecF := fun args => match args with
  | [.agg cs, .agg ds] => cond (kinds1 ksR cs && kinds1 ksR ds) (some [(.bool (T (cellAt cs) (cellAt ds)), [])]) none
  | _ => none
def tEnd (c : Nat → IT) : BT := .cmp .geq (c 8) (.lit 0)
def tRef (c : Nat → IT) : BT := .and (tEnd c) (.not (.and (.cmp .eql (c 11) (.lit 0)) (.not (.cmp .eql (c 9) (.lit 5)))))
def tAhd (c d : Nat → IT) : BT := .and (tEnd c) (.cmp .lss (c 8) (d 7))
theorem rec1_ok {g : FuncId} {T : (Nat → IT) → BT} {B : (Nat → Int) → Bool} (h : ∀ w f z, Calls Tryd.prog g #[recV f z] w (fun e w' => e = .returned (.bool (B f)) ∧ Framed w w')) (hT : ∀ (ρ : Env) (c : Nat → IT) (f : Nat → Int), (∀ j, j < 15 → (c j).den ρ = some (f j)) → (T c).den ρ = some (B f)) : SpecOk Tryd.prog g (rec1 T) := by
  intro args alts ρ w xs hr hx
  unfold rec1 at hr
  split at hr
  rotate_left
  · cases hr
  rename_i cs
  cases hk : kinds1 ksR cs with
  | false => rw [hk] at hr; cases hr
  | true =>
    rw [hk] at hr; cases hr
    simp only [AVal.denL, AVal.den] at hx
    cases hc : AVal.denL ρ cs with
    | none => rw [hc] at hx; cases hx
    | some ys =>
      rw [hc] at hx
      cases hx
      obtain ⟨f, z, e, hf⟩ := rec_den hk hc
      show Calls Tryd.prog g #[Value.agg ys.toArray] w _
      rw [e]
      exact (h w f z).mono fun e w' ⟨he, hfr⟩ => ⟨_, he, hfr, _, List.mem_cons_self, by simp only [AVal.den, hT ρ _ f hf, Option.map_some], fun _ hp => by cases hp⟩
theorem rec2_ok {g : FuncId} {T : (Nat → IT) → (Nat → IT) → BT} {B : (Nat → Int) → (Nat → Int) → Bool} (h : ∀ w f z f' z', Calls Tryd.prog g #[recV f z, recV f' z'] w (fun e w' => e = .returned (.bool (B f f')) ∧ Framed w w')) (hT : ∀ (ρ : Env) (c d : Nat → IT) (f f' : Nat → Int), (∀ j, j < 15 → (c j).den ρ = some (f j)) → (∀ j, j < 15 → (d j).den ρ = some (f' j)) → (T c d).den ρ = some (B f f')) : SpecOk Tryd.prog g (rec2 T) := by
  intro args alts ρ w xs hr hx
  unfold rec2 at hr
  split at hr
  rotate_left
  · cases hr
  rename_i cs ds
  cases hk : (kinds1 ksR cs && kinds1 ksR ds) with
  | false => rw [hk] at hr; cases hr
  | true =>
    rw [hk] at hr; cases hr
    simp only [Bool.and_eq_true] at hk
    simp only [AVal.denL, AVal.den] at hx
    cases hc : AVal.denL ρ cs with
    | none => rw [hc] at hx; cases hx
    | some ys =>
      cases hd : AVal.denL ρ ds with
      | none => rw [hc, hd] at hx; cases hx
      | some zs =>
        rw [hc, hd] at hx
        cases hx
        obtain ⟨f, z, e, hf⟩ := rec_den hk.1 hc
        obtain ⟨f', z', e', hf'⟩ := rec_den hk.2 hd
        show Calls Tryd.prog g #[Value.agg ys.toArray, Value.agg zs.toArray] w _
        rw [e, e']
        exact (h w f z f' z').mono fun e w' ⟨he, hfr⟩ => ⟨_, he, hfr, _, List.mem_cons_self, by simp only [AVal.den, hT ρ _ _ f f' hf hf', Option.map_some], fun _ hp => by cases hp⟩

-- THE SIX FUNCTIONS
def recA2 : AVal := .agg [iv 20, iv 21, iv 22, iv 23, iv 24, iv 25, iv 26, iv 27, iv 28, iv 29, iv 30, iv 31, iv 32, iv 33, iv 34, .int .u64 (.var 35)]
def env1 (f : Nat → Int) (z : Int) (f' : Nat → Int) (z' : Int) : Env := ⟨fun i => if i < 15 then f i else if i = 15 then z else if i < 35 then f' (i - 20) else z', fun _ => false, fun _ => default, fun _ => undef, fun _ => none, F0⟩
theorem run19 : ∃ c, Tryd.f19.body = some c ∧ (run Tryd.prog [] (spOf noSpecs) 4000 false 19 (entry Tryd.f19 c [recA] .leaf 0 [])).map (·.all (leafB (tEnd .var))) = some true := ⟨_, rfl, by kernel_rfl⟩
theorem run20 : ∃ c, Tryd.f20.body = some c ∧ (run Tryd.prog [] (spOf noSpecs) 4000 false 20 (entry Tryd.f20 c [recA] .leaf 0 [])).map (·.all (leafB (tEnd .var))) = some true := ⟨_, rfl, by kernel_rfl⟩
theorem run21 : ∃ c, Tryd.f21.body = some c ∧ (run Tryd.prog [] (spOf noSpecs) 4000 false 21 (entry Tryd.f21 c [recA] .leaf 0 [])).map (·.all (leafB (tRef .var))) = some true := ⟨_, rfl, by kernel_rfl⟩
theorem run22 : ∃ c, Tryd.f22.body = some c ∧ (run Tryd.prog [] (spOf noSpecs) 4000 false 22 (entry Tryd.f22 c [recA] .leaf 0 [])).map (·.all (leafB (tRef .var))) = some true := ⟨_, rfl, by kernel_rfl⟩
theorem run23 : ∃ c, Tryd.f23.body = some c ∧ (run Tryd.prog [] (spOf noSpecs) 4000 false 23 (entry Tryd.f23 c [recA, recA2] .leaf 0 [])).map (·.all (leafB (tAhd .var fun j => .var (20 + j)))) = some true := ⟨_, rfl, by kernel_rfl⟩
theorem run24 : ∃ c, Tryd.f24.body = some c ∧ (run Tryd.prog [] (spOf noSpecs) 4000 false 24 (entry Tryd.f24 c [recA, recA2] .leaf 0 [])).map (·.all (leafB (tAhd .var fun j => .var (20 + j)))) = some true := ⟨_, rfl, by kernel_rfl⟩
def bEnd (f : Nat → Int) : Bool := decide (f 8 ≥ 0)
def bRef (f : Nat → Int) : Bool := bEnd f && !((f 11 == 0) && !(f 9 == 5))
def bAhd (f f' : Nat → Int) : Bool := bEnd f && decide (f 8 < f' 7)
theorem c1_ok {g : FuncId} {fn : Func} {T : BT} {B : (Nat → Int) → Bool} (hf : Tryd.prog.funcs[g]? = some fn) (hrun : ∃ c, fn.body = some c ∧ (run Tryd.prog [] (spOf noSpecs) 4000 false g (entry fn c [recA] .leaf 0 [])).map (·.all (leafB T)) = some true) (hT : ∀ f z, T.den (env1 f z f z) = some (B f)) (w : World) (f : Nat → Int) (z : Int) : Calls Tryd.prog g #[recV f z] w (fun e w' => e = .returned (.bool (B f)) ∧ Framed w w') := by
  obtain ⟨c, hb, hr⟩ := hrun
  exact calls_bool noCount noExt noSpecs_ok follows hf hb hr (xs := [recV f z]) (ρ := env1 f z f z) rfl (fun _ => rfl) (fun _ h => by cases h) (hT f z)
theorem c2_ok {g : FuncId} {fn : Func} {T : BT} {B : (Nat → Int) → (Nat → Int) → Bool} (hf : Tryd.prog.funcs[g]? = some fn) (hrun : ∃ c, fn.body = some c ∧ (run Tryd.prog [] (spOf noSpecs) 4000 false g (entry fn c [recA, recA2] .leaf 0 [])).map (·.all (leafB T)) = some true) (hT : ∀ f z f' z', T.den (env1 f z f' z') = some (B f f')) (w : World) (f : Nat → Int) (z : Int) (f' : Nat → Int) (z' : Int) : Calls Tryd.prog g #[recV f z, recV f' z'] w (fun e w' => e = .returned (.bool (B f f')) ∧ Framed w w') := by
  obtain ⟨c, hb, hr⟩ := hrun
  exact calls_bool noCount noExt noSpecs_ok follows hf hb hr (xs := [recV f z, recV f' z']) (ρ := env1 f z f' z') rfl (fun _ => rfl) (fun _ h => by cases h) (hT f z f' z')
theorem dEnd (ρ : Env) (c : Nat → IT) (f : Nat → Int) (h : ∀ j, j < 15 → (c j).den ρ = some (f j)) : (tEnd c).den ρ = some (bEnd f) := by simp only [tEnd, BT.den, h 8 (by decide), IT.den, intCmp, bEnd]
theorem dRef (ρ : Env) (c : Nat → IT) (f : Nat → Int) (h : ∀ j, j < 15 → (c j).den ρ = some (f j)) : (tRef c).den ρ = some (bRef f) := by simp only [tRef, BT.den, dEnd ρ c f h, h 11 (by decide), h 9 (by decide), IT.den, intCmp, bRef, Option.map_some]
theorem dAhd (ρ : Env) (c d : Nat → IT) (f f' : Nat → Int) (h : ∀ j, j < 15 → (c j).den ρ = some (f j)) (h' : ∀ j, j < 15 → (d j).den ρ = some (f' j)) : (tAhd c d).den ρ = some (bAhd f f') := by simp only [tAhd, BT.den, dEnd ρ c f h, h 8 (by decide), h' 7 (by decide), intCmp, bAhd]
theorem sp19_ok : SpecOk Tryd.prog 19 (rec1 tEnd) := rec1_ok (c1_ok Tryd.func19 run19 fun _ _ => rfl) dEnd
theorem sp20_ok : SpecOk Tryd.prog 20 (rec1 tEnd) := rec1_ok (c1_ok Tryd.func20 run20 fun _ _ => rfl) dEnd
theorem sp21_ok : SpecOk Tryd.prog 21 (rec1 tRef) := rec1_ok (c1_ok Tryd.func21 run21 fun _ _ => rfl) dRef
theorem sp22_ok : SpecOk Tryd.prog 22 (rec1 tRef) := rec1_ok (c1_ok Tryd.func22 run22 fun _ _ => rfl) dRef
theorem sp23_ok : SpecOk Tryd.prog 23 (rec2 tAhd) := rec2_ok (c2_ok Tryd.func23 run23 fun _ _ _ _ => rfl) dAhd
theorem sp24_ok : SpecOk Tryd.prog 24 (rec2 tAhd) := rec2_ok (c2_ok Tryd.func24 run24 fun _ _ _ _ => rfl) dAhd

-- THE ROW, AND THE TEXT OF ITS RECORDS
def sl : AVal := .slice 0 (.var 12) (.var 10) (.var 11)
def H0 : List (Nat × HB) := [(0, ⟨.arr (.var 0) ksR 32 (.var 10) (.var 12) none, false⟩)]
def nI : AVal := .int .i64 (.var 10)
def iI (k : Nat) : AVal := .int .i64 (.var k)
def inCs (k : Nat) : Cs := [(.cmp .geq (.var k) (.lit 0), true), (.cmp .leq (.var k) (.var 10), true)]
/-- What the names stand for. -/
def GH (v : Value) (n : Nat) (kind : Int) : GP := fun I _ S V _ => V 0 = v ∧ I 10 = n ∧ I 21 = kind ∧ I 22 = encL (invs v n) ∧ I 23 = ((invs v n).length : Int) ∧ I 24 = longR v kind n ∧ S 1 = ⟨(joinT v n).toArray⟩ ∧ ∀ i, S (codN 5 i 0) = ⟨(rtext v i.toNat).toArray⟩
def βH (w : World) (v : Value) (n : Nat) (kind : Int) : Base := ⟨w, [], GH v n kind⟩
def spRec : SpG := fun args H nl cs => match args with
  | [.agg (.int .i64 (.sel 0 16 0 i) :: r)] => match i.toP with
    | some p => cond (AVal.beqL (.int .i64 (.sel 0 16 0 i) :: r) (selCells 0 16 i ksR 0)) (some [.ret (.str (.fn 5 p (.lit 0))) H nl cs]) none
    | none => none
  | _ => none
theorem recCells_den {ρ : Env} {v : Value} {i : IT} {x : Int} (hv : ρ.V 0 = v) (hi : i.den ρ = some x) : AVal.denL ρ [.agg (selCells 0 16 i ksR 0)] = some [recV (recAt v x.toNat) (selI v (x.toNat * 16 + 15))] := by
  simp only [selCells, cellsF, ksR, AVal.denL, AVal.den, IT.den, hi, hv, Option.map_some]
  rfl
theorem text_den {ρ : Env} {v : Value} (hv : RecIn v) (hS : ∀ i, ρ.S (codN 5 i 0) = ⟨(rtext v i.toNat).toArray⟩) (p : PT) : (ST.fn 5 p (.lit 0)).den ρ = ⟨(rtext v (p.den ρ).toNat).toArray⟩ :=
  fn_denF rfl rfl (hS _) (by have := (rtext_len hv (p.den ρ).toNat).2; omega)
theorem spRec_ok {w0 : World} {v : Value} {n : Nat} {kind : Int} {g : FuncId} (hv : RecIn v) (h : ∀ w H nl ρ, HRel (βH w0 v n kind) ρ H nl w → ∀ (f : Nat → Int) z, (∀ i, i < 15 → InI (f i)) → Calls Tryd.prog g #[recV f z] w (fun e w' => e = .returned (.string ⟨(recText f).toArray⟩) ∧ Framed w w')) : SpGOk Tryd.prog (βH w0 v n kind) g spRec := by
  intro args H nl cs ls ρ w xs hr hx hh hc
  obtain ⟨gv, _, _, _, _, _, _, gS⟩ : GH v n kind ρ.I ρ.B ρ.S ρ.V ρ.F := hh.g
  unfold spRec at hr
  split at hr
  rotate_left
  · cases hr
  rename_i i r
  split at hr
  rotate_left
  · cases hr
  rename_i p hp
  cases hb : AVal.beqL (.int .i64 (.sel 0 16 0 i) :: r) (selCells 0 16 i ksR 0) with
  | false => rw [hb] at hr; cases hr
  | true =>
    rw [hb] at hr; cases hr
    have hi := IT.toP_den (ρ := ρ) hp
    rw [AVal.beqL_eq _ _ hb, recCells_den gv hi] at hx
    cases hx
    exact spV_ok (h w H nl ρ hh _ _ fun j hj => hv _ j hj) (by simp only [AVal.den, text_den hv gS p]; rfl) hh hc
end Ht
end Go.Proofs.YtagdcclpibjfoaaDoor
