/-
  Texts (14): OpsBack's walk.
-/
import Derived.Test.YtagdcclpibjfoaaDoorTx13
namespace Go.Proofs.YtagdcclpibjfoaaDoor
open Go.Vm
namespace Txt

def spPars : SpG := fun args H nl cs => match args with
  | [.str (.fn 3 (.fn 9 (.var c) (.var k)) (.fn 9 (.var a) (.var b)))] => match lookB cs (tRight (.var c) (.var k) (.var a) (.var b)) with
    | some true => some [.ret (.tuple [.agg [.int .i64 (.var c), .int .i64 (.var k), .int .i64 (.var a), .int .i64 (.var b)], .bool (.lit true)]) H nl cs]
    | _ => none
  | _ => none
def spParR : SpG := fun args H nl cs => match args with
  | [.str (.fn 4 (.var k) (.var v))] => match lookB cs (tResp (.var k) (.var v)) with
    | some true => some [.ret (.tuple [.agg [.int .i64 (.var k), .int .i64 (.var v)], .bool (.lit true)]) H nl cs]
    | _ => none
  | _ => none
theorem spPars_ok {β : Base} (hG : ∀ I B S V F, β.G I B S V F → GT I B S V F) (hown : β.own = []) (hT : TabW β.w0) (hM : MaxW β.w0) : SpGOk Tryd.prog β 54 spPars := by
  intro args H nl cs ls ρ w xs hr hx hh hc
  unfold spPars at hr
  split at hr
  rotate_left
  · cases hr
  rename_i c k a b
  split at hr
  rotate_left
  · cases hr
  rename_i hl
  simp only [Option.some.injEq] at hr
  subst hr
  have hd := lookB_ok hl hc
  rw [tRight_den (c := .var c) (k := .var k) (a := .var a) (b := .var b) rfl rfl rfl rfl] at hd
  obtain ⟨⟨hS, hR⟩, hF⟩ := hG _ _ _ _ _ hh.g
  have e : (ST.fn 3 (.fn 9 (.var c) (.var k)) (.fn 9 (.var a) (.var b))).den ρ = _ := op_den hS hF (.var c) (.var k) (.var a) (.var b)
  simp only [AVal.denL, AVal.den, e, Option.some.injEq] at hx
  subst hx
  refine spV_ok (parse54 w (TabW.of hT hown hh) (MaxW.of hM hown hh) (Option.some.inj hd)) ?_ hh hc
  simp only [AVal.den, AVal.denL, IT.den, BT.den, Option.map_some]; rfl
theorem spParR_ok {β : Base} (hG : ∀ I B S V F, β.G I B S V F → GT I B S V F) (hown : β.own = []) (hT : TabW β.w0) (hM : MaxW β.w0) : SpGOk Tryd.prog β 56 spParR := by
  intro args H nl cs ls ρ w xs hr hx hh hc
  unfold spParR at hr
  split at hr
  rotate_left
  · cases hr
  rename_i k v
  split at hr
  rotate_left
  · cases hr
  rename_i hl
  simp only [Option.some.injEq] at hr
  subst hr
  have hd := lookB_ok hl hc
  rw [tResp_den (k := .var k) (v := .var v) rfl rfl] at hd
  obtain ⟨⟨hS, hR⟩, hF⟩ := hG _ _ _ _ _ hh.g
  have e : (ST.fn 4 (.var k) (.var v)).den ρ = _ := resp_den hS (.var k) (.var v)
  simp only [AVal.denL, AVal.den, e, Option.some.injEq] at hx
  subst hx
  refine spV_ok (parse56 w (TabW.of hT hown hh) (MaxW.of hM hown hh) (Option.some.inj hd)) ?_ hh hc
  simp only [AVal.den, AVal.denL, IT.den, BT.den, Option.map_some]; rfl
def spOB : CallF := spL [(42, spA spFirst05), (45, spA spRight), (46, spA spResp), (58, spOpT), (60, spRespT), (54, spPars), (56, spParR)]
theorem spOB_ok (w : World) (hT : TabW w) (hM : MaxW w) : CallOk Tryd.prog ⟨w, [], GT⟩ spOB := by
  refine spL_ok fun p hp => ?_
  simp only [List.mem_cons, List.not_mem_nil, or_false] at hp
  rcases hp with rfl | rfl | rfl | rfl | rfl | rfl | rfl
  · exact spA_ok spFirst05_ok
  · exact spA_ok (specs05_ok (45, spRight) (by simp [specs05]))
  · exact spA_ok (specs05_ok (46, spResp) (by simp [specs05]))
  · exact spOpT_ok (fun _ _ _ _ _ h => h) fun hh c k a b hc hk ha hb => text58 _ (TabW.of hT rfl hh) hc hk ha hb
  · exact spRespT_ok (fun _ _ _ _ _ h => h) fun hh k v hk hv => text60 _ (TabW.of hT rfl hh) hk hv
  · exact spPars_ok (fun _ _ _ _ _ h => h) rfl hT hM
  · exact spParR_ok (fun _ _ _ _ _ h => h) rfl hT hM

-- THE FACTS
def eqI (a b : IT) : BT := .cmp .eql a b
def eq4 (a b c d x y z u : IT) : BT := .and (eqI a x) (.and (eqI b y) (.and (eqI c z) (eqI d u)))
def opS (i : Nat) : ST := .fn 3 (prP (.var i) (.var (i + 1))) (prP (.var (i + 2)) (.var (i + 3)))
def self4 : BT := eq4 (.var 0) (.var 1) (.var 2) (.var 3) (.var 0) (.var 1) (.var 2) (.var 3)
def csA : Cs := [(wide (opN 0), false), (tRight (oC (opN 0)) (oK (opN 0)) (oA (opN 0)) (oB (opN 0)), true),
  (eq4 (oC (opN 0)) (oK (opN 0)) (oA (opN 0)) (oB (opN 0)) (.var 0) (.var 1) (.var 2) (.var 3), true), (self4, true)]
def nEq : BT := eqI (opN 0) (opN 4)
def oEq : BT := eq4 (.var 0) (.var 1) (.var 2) (.var 3) (.var 4) (.var 5) (.var 6) (.var 7)
def sEq : BT := .seq (opS 0) (opS 4)
def csB (e : Bool) : Cs := [(nEq, e), (oEq, e), (sEq, e)]
def csC : Cs := [(wide (respN 8), false), (tResp (oC (respN 8)) (oV (respN 8)), true), (.and (eqI (oC (respN 8)) (.var 8)) (eqI (oV (respN 8)) (.var 9)), true), (.and (eqI (.var 8) (.var 8)) (eqI (.var 9) (.var 9)), true)]
def csD : Cs := [(.seq (.fn 4 (.var 8) (.var 9)) (.lit []), true)]
def csOB (x y z e : Bool) : Cs := (tRight (.var 0) (.var 1) (.var 2) (.var 3), x) :: (tRight (.var 4) (.var 5) (.var 6) (.var 7), y) :: (tResp (.var 8) (.var 9), z) ::
  (cond x csA [] ++ (cond (x && y) (csB e) [] ++ cond z csC csD))
noncomputable def body12 : Code := Tryd.f12.body.getD .ret
def argsOB : List AVal := [.agg [iv 0, iv 1, iv 2, iv 3], .agg [iv 4, iv 5, iv 6, iv 7], .agg [iv 8, iv 9]]
noncomputable def run12 (x y z e : Bool) : Option Bool := (run Tryd.prog exts05 spOB 8000 false 12 (entry Tryd.f12 body12 argsOB .leaf 0 (csOB x y z e))).map (·.all (retIs (.bool (.lit true))))
theorem run12_0 : run12 false false false false = some true := by kernel_rfl
theorem run12_1 : run12 false false false true = some true := by kernel_rfl
theorem run12_2 : run12 false false true false = some true := by kernel_rfl
theorem run12_3 : run12 false false true true = some true := by kernel_rfl
theorem run12_4 : run12 false true false false = some true := by kernel_rfl
theorem run12_5 : run12 false true false true = some true := by kernel_rfl
theorem run12_6 : run12 false true true false = some true := by kernel_rfl
theorem run12_7 : run12 false true true true = some true := by kernel_rfl
theorem run12_8 : run12 true false false false = some true := by kernel_rfl
theorem run12_9 : run12 true false false true = some true := by kernel_rfl
theorem run12_10 : run12 true false true false = some true := by kernel_rfl
theorem run12_11 : run12 true false true true = some true := by kernel_rfl
theorem run12_12 : run12 true true false false = some true := by kernel_rfl
theorem run12_13 : run12 true true false true = some true := by kernel_rfl
theorem run12_14 : run12 true true true false = some true := by kernel_rfl
theorem run12_15 : run12 true true true true = some true := by kernel_rfl
theorem run12_all (x y z e : Bool) : run12 x y z e = some true := by
  cases x <;> cases y <;> cases z <;> cases e
  · exact run12_0
  · exact run12_1
  · exact run12_2
  · exact run12_3
  · exact run12_4
  · exact run12_5
  · exact run12_6
  · exact run12_7
  · exact run12_8
  · exact run12_9
  · exact run12_10
  · exact run12_11
  · exact run12_12
  · exact run12_13
  · exact run12_14
  · exact run12_15
noncomputable def envOB (l : List Int) : Env := ⟨fun i => l.getD i 0, fun _ => false, Sx, fun _ => undef, fun _ => none, fun _ x y => prI x y⟩
theorem bytesL_eq (l : List UInt8) : (⟨l.toArray⟩ : ByteArray).toList = l := by
  rw [ByteArray.toList_eq]
theorem eqI_den {ρ : Env} {a b : IT} {x y : Int} (ha : a.den ρ = some x) (hb : b.den ρ = some y) : (eqI a b).den ρ = some (x == y) := by
  simp only [eqI, BT.den, ha, hb, intCmp]
theorem eq4_den {ρ : Env} {a b c d x y z u : IT} {a' b' c' d' x' y' z' u' : Int} (ha : a.den ρ = some a') (hb : b.den ρ = some b') (hc : c.den ρ = some c') (hd : d.den ρ = some d') (hx : x.den ρ = some x') (hy : y.den ρ = some y') (hz : z.den ρ = some z') (hu : u.den ρ = some u') :
    (eq4 a b c d x y z u).den ρ = some (a' == x' && (b' == y' && (c' == z' && d' == u'))) := by
  simp only [eq4, BT.den, eqI_den ha hx, eqI_den hb hy, eqI_den hc hz, eqI_den hd hu]
theorem getD_all {p : Int → Prop} (h0 : p 0) : ∀ (l : List Int) (j : Nat), (∀ x ∈ l, p x) → p (l.getD j 0)
  | [], _, _ => by simpa [List.getD] using h0
  | x :: l, 0, h => by simpa [List.getD] using h x List.mem_cons_self
  | x :: l, j + 1, h => by
    have := getD_all h0 l j fun y hy => h y (List.mem_cons_of_mem _ hy)
    simpa [List.getD] using this
theorem back_walk (w : World) (hT : TabW w) (hM : MaxW w) {c k a b d l m n i v : Int} (hI : ∀ x ∈ [c, k, a, b, d, l, m, n, i, v], -9223372036854775808 ≤ x ∧ x < 9223372036854775808) :
    Calls Tryd.prog 12 #[.agg #[.int .i64 c, .int .i64 k, .int .i64 a, .int .i64 b], .agg #[.int .i64 d, .int .i64 l, .int .i64 m, .int .i64 n], .agg #[.int .i64 i, .int .i64 v]] w (fun e w' => e = .returned (.bool true) ∧ Framed w w') := by
  generalize hx : rightB c k a b = x
  generalize hy : rightB d l m n = y
  generalize hz : respB i v = z
  generalize he : (c == d && (k == l && (a == m && b == n))) = e
  generalize hρ : envOB [c, k, a, b, d, l, m, n, i, v] = ρ
  have hS : ρ.S = Sx := by rw [← hρ]; rfl
  have hF : ∀ x y, ρ.F 9 x y = prI x y := fun x y => by rw [← hρ]; rfl
  have i0 : ρ.I 0 = c := by rw [← hρ]; rfl
  have i1 : ρ.I 1 = k := by rw [← hρ]; rfl
  have i2 : ρ.I 2 = a := by rw [← hρ]; rfl
  have i3 : ρ.I 3 = b := by rw [← hρ]; rfl
  have i4 : ρ.I 4 = d := by rw [← hρ]; rfl
  have i5 : ρ.I 5 = l := by rw [← hρ]; rfl
  have i6 : ρ.I 6 = m := by rw [← hρ]; rfl
  have i7 : ρ.I 7 = n := by rw [← hρ]; rfl
  have i8 : ρ.I 8 = i := by rw [← hρ]; rfl
  have i9 : ρ.I 9 = v := by rw [← hρ]; rfl
  have vd {j : Nat} {x : Int} (h : ρ.I j = x) : (IT.var j).den ρ = some x := by simp only [IT.den, h]
  have hG : GT ρ.I ρ.B ρ.S ρ.V ρ.F := by
    rw [← hρ]
    refine ⟨⟨rfl, fun j _ => ?_, fun n _ => ?_, fun x n _ => ?_⟩, fun _ _ => rfl⟩
    · show -9223372036854775808 ≤ [c, k, a, b, d, l, m, n, i, v].getD j 0 ∧ [c, k, a, b, d, l, m, n, i, v].getD j 0 < 9223372036854775808
      exact getD_all (p := fun x => -9223372036854775808 ≤ x ∧ x < 9223372036854775808) ⟨by decide, by decide⟩ _ j hI
    · exact ⟨by simp [envOB, selI, undef], by simp [envOB, selI, undef]⟩
    · exact ⟨by simp [envOB, selI, undef], by simp [envOB, selI, undef]⟩
  have num {i : Nat} {c k a b : Int} (hr : rightB c k a b = true) (h0 : ρ.I i = c) (h1 : ρ.I (i + 1) = k) (h2 : ρ.I (i + 2) = a) (h3 : ρ.I (i + 3) = b) : (opN i).den ρ = some ((packNat c.toNat k.toNat a.toNat b.toNat : Nat) : Int) := by
    simp only [rightB, decide_eq_true_eq] at hr
    exact opN_den (by omega) (by omega) (by omega) (by omega) (by omega) (by omega) (by omega) (by omega)
  refine calls_ret (β := ⟨w, [], GT⟩) (ρ := ρ) exts05_ok (spOB_ok w hT hM) rfl Tryd.func12 rfl (run12_all x y z e) (xs := [.agg #[.int .i64 c, .int .i64 k, .int .i64 a, .int .i64 b], .agg #[.int .i64 d, .int .i64 l, .int .i64 m, .int .i64 n], .agg #[.int .i64 i, .int .i64 v]])
    (by simp only [argsOB, iv, AVal.denL, AVal.den, vd i0, vd i1, vd i2, vd i3, vd i4, vd i5, vd i6, vd i7, vd i8, vd i9, Option.map_some]) (HRel.startG w _ (fun _ => by rw [← hρ]; rfl) hG) ?_ (fun _ _ => rfl)
  refine CRel_cons.2 ⟨(tRight_den (vd i0) (vd i1) (vd i2) (vd i3)).trans (congrArg some hx), CRel_cons.2 ⟨(tRight_den (vd i4) (vd i5) (vd i6) (vd i7)).trans (congrArg some hy), CRel_cons.2 ⟨(tResp_den (vd i8) (vd i9)).trans (congrArg some hz), ?_⟩⟩⟩
  intro p hp
  rcases List.mem_append.1 hp with hp | hp
  · cases x with
    | false => cases hp
    | true =>
      have hn := num hx i0 i1 i2 i3
      have hb := hx
      simp only [rightB, decide_eq_true_eq] at hb
      obtain ⟨c, rfl⟩ := Int.eq_ofNat_of_zero_le hb.1
      obtain ⟨k, rfl⟩ := Int.eq_ofNat_of_zero_le hb.2.2.1
      obtain ⟨a, rfl⟩ := Int.eq_ofNat_of_zero_le hb.2.2.2.2.1
      obtain ⟨b, rfl⟩ := Int.eq_ofNat_of_zero_le hb.2.2.2.2.2.2.1
      simp only [Int.toNat_natCast] at hn
      have hm : packNat c k a b < 4294967296 := by unfold packNat; omega
      obtain ⟨p1, p2, p3, p4, p5, _⟩ := parts_of hn hm
      rw [show packNat c k a b / 2 ^ 28 = c by unfold packNat; omega] at p2
      rw [show packNat c k a b / 2 ^ 20 % 2 ^ 8 = k by unfold packNat; omega] at p3
      rw [show packNat c k a b / 2 ^ 10 % 2 ^ 10 = a by unfold packNat; omega] at p4
      rw [show packNat c k a b % 2 ^ 10 = b by unfold packNat; omega] at p5
      simp only [cond_true, csA, List.mem_cons, List.not_mem_nil, or_false] at hp
      rcases hp with rfl | rfl | rfl | rfl
      · exact p1
      · exact (tRight_den p2 p3 p4 p5).trans (congrArg some hx)
      · refine (eq4_den p2 p3 p4 p5 (vd i0) (vd i1) (vd i2) (vd i3)).trans ?_
        simp
      · refine (eq4_den (vd i0) (vd i1) (vd i2) (vd i3) (vd i0) (vd i1) (vd i2) (vd i3)).trans ?_
        simp
  rcases List.mem_append.1 hp with hp | hp
  · cases x with
    | false => cases hp
    | true =>
    cases y with
    | false => cases hp
    | true =>
      have hn := num hx i0 i1 i2 i3
      have hq := num hy i4 i5 i6 i7
      have oo : oEq.den ρ = some e := (eq4_den (vd i0) (vd i1) (vd i2) (vd i3) (vd i4) (vd i5) (vd i6) (vd i7)).trans (congrArg some he)
      have t1 : (opS 0).den ρ = _ := op_den hS hF (.var 0) (.var 1) (.var 2) (.var 3)
      have t2 : (opS 4).den ρ = _ := op_den hS hF (.var 4) (.var 5) (.var 6) (.var 7)
      simp only [PT.den, i0, i1, i2, i3, i4, i5, i6, i7] at t1 t2
      simp only [Bool.and_true, cond_true, csB, List.mem_cons, List.not_mem_nil, or_false] at hp
      rcases hp with rfl | rfl | rfl
      · refine (eqI_den hn hq).trans (congrArg some ?_)
        rw [← he, Bool.eq_iff_iff]
        simp only [rightB, decide_eq_true_eq] at hx hy
        simp only [beq_iff_eq, Bool.and_eq_true, packNat]
        omega
      · exact oo
      · show some (((opS 0).den ρ).toList == ((opS 4).den ρ).toList) = some e
        rw [t1, t2, bytesL_eq, bytesL_eq, ← he]
        refine congrArg some ?_
        rw [Bool.eq_iff_iff]
        simp only [beq_iff_eq, Bool.and_eq_true]
        refine ⟨fun h => ?_, fun ⟨h1, h2, h3, h4⟩ => by rw [h1, h2, h3, h4]⟩
        exact opText_inj hx hy h
  · cases z with
    | false =>
      simp only [cond_false, csD, List.mem_cons, List.not_mem_nil, or_false] at hp
      subst hp
      have t : (ST.fn 4 (.var 8) (.var 9)).den ρ = _ := resp_den hS (.var 8) (.var 9)
      simp only [PT.den, i8, i9, respTextR, hz] at t
      show some (((ST.fn 4 (.var 8) (.var 9)).den ρ).toList == ((ST.lit []).den ρ).toList) = some true
      rw [t]
      simp only [Bool.false_eq_true, if_false, bytesL_eq]
      show some (([] : List UInt8) == ((⟨([] : List UInt8).toArray⟩ : ByteArray).toList)) = some true
      rw [bytesL_eq]
      rfl
    | true =>
      have hb := hz
      simp only [respB, decide_eq_true_eq] at hb
      obtain ⟨k, rfl⟩ := Int.eq_ofNat_of_zero_le hb.1
      obtain ⟨v, rfl⟩ := Int.eq_ofNat_of_zero_le hb.2.2.1
      have hn := respN_den (ρ := ρ) (i := 8) i8 i9 (by omega) (by omega)
      obtain ⟨p1, p2, _, _, _, p6⟩ := parts_of hn (by omega)
      rw [show (k * 2 ^ 28 + v) / 2 ^ 28 = k by omega] at p2
      rw [show (k * 2 ^ 28 + v) % 2 ^ 28 = v by omega] at p6
      simp only [cond_true, csC, List.mem_cons, List.not_mem_nil, or_false] at hp
      rcases hp with rfl | rfl | rfl | rfl
      · exact p1
      · exact (tResp_den p2 p6).trans (congrArg some hz)
      · simp only [BT.den, eqI_den p2 (vd i8), eqI_den p6 (vd i9)]; simp
      · simp only [BT.den, eqI_den (vd i8) (vd i8), eqI_den (vd i9) (vd i9)]; simp
end Txt
end Go.Proofs.YtagdcclpibjfoaaDoor
