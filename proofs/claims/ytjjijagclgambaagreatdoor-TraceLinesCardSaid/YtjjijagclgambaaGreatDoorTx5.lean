/-
  Texts (4): the texts of operations.
-/
import Derived.Test.YtjjijagclgambaaGreatDoorTx3
import Derived.Test.YtjjijagclgambaaGreatDoorOu4
section
namespace Go.Proofs.YtjjijagclgambaaGreatDoor
open Go.Vm
namespace Txt

/-- A text stands for these bytes. -/
def TB (ρ : Env) (s : ST) (l : List UInt8) : Prop := s.den ρ = ⟨l.toArray⟩
theorem tb_lit (ρ : Env) (l : List UInt8) : TB ρ (.lit l) l := rfl
theorem tb_cat {ρ : Env} {s t : ST} {l m : List UInt8} (h : TB ρ s l) (g : TB ρ t m) : TB ρ (.cat s t) (l ++ m) := by
  unfold TB at *
  show s.den ρ ++ t.den ρ = _
  rw [h, g]
  apply ByteArray.ext
  simp
theorem tRight_den {ρ : Env} {c k a b : IT} {x y z u : Int} (hc : c.den ρ = some x) (hk : k.den ρ = some y) (ha : a.den ρ = some z) (hb : b.den ρ = some u) : (tRight c k a b).den ρ = some (rightB x y z u) := by
  simp only [tRight, orT, eqT, inT, BT.den, IT.den, hc, hk, ha, hb, intCmp, Option.map_some, Option.some.injEq]
  rw [Bool.eq_iff_iff]
  simp [rightB]
  omega
/-- Digits, of whatever ints (2). -/
def spDigR : SpG := fun args H nl cs => match args with
  | [.int .i64 t] => match t.toP with
    | some p => cond (rangeT t) (some [.ret (.str (.fn 2 p (.lit 0))) H nl cs]) none
    | none => none
  | _ => none
theorem spDigR_ok {β : Base} (hG : ∀ I B S V F, β.G I B S V F → SxOk S ∧ RangeG I B S V F) : SpGOk Tryz.prog β 54 spDigR := by
  intro args H nl cs ls ρ w xs hr hx hh hc
  unfold spDigR at hr
  split at hr
  rotate_left
  · cases hr
  rename_i t
  split at hr
  rotate_left
  · cases hr
  rename_i p hp
  cases hb : rangeT t with
  | false => rw [hb] at hr; cases hr
  | true =>
    rw [hb] at hr
    simp only [cond_true, Option.some.injEq] at hr
    subst hr
    have hd := IT.toP_den (ρ := ρ) hp
    simp only [AVal.denL, AVal.den, hd, Option.map_some, Option.some.injEq] at hx
    subst hx
    obtain ⟨hS, hR⟩ := hG _ _ _ _ _ hh.g
    obtain ⟨h1, h2⟩ := rangeT_ok hb hR hd
    have hS : SxOk ρ.S := hS
    have hf := fn_den hS (k := 2) (p := p) (q := .lit 0) rfl rfl (by show (digD (p.den ρ) []).length ≤ _; have := dig_len h2; omega)
    exact spV_ok (digits54 w _ h2) (by simp only [AVal.den, hf]; rfl) hh hc
def retIs (u : AVal) : Leaf → Bool
  | .ret v _ _ _ => AVal.beq v u
  | .stop cs => dead cs
  | .pause _ => false
theorem calls_ret {β : Base} {E : Exts} (hE : ExtOk Tryz.prog E) {sp : CallF} (hsp : CallOk Tryz.prog β sp) (hown : β.own = []) {n : Nat} {f : FuncId} {fn : Func} {c : Code} {args : List AVal} {xs : List Value} {H : Heap} {nl : Nat} {cs : Cs} {ρ : Env} {w : World} {u : AVal} {v : Value}
    (hf : Tryz.prog.funcs[f]? = some fn) (hb : fn.body = some c) (hrun : (run Tryz.prog E sp n false f (entry fn c args H nl cs)).map (·.all (retIs u)) = some true) (hx : AVal.denL ρ args = some xs) (hr : HRel β ρ H nl w) (hcs : CRel ρ cs) (hu : ∀ ρ', ρ.Le ρ' → u.den ρ' = some v) :
    Calls Tryz.prog f xs.toArray w (fun e w' => e = .returned v ∧ Framed β.w0 w') := by
  obtain ⟨ls, hls, hall⟩ := Option.map_eq_some_iff.1 hrun
  refine (run_calls noCount hE hsp follows hf hb hls hx hr hcs (R := fun x w' => x = v ∧ Framed β.w0 w') (fun l hl => ?_)).mono fun e w' ⟨x, he, hv, hfr⟩ => ⟨by rw [he, hv], hfr⟩
  have h1 := List.all_eq_true.1 hall l hl
  cases l with
  | stop cs' => exact dead_ok h1
  | pause S => cases h1
  | ret v' H nl cs' =>
    intro ρ' w' x hle hxd hr' hc'
    have := AVal.beq_eq _ _ h1
    subst this
    rw [hu ρ' hle] at hxd
    exact ⟨(Option.some.inj hxd).symm, ⟨hr'.size, fun b hb => hr'.frame b hb (fun l hl => by rw [hown] at hl; cases hl), hr'.tape, hr'.os, hr'.out⟩⟩
def opL (j : Nat) : AVal := .agg [.int .i64 (.lit (.ofNat j)), iv 1, iv 2, iv 3]
def opV4 (c k a b : Int) : Value := .agg #[.int .i64 c, .int .i64 k, .int .i64 a, .int .i64 b]
def csJ (j : Nat) : Cs := [(tRight (.lit (.ofNat j)) (.var 1) (.var 2) (.var 3), true)]
def GSR : GP := fun I B S V F => SxOk S ∧ RangeG I B S V F
noncomputable def env4 (c k a b : Int) : Env := ⟨fun i => [c, k, a, b].getD i 0, fun _ => false, Sx, fun _ => undef, fun _ => none, F0⟩
theorem env4_G {c k a b : Int} (hc : -9223372036854775808 ≤ c ∧ c < 9223372036854775808) (hk : -9223372036854775808 ≤ k ∧ k < 9223372036854775808) (ha : -9223372036854775808 ≤ a ∧ a < 9223372036854775808) (hb : -9223372036854775808 ≤ b ∧ b < 9223372036854775808) : GSR.at (env4 c k a b) := by
  refine ⟨SxOk.of rfl, fun i _ _ => ?_, fun n _ => ?_, fun x n _ => ?_⟩
  · show -9223372036854775808 ≤ [c, k, a, b].getD i 0 ∧ [c, k, a, b].getD i 0 < 9223372036854775808
    match i with
    | 0 => exact hc
    | 1 => exact hk
    | 2 => exact ha
    | 3 => exact hb
    | i + 4 => simp
  · show -9223372036854775808 ≤ selI undef n ∧ selI undef n < 9223372036854775808
    simp [selI, undef]
  · show -9223372036854775808 ≤ selI undef n ∧ selI undef n < 9223372036854775808
    simp [selI, undef]
theorem right_den : spRight [.agg [iv 0, iv 1, iv 2, iv 3]] = some [(.bool (tRight (.var 0) (.var 1) (.var 2) (.var 3)), [])] := rfl
def sp16 : CallF := spL [(48, spA spRight), (14, spItoa)]
def Run16 (args : List AVal) (cs : Cs) (s : ST) : Prop := (run Tryz.prog [] sp16 8000 false 16 (entry Tryz.f16 (Tryz.f16.body.getD .ret) args .leaf 0 cs)).map (·.all (retIs (.str s))) = some true
theorem o0 : Run16 [opL 0] (csJ 0) (.lit [110, 111, 110, 101]) := by unfold Run16; kernel_rfl
theorem o1 : Run16 [opL 1] (csJ 1) (.cat (.lit [101, 110, 113, 117, 101, 117, 101]) (.cat (.lit [32]) (.fn 1 (.var 2) (.lit 0)))) := by unfold Run16; kernel_rfl
theorem o2 : Run16 [opL 2] (csJ 2) (.lit [100, 101, 113, 117, 101, 117, 101]) := by unfold Run16; kernel_rfl
theorem o3 : Run16 [opL 3] (csJ 3) (.lit [108, 101, 110, 103, 116, 104]) := by unfold Run16; kernel_rfl
theorem o4 : Run16 [opL 4] (csJ 4) (.cat (.lit [103, 101, 116]) (.cat (.lit [32]) (.fn 1 (.var 1) (.lit 0)))) := by unfold Run16; kernel_rfl
theorem o5 : Run16 [opL 5] (csJ 5) (.cat (.cat (.lit [112, 117, 116]) (.cat (.lit [32]) (.fn 1 (.var 1) (.lit 0)))) (.cat (.lit [32]) (.fn 1 (.var 2) (.lit 0)))) := by unfold Run16; kernel_rfl
theorem o6 : Run16 [opL 6] (csJ 6) (.cat (.lit [100, 101, 108, 101, 116, 101]) (.cat (.lit [32]) (.fn 1 (.var 1) (.lit 0)))) := by unfold Run16; kernel_rfl
theorem o7 : Run16 [opL 7] (csJ 7) (.cat (.cat (.cat (.lit [115, 119, 97, 112]) (.cat (.lit [32]) (.fn 1 (.var 1) (.lit 0)))) (.cat (.lit [32]) (.fn 1 (.var 2) (.lit 0)))) (.cat (.lit [32]) (.fn 1 (.var 3) (.lit 0)))) := by unfold Run16; kernel_rfl
theorem o8 : Run16 [opL 8] (csJ 8) (.lit [115, 105, 122, 101]) := by unfold Run16; kernel_rfl
theorem o9 : Run16 [opL 9] (csJ 9) (.cat (.lit [102, 108, 111, 111, 114]) (.cat (.lit [32]) (.fn 1 (.var 1) (.lit 0)))) := by unfold Run16; kernel_rfl
theorem o10 : Run16 [opL 10] (csJ 10) (.cat (.cat (.lit [115, 101, 116]) (.cat (.lit [32]) (.fn 1 (.var 1) (.lit 0)))) (.cat (.lit [32]) (.fn 1 (.var 2) (.lit 0)))) := by unfold Run16; kernel_rfl
theorem o11 : Run16 [opL 11] (csJ 11) (.cat (.lit [97, 99, 113, 117, 105, 114, 101]) (.cat (.lit [32]) (.fn 1 (.var 1) (.lit 0)))) := by unfold Run16; kernel_rfl
theorem o12 : Run16 [opL 12] (csJ 12) (.cat (.lit [114, 101, 108, 101, 97, 115, 101]) (.cat (.lit [32]) (.fn 1 (.var 1) (.lit 0)))) := by unfold Run16; kernel_rfl
theorem o13 : Run16 [opL 13] (csJ 13) (.cat (.lit [118, 97, 108, 117, 101]) (.cat (.lit [32]) (.fn 1 (.var 1) (.lit 0)))) := by unfold Run16; kernel_rfl
theorem o14 : Run16 [opL 14] (csJ 14) (.cat (.lit [100, 114, 111, 112]) (.cat (.lit [32]) (.fn 1 (.var 1) (.lit 0)))) := by unfold Run16; kernel_rfl
theorem oN : Run16 [.agg [iv 0, iv 1, iv 2, iv 3]] [(tRight (.var 0) (.var 1) (.var 2) (.var 3), false)] (.lit []) := by unfold Run16; kernel_rfl
theorem sp16_ok (w : World) (hw : TabW w) : CallOk Tryz.prog ⟨w, [], GSR⟩ sp16 := by
  refine spL_ok fun p hp => ?_
  simp only [List.mem_cons, List.not_mem_nil, or_false] at hp
  rcases hp with rfl | rfl
  · exact spA_ok (specs05_ok (48, spRight) (by simp [specs05]))
  · exact spText_ok (fun _ _ _ _ _ h => h) fun hh n h1 h2 => itoa14 (TabW.of hw rfl hh) n h1 h2
theorem leaf16 (w : World) (hw : TabW w) {c k a b : Int} (hk : -9223372036854775808 ≤ k ∧ k < 9223372036854775808) (ha : -9223372036854775808 ≤ a ∧ a < 9223372036854775808) (hb : -9223372036854775808 ≤ b ∧ b < 9223372036854775808) {j : Nat} (hj : c = j) (hr : rightB c k a b = true) {s : ST} {l : List UInt8} (hrun : Run16 [opL j] (csJ j) s)
    (hs : ∀ ρ : Env, SxOk ρ.S → ρ.I 1 = k → ρ.I 2 = a → ρ.I 3 = b → TB ρ s l) : Calls Tryz.prog 16 #[opV4 c k a b] w (fun e w' => e = .returned (.string ⟨l.toArray⟩) ∧ Framed w w') := by
  subst hj
  refine calls_ret (β := ⟨w, [], GSR⟩) (ρ := env4 0 k a b) noExt (sp16_ok w hw ) rfl Tryz.func16 rfl hrun (xs := [opV4 (j : Int) k a b]) rfl (HRel.startG w _ (fun _ => rfl) (env4_G ⟨by decide, by decide⟩ hk ha hb)) (CRel_cons.2 ⟨?_, CRel_nil.2 trivial⟩) (fun ρ' hle => ?_)
  · have h := tRight_den (ρ := env4 0 k a b) (c := .lit (.ofNat j)) (k := .var 1) (a := .var 2) (b := .var 3) rfl rfl rfl rfl
    exact h.trans (congrArg some hr)
  · have h1 := hs ρ' (.of hle.s) (by rw [hle.i]; rfl) (by rw [hle.i]; rfl) (by rw [hle.i]; rfl)
    show some (Value.string (s.den ρ')) = _
    rw [show s.den ρ' = _ from h1]
theorem text16 (w : World) (hw : TabW w) {c k a b : Int} (hc : -9223372036854775808 ≤ c ∧ c < 9223372036854775808) (hk : -9223372036854775808 ≤ k ∧ k < 9223372036854775808) (ha : -9223372036854775808 ≤ a ∧ a < 9223372036854775808) (hb : -9223372036854775808 ≤ b ∧ b < 9223372036854775808) :
    Calls Tryz.prog 16 #[opV4 c k a b] w (fun e w' => e = .returned (.string ⟨(opTextR c k a b).toArray⟩) ∧ Framed w w') := by
  cases hr : rightB c k a b with
  | false =>
    unfold opTextR
    rw [hr]
    refine calls_ret (β := ⟨w, [], GSR⟩) (ρ := env4 c k a b) noExt (sp16_ok w hw ) rfl Tryz.func16 rfl oN (xs := [opV4 c k a b]) rfl (HRel.startG w _ (fun _ => rfl) (env4_G hc hk ha hb)) (CRel_cons.2 ⟨?_, CRel_nil.2 trivial⟩) (fun ρ' hle => rfl)
    have h := tRight_den (ρ := env4 c k a b) (c := .var 0) (k := .var 1) (a := .var 2) (b := .var 3) rfl rfl rfl rfl
    exact h.trans (congrArg some hr)
  | true =>
    have hd := hr
    simp only [rightB, decide_eq_true_eq] at hd
    obtain ⟨h0, h1, h2, h3, h4, h5, h6, h7, _⟩ := hd
    have fk : ∀ ρ : Env, SxOk ρ.S → ∀ i x, ρ.I i = x → 0 ≤ x → x < 9223372036854775808 → TB ρ (.fn 1 (.var i) (.lit 0)) (Lib.itoa x) := fun ρ hS i x hi hx hx2 => by
      have hl : (textF 1 x 0).length ≤ 1000000 := by
        show (Lib.itoa x).length ≤ _; have := itoa_len (n := x) (by omega) hx2; omega
      exact fn_den hS (k := 1) (p := .var i) (q := .lit 0) hi rfl hl
    obtain ⟨j, rfl⟩ := Int.eq_ofNat_of_zero_le h0
    have hjl : j < 15 := by omega
    unfold opTextR
    rw [hr]
    simp only [if_true, Int.toNat_natCast]
    rcases (show j = 0 ∨ j = 1 ∨ j = 2 ∨ j = 3 ∨ j = 4 ∨ j = 5 ∨ j = 6 ∨ j = 7 ∨ j = 8 ∨ j = 9 ∨ j = 10 ∨ j = 11 ∨ j = 12 ∨ j = 13 ∨ j = 14 by omega) with rfl | rfl | rfl | rfl | rfl | rfl | rfl | rfl | rfl | rfl | rfl | rfl | rfl | rfl | rfl
    · exact leaf16 w hw hk ha hb rfl hr o0 fun ρ hS e1 e2 e3 => (by
        have hk := fk ρ hS 1 k e1 h2 (by omega)
        have ha := fk ρ hS 2 a e2 h4 (by omega)
        have hb := fk ρ hS 3 b e3 h6 (by omega)
        exact (tb_lit _ _))
    · exact leaf16 w hw hk ha hb rfl hr o1 fun ρ hS e1 e2 e3 => (by
        have hk := fk ρ hS 1 k e1 h2 (by omega)
        have ha := fk ρ hS 2 a e2 h4 (by omega)
        have hb := fk ρ hS 3 b e3 h6 (by omega)
        exact (tb_cat (tb_lit _ _) (tb_cat (tb_lit _ _) ha)))
    · exact leaf16 w hw hk ha hb rfl hr o2 fun ρ hS e1 e2 e3 => (by
        have hk := fk ρ hS 1 k e1 h2 (by omega)
        have ha := fk ρ hS 2 a e2 h4 (by omega)
        have hb := fk ρ hS 3 b e3 h6 (by omega)
        exact (tb_lit _ _))
    · exact leaf16 w hw hk ha hb rfl hr o3 fun ρ hS e1 e2 e3 => (by
        have hk := fk ρ hS 1 k e1 h2 (by omega)
        have ha := fk ρ hS 2 a e2 h4 (by omega)
        have hb := fk ρ hS 3 b e3 h6 (by omega)
        exact (tb_lit _ _))
    · exact leaf16 w hw hk ha hb rfl hr o4 fun ρ hS e1 e2 e3 => (by
        have hk := fk ρ hS 1 k e1 h2 (by omega)
        have ha := fk ρ hS 2 a e2 h4 (by omega)
        have hb := fk ρ hS 3 b e3 h6 (by omega)
        exact (tb_cat (tb_lit _ _) (tb_cat (tb_lit _ _) hk)))
    · exact leaf16 w hw hk ha hb rfl hr o5 fun ρ hS e1 e2 e3 => (by
        have hk := fk ρ hS 1 k e1 h2 (by omega)
        have ha := fk ρ hS 2 a e2 h4 (by omega)
        have hb := fk ρ hS 3 b e3 h6 (by omega)
        exact (tb_cat (tb_cat (tb_lit _ _) (tb_cat (tb_lit _ _) hk)) (tb_cat (tb_lit _ _) ha)))
    · exact leaf16 w hw hk ha hb rfl hr o6 fun ρ hS e1 e2 e3 => (by
        have hk := fk ρ hS 1 k e1 h2 (by omega)
        have ha := fk ρ hS 2 a e2 h4 (by omega)
        have hb := fk ρ hS 3 b e3 h6 (by omega)
        exact (tb_cat (tb_lit _ _) (tb_cat (tb_lit _ _) hk)))
    · exact leaf16 w hw hk ha hb rfl hr o7 fun ρ hS e1 e2 e3 => (by
        have hk := fk ρ hS 1 k e1 h2 (by omega)
        have ha := fk ρ hS 2 a e2 h4 (by omega)
        have hb := fk ρ hS 3 b e3 h6 (by omega)
        exact (tb_cat (tb_cat (tb_cat (tb_lit _ _) (tb_cat (tb_lit _ _) hk)) (tb_cat (tb_lit _ _) ha)) (tb_cat (tb_lit _ _) hb)))
    · exact leaf16 w hw hk ha hb rfl hr o8 fun ρ hS e1 e2 e3 => (by
        have hk := fk ρ hS 1 k e1 h2 (by omega)
        have ha := fk ρ hS 2 a e2 h4 (by omega)
        have hb := fk ρ hS 3 b e3 h6 (by omega)
        exact (tb_lit _ _))
    · exact leaf16 w hw hk ha hb rfl hr o9 fun ρ hS e1 e2 e3 => (by
        have hk := fk ρ hS 1 k e1 h2 (by omega)
        have ha := fk ρ hS 2 a e2 h4 (by omega)
        have hb := fk ρ hS 3 b e3 h6 (by omega)
        exact (tb_cat (tb_lit _ _) (tb_cat (tb_lit _ _) hk)))
    · exact leaf16 w hw hk ha hb rfl hr o10 fun ρ hS e1 e2 e3 => (by
        have hk := fk ρ hS 1 k e1 h2 (by omega)
        have ha := fk ρ hS 2 a e2 h4 (by omega)
        have hb := fk ρ hS 3 b e3 h6 (by omega)
        exact (tb_cat (tb_cat (tb_lit _ _) (tb_cat (tb_lit _ _) hk)) (tb_cat (tb_lit _ _) ha)))
    · exact leaf16 w hw hk ha hb rfl hr o11 fun ρ hS e1 e2 e3 => (by
        have hk := fk ρ hS 1 k e1 h2 (by omega)
        have ha := fk ρ hS 2 a e2 h4 (by omega)
        have hb := fk ρ hS 3 b e3 h6 (by omega)
        exact (tb_cat (tb_lit _ _) (tb_cat (tb_lit _ _) hk)))
    · exact leaf16 w hw hk ha hb rfl hr o12 fun ρ hS e1 e2 e3 => (by
        have hk := fk ρ hS 1 k e1 h2 (by omega)
        have ha := fk ρ hS 2 a e2 h4 (by omega)
        have hb := fk ρ hS 3 b e3 h6 (by omega)
        exact (tb_cat (tb_lit _ _) (tb_cat (tb_lit _ _) hk)))
    · exact leaf16 w hw hk ha hb rfl hr o13 fun ρ hS e1 e2 e3 => (by
        have hk := fk ρ hS 1 k e1 h2 (by omega)
        have ha := fk ρ hS 2 a e2 h4 (by omega)
        have hb := fk ρ hS 3 b e3 h6 (by omega)
        exact (tb_cat (tb_lit _ _) (tb_cat (tb_lit _ _) hk)))
    · exact leaf16 w hw hk ha hb rfl hr o14 fun ρ hS e1 e2 e3 => (by
        have hk := fk ρ hS 1 k e1 h2 (by omega)
        have ha := fk ρ hS 2 a e2 h4 (by omega)
        have hb := fk ρ hS 3 b e3 h6 (by omega)
        exact (tb_cat (tb_lit _ _) (tb_cat (tb_lit _ _) hk)))
def sp21 : CallF := spL [(56, spA spRight), (54, spDigR)]
def Run21 (args : List AVal) (cs : Cs) (s : ST) : Prop := (run Tryz.prog [] sp21 8000 false 21 (entry Tryz.f21 (Tryz.f21.body.getD .ret) args .leaf 0 cs)).map (·.all (retIs (.str s))) = some true
theorem r0 : Run21 [opL 0] (csJ 0) (.lit [110, 111, 110, 101]) := by unfold Run21; kernel_rfl
theorem r1 : Run21 [opL 1] (csJ 1) (.cat (.lit [101, 110, 113, 117, 101, 117, 101]) (.cat (.lit [32]) (.fn 2 (.var 2) (.lit 0)))) := by unfold Run21; kernel_rfl
theorem r2 : Run21 [opL 2] (csJ 2) (.lit [100, 101, 113, 117, 101, 117, 101]) := by unfold Run21; kernel_rfl
theorem r3 : Run21 [opL 3] (csJ 3) (.lit [108, 101, 110, 103, 116, 104]) := by unfold Run21; kernel_rfl
theorem r4 : Run21 [opL 4] (csJ 4) (.cat (.lit [103, 101, 116]) (.cat (.lit [32]) (.fn 2 (.var 1) (.lit 0)))) := by unfold Run21; kernel_rfl
theorem r5 : Run21 [opL 5] (csJ 5) (.cat (.cat (.lit [112, 117, 116]) (.cat (.lit [32]) (.fn 2 (.var 1) (.lit 0)))) (.cat (.lit [32]) (.fn 2 (.var 2) (.lit 0)))) := by unfold Run21; kernel_rfl
theorem r6 : Run21 [opL 6] (csJ 6) (.cat (.lit [100, 101, 108, 101, 116, 101]) (.cat (.lit [32]) (.fn 2 (.var 1) (.lit 0)))) := by unfold Run21; kernel_rfl
theorem r7 : Run21 [opL 7] (csJ 7) (.cat (.cat (.cat (.lit [115, 119, 97, 112]) (.cat (.lit [32]) (.fn 2 (.var 1) (.lit 0)))) (.cat (.lit [32]) (.fn 2 (.var 2) (.lit 0)))) (.cat (.lit [32]) (.fn 2 (.var 3) (.lit 0)))) := by unfold Run21; kernel_rfl
theorem r8 : Run21 [opL 8] (csJ 8) (.lit [115, 105, 122, 101]) := by unfold Run21; kernel_rfl
theorem r9 : Run21 [opL 9] (csJ 9) (.cat (.lit [102, 108, 111, 111, 114]) (.cat (.lit [32]) (.fn 2 (.var 1) (.lit 0)))) := by unfold Run21; kernel_rfl
theorem r10 : Run21 [opL 10] (csJ 10) (.cat (.cat (.lit [115, 101, 116]) (.cat (.lit [32]) (.fn 2 (.var 1) (.lit 0)))) (.cat (.lit [32]) (.fn 2 (.var 2) (.lit 0)))) := by unfold Run21; kernel_rfl
theorem r11 : Run21 [opL 11] (csJ 11) (.cat (.lit [97, 99, 113, 117, 105, 114, 101]) (.cat (.lit [32]) (.fn 2 (.var 1) (.lit 0)))) := by unfold Run21; kernel_rfl
theorem r12 : Run21 [opL 12] (csJ 12) (.cat (.lit [114, 101, 108, 101, 97, 115, 101]) (.cat (.lit [32]) (.fn 2 (.var 1) (.lit 0)))) := by unfold Run21; kernel_rfl
theorem r13 : Run21 [opL 13] (csJ 13) (.cat (.lit [118, 97, 108, 117, 101]) (.cat (.lit [32]) (.fn 2 (.var 1) (.lit 0)))) := by unfold Run21; kernel_rfl
theorem r14 : Run21 [opL 14] (csJ 14) (.cat (.lit [100, 114, 111, 112]) (.cat (.lit [32]) (.fn 2 (.var 1) (.lit 0)))) := by unfold Run21; kernel_rfl
theorem rN : Run21 [.agg [iv 0, iv 1, iv 2, iv 3]] [(tRight (.var 0) (.var 1) (.var 2) (.var 3), false)] (.lit []) := by unfold Run21; kernel_rfl
theorem sp21_ok (w : World) : CallOk Tryz.prog ⟨w, [], GSR⟩ sp21 := by
  refine spL_ok fun p hp => ?_
  simp only [List.mem_cons, List.not_mem_nil, or_false] at hp
  rcases hp with rfl | rfl
  · exact spA_ok (specs05_ok (56, spRight) (by simp [specs05]))
  · exact spDigR_ok fun _ _ _ _ _ h => h
theorem leaf21 (w : World) {c k a b : Int} (hk : -9223372036854775808 ≤ k ∧ k < 9223372036854775808) (ha : -9223372036854775808 ≤ a ∧ a < 9223372036854775808) (hb : -9223372036854775808 ≤ b ∧ b < 9223372036854775808) {j : Nat} (hj : c = j) (hr : rightB c k a b = true) {s : ST} {l : List UInt8} (hrun : Run21 [opL j] (csJ j) s)
    (hs : ∀ ρ : Env, SxOk ρ.S → ρ.I 1 = k → ρ.I 2 = a → ρ.I 3 = b → TB ρ s l) : Calls Tryz.prog 21 #[opV4 c k a b] w (fun e w' => e = .returned (.string ⟨l.toArray⟩) ∧ Framed w w') := by
  subst hj
  refine calls_ret (β := ⟨w, [], GSR⟩) (ρ := env4 0 k a b) noExt (sp21_ok w ) rfl Tryz.func21 rfl hrun (xs := [opV4 (j : Int) k a b]) rfl (HRel.startG w _ (fun _ => rfl) (env4_G ⟨by decide, by decide⟩ hk ha hb)) (CRel_cons.2 ⟨?_, CRel_nil.2 trivial⟩) (fun ρ' hle => ?_)
  · have h := tRight_den (ρ := env4 0 k a b) (c := .lit (.ofNat j)) (k := .var 1) (a := .var 2) (b := .var 3) rfl rfl rfl rfl
    exact h.trans (congrArg some hr)
  · have h1 := hs ρ' (.of hle.s) (by rw [hle.i]; rfl) (by rw [hle.i]; rfl) (by rw [hle.i]; rfl)
    show some (Value.string (s.den ρ')) = _
    rw [show s.den ρ' = _ from h1]
theorem text21 (w : World) {c k a b : Int} (hc : -9223372036854775808 ≤ c ∧ c < 9223372036854775808) (hk : -9223372036854775808 ≤ k ∧ k < 9223372036854775808) (ha : -9223372036854775808 ≤ a ∧ a < 9223372036854775808) (hb : -9223372036854775808 ≤ b ∧ b < 9223372036854775808) :
    Calls Tryz.prog 21 #[opV4 c k a b] w (fun e w' => e = .returned (.string ⟨(opTextR c k a b).toArray⟩) ∧ Framed w w') := by
  cases hr : rightB c k a b with
  | false =>
    unfold opTextR
    rw [hr]
    refine calls_ret (β := ⟨w, [], GSR⟩) (ρ := env4 c k a b) noExt (sp21_ok w ) rfl Tryz.func21 rfl rN (xs := [opV4 c k a b]) rfl (HRel.startG w _ (fun _ => rfl) (env4_G hc hk ha hb)) (CRel_cons.2 ⟨?_, CRel_nil.2 trivial⟩) (fun ρ' hle => rfl)
    have h := tRight_den (ρ := env4 c k a b) (c := .var 0) (k := .var 1) (a := .var 2) (b := .var 3) rfl rfl rfl rfl
    exact h.trans (congrArg some hr)
  | true =>
    have hd := hr
    simp only [rightB, decide_eq_true_eq] at hd
    obtain ⟨h0, h1, h2, h3, h4, h5, h6, h7, _⟩ := hd
    have fk : ∀ ρ : Env, SxOk ρ.S → ∀ i x, ρ.I i = x → 0 ≤ x → x < 9223372036854775808 → TB ρ (.fn 2 (.var i) (.lit 0)) (Lib.itoa x) := fun ρ hS i x hi hx hx2 => by
      have hl : (textF 2 x 0).length ≤ 1000000 := by
        show (digD x []).length ≤ _; have := dig_len (n := x) hx2; omega
      have h : TB ρ (.fn 2 (.var i) (.lit 0)) (textF 2 x 0) := fn_den hS (k := 2) (p := .var i) (q := .lit 0) hi rfl hl
      have e : textF 2 x 0 = Lib.itoa x := by
        show digD x [] = _
        rw [digD_dec hx, Lib.itoa, if_neg (by omega)]; simp
      rw [e] at h; exact h
    obtain ⟨j, rfl⟩ := Int.eq_ofNat_of_zero_le h0
    have hjl : j < 15 := by omega
    unfold opTextR
    rw [hr]
    simp only [if_true, Int.toNat_natCast]
    rcases (show j = 0 ∨ j = 1 ∨ j = 2 ∨ j = 3 ∨ j = 4 ∨ j = 5 ∨ j = 6 ∨ j = 7 ∨ j = 8 ∨ j = 9 ∨ j = 10 ∨ j = 11 ∨ j = 12 ∨ j = 13 ∨ j = 14 by omega) with rfl | rfl | rfl | rfl | rfl | rfl | rfl | rfl | rfl | rfl | rfl | rfl | rfl | rfl | rfl
    · exact leaf21 w hk ha hb rfl hr r0 fun ρ hS e1 e2 e3 => (by
        have hk := fk ρ hS 1 k e1 h2 (by omega)
        have ha := fk ρ hS 2 a e2 h4 (by omega)
        have hb := fk ρ hS 3 b e3 h6 (by omega)
        exact (tb_lit _ _))
    · exact leaf21 w hk ha hb rfl hr r1 fun ρ hS e1 e2 e3 => (by
        have hk := fk ρ hS 1 k e1 h2 (by omega)
        have ha := fk ρ hS 2 a e2 h4 (by omega)
        have hb := fk ρ hS 3 b e3 h6 (by omega)
        exact (tb_cat (tb_lit _ _) (tb_cat (tb_lit _ _) ha)))
    · exact leaf21 w hk ha hb rfl hr r2 fun ρ hS e1 e2 e3 => (by
        have hk := fk ρ hS 1 k e1 h2 (by omega)
        have ha := fk ρ hS 2 a e2 h4 (by omega)
        have hb := fk ρ hS 3 b e3 h6 (by omega)
        exact (tb_lit _ _))
    · exact leaf21 w hk ha hb rfl hr r3 fun ρ hS e1 e2 e3 => (by
        have hk := fk ρ hS 1 k e1 h2 (by omega)
        have ha := fk ρ hS 2 a e2 h4 (by omega)
        have hb := fk ρ hS 3 b e3 h6 (by omega)
        exact (tb_lit _ _))
    · exact leaf21 w hk ha hb rfl hr r4 fun ρ hS e1 e2 e3 => (by
        have hk := fk ρ hS 1 k e1 h2 (by omega)
        have ha := fk ρ hS 2 a e2 h4 (by omega)
        have hb := fk ρ hS 3 b e3 h6 (by omega)
        exact (tb_cat (tb_lit _ _) (tb_cat (tb_lit _ _) hk)))
    · exact leaf21 w hk ha hb rfl hr r5 fun ρ hS e1 e2 e3 => (by
        have hk := fk ρ hS 1 k e1 h2 (by omega)
        have ha := fk ρ hS 2 a e2 h4 (by omega)
        have hb := fk ρ hS 3 b e3 h6 (by omega)
        exact (tb_cat (tb_cat (tb_lit _ _) (tb_cat (tb_lit _ _) hk)) (tb_cat (tb_lit _ _) ha)))
    · exact leaf21 w hk ha hb rfl hr r6 fun ρ hS e1 e2 e3 => (by
        have hk := fk ρ hS 1 k e1 h2 (by omega)
        have ha := fk ρ hS 2 a e2 h4 (by omega)
        have hb := fk ρ hS 3 b e3 h6 (by omega)
        exact (tb_cat (tb_lit _ _) (tb_cat (tb_lit _ _) hk)))
    · exact leaf21 w hk ha hb rfl hr r7 fun ρ hS e1 e2 e3 => (by
        have hk := fk ρ hS 1 k e1 h2 (by omega)
        have ha := fk ρ hS 2 a e2 h4 (by omega)
        have hb := fk ρ hS 3 b e3 h6 (by omega)
        exact (tb_cat (tb_cat (tb_cat (tb_lit _ _) (tb_cat (tb_lit _ _) hk)) (tb_cat (tb_lit _ _) ha)) (tb_cat (tb_lit _ _) hb)))
    · exact leaf21 w hk ha hb rfl hr r8 fun ρ hS e1 e2 e3 => (by
        have hk := fk ρ hS 1 k e1 h2 (by omega)
        have ha := fk ρ hS 2 a e2 h4 (by omega)
        have hb := fk ρ hS 3 b e3 h6 (by omega)
        exact (tb_lit _ _))
    · exact leaf21 w hk ha hb rfl hr r9 fun ρ hS e1 e2 e3 => (by
        have hk := fk ρ hS 1 k e1 h2 (by omega)
        have ha := fk ρ hS 2 a e2 h4 (by omega)
        have hb := fk ρ hS 3 b e3 h6 (by omega)
        exact (tb_cat (tb_lit _ _) (tb_cat (tb_lit _ _) hk)))
    · exact leaf21 w hk ha hb rfl hr r10 fun ρ hS e1 e2 e3 => (by
        have hk := fk ρ hS 1 k e1 h2 (by omega)
        have ha := fk ρ hS 2 a e2 h4 (by omega)
        have hb := fk ρ hS 3 b e3 h6 (by omega)
        exact (tb_cat (tb_cat (tb_lit _ _) (tb_cat (tb_lit _ _) hk)) (tb_cat (tb_lit _ _) ha)))
    · exact leaf21 w hk ha hb rfl hr r11 fun ρ hS e1 e2 e3 => (by
        have hk := fk ρ hS 1 k e1 h2 (by omega)
        have ha := fk ρ hS 2 a e2 h4 (by omega)
        have hb := fk ρ hS 3 b e3 h6 (by omega)
        exact (tb_cat (tb_lit _ _) (tb_cat (tb_lit _ _) hk)))
    · exact leaf21 w hk ha hb rfl hr r12 fun ρ hS e1 e2 e3 => (by
        have hk := fk ρ hS 1 k e1 h2 (by omega)
        have ha := fk ρ hS 2 a e2 h4 (by omega)
        have hb := fk ρ hS 3 b e3 h6 (by omega)
        exact (tb_cat (tb_lit _ _) (tb_cat (tb_lit _ _) hk)))
    · exact leaf21 w hk ha hb rfl hr r13 fun ρ hS e1 e2 e3 => (by
        have hk := fk ρ hS 1 k e1 h2 (by omega)
        have ha := fk ρ hS 2 a e2 h4 (by omega)
        have hb := fk ρ hS 3 b e3 h6 (by omega)
        exact (tb_cat (tb_lit _ _) (tb_cat (tb_lit _ _) hk)))
    · exact leaf21 w hk ha hb rfl hr r14 fun ρ hS e1 e2 e3 => (by
        have hk := fk ρ hS 1 k e1 h2 (by omega)
        have ha := fk ρ hS 2 a e2 h4 (by omega)
        have hb := fk ρ hS 3 b e3 h6 (by omega)
        exact (tb_cat (tb_lit _ _) (tb_cat (tb_lit _ _) hk)))
end Txt
end Go.Proofs.YtjjijagclgambaaGreatDoor
end

/-
  Texts (5): the texts of responses.
-/
section
namespace Go.Proofs.YtjjijagclgambaaGreatDoor
open Go.Vm
namespace Txt

theorem tResp_den {ρ : Env} {k v : IT} {x y : Int} (hk : k.den ρ = some x) (hv : v.den ρ = some y) : (tResp k v).den ρ = some (respB x y) := by
  simp only [tResp, orT, eqT, inT, BT.den, IT.den, hk, hv, intCmp, Option.map_some, Option.some.injEq]
  rw [Bool.eq_iff_iff]
  simp [respB]
  omega
def rsL (j : Nat) : AVal := .agg [.int .i64 (.lit (.ofNat j)), iv 1]
def rsV (k v : Int) : Value := .agg #[.int .i64 k, .int .i64 v]
def csR (j : Nat) : Cs := [(tResp (.lit (.ofNat j)) (.var 1), true)]
def sp17 : CallF := spL [(51, spA spResp), (14, spItoa)]
def Run17 (args : List AVal) (cs : Cs) (s : ST) : Prop := (run Tryz.prog [] sp17 8000 false 17 (entry Tryz.f17 (Tryz.f17.body.getD .ret) args .leaf 0 cs)).map (·.all (retIs (.str s))) = some true
theorem p0 : Run17 [rsL 0] (csR 0) (.cat (.lit [100, 111, 110, 101, 32]) (.fn 1 (.var 1) (.lit 0))) := by unfold Run17; kernel_rfl
theorem p1 : Run17 [rsL 1] (csR 1) (.lit [110, 111, 110, 101]) := by unfold Run17; kernel_rfl
theorem p2 : Run17 [rsL 2] (csR 2) (.lit [102, 117, 108, 108]) := by unfold Run17; kernel_rfl
theorem p3 : Run17 [rsL 3] (csR 3) (.lit [98, 117, 115, 121]) := by unfold Run17; kernel_rfl
theorem p4 : Run17 [rsL 4] (csR 4) (.cat (.lit [117, 110, 108, 105, 107, 101, 32]) (.fn 1 (.var 1) (.lit 0))) := by unfold Run17; kernel_rfl
theorem p5 : Run17 [rsL 5] (csR 5) (.lit [110, 111, 109, 101, 109, 111, 114, 121]) := by unfold Run17; kernel_rfl
theorem pN : Run17 [.agg [iv 0, iv 1]] [(tResp (.var 0) (.var 1), false)] (.lit []) := by unfold Run17; kernel_rfl
theorem sp17_ok (w : World) (hw : TabW w) : CallOk Tryz.prog ⟨w, [], GSR⟩ sp17 := by
  refine spL_ok fun p hp => ?_
  simp only [List.mem_cons, List.not_mem_nil, or_false] at hp
  rcases hp with rfl | rfl
  · exact spA_ok (specs05_ok (51, spResp) (by simp [specs05]))
  · exact spText_ok (fun _ _ _ _ _ h => h) fun hh n h1 h2 => itoa14 (TabW.of hw rfl hh) n h1 h2
theorem leaf17 (w : World) (hw : TabW w) {k v : Int} (hv : -9223372036854775808 ≤ v ∧ v < 9223372036854775808) {j : Nat} (hj : k = j) (hr : respB k v = true) {s : ST} {l : List UInt8} (hrun : Run17 [rsL j] (csR j) s)
    (hs : ∀ ρ : Env, SxOk ρ.S → ρ.I 1 = v → TB ρ s l) : Calls Tryz.prog 17 #[rsV k v] w (fun e w' => e = .returned (.string ⟨l.toArray⟩) ∧ Framed w w') := by
  subst hj
  refine calls_ret (β := ⟨w, [], GSR⟩) (ρ := env4 0 v 0 0) noExt (sp17_ok w hw ) rfl Tryz.func17 rfl hrun (xs := [rsV (j : Int) v]) rfl (HRel.startG w _ (fun _ => rfl) (env4_G ⟨by decide, by decide⟩ hv ⟨by decide, by decide⟩ ⟨by decide, by decide⟩)) (CRel_cons.2 ⟨?_, CRel_nil.2 trivial⟩) (fun ρ' hle => ?_)
  · have h := tResp_den (ρ := env4 0 v 0 0) (k := .lit (.ofNat j)) (v := .var 1) rfl rfl
    exact h.trans (congrArg some hr)
  · have h1 := hs ρ' (.of hle.s) (by rw [hle.i]; rfl)
    show some (Value.string (s.den ρ')) = _
    rw [show s.den ρ' = _ from h1]
theorem text17 (w : World) (hw : TabW w) {k v : Int} (hk : -9223372036854775808 ≤ k ∧ k < 9223372036854775808) (hv : -9223372036854775808 ≤ v ∧ v < 9223372036854775808) :
    Calls Tryz.prog 17 #[rsV k v] w (fun e w' => e = .returned (.string ⟨(respTextR k v).toArray⟩) ∧ Framed w w') := by
  cases hr : respB k v with
  | false =>
    unfold respTextR
    rw [hr]
    refine calls_ret (β := ⟨w, [], GSR⟩) (ρ := env4 k v 0 0) noExt (sp17_ok w hw ) rfl Tryz.func17 rfl pN (xs := [rsV k v]) rfl (HRel.startG w _ (fun _ => rfl) (env4_G hk hv ⟨by decide, by decide⟩ ⟨by decide, by decide⟩)) (CRel_cons.2 ⟨?_, CRel_nil.2 trivial⟩) (fun ρ' hle => rfl)
    have h := tResp_den (ρ := env4 k v 0 0) (k := .var 0) (v := .var 1) rfl rfl
    exact h.trans (congrArg some hr)
  | true =>
    have hd := hr
    simp only [respB, decide_eq_true_eq] at hd
    obtain ⟨h0, h1, h2, h3, _⟩ := hd
    have fk : ∀ ρ : Env, SxOk ρ.S → ∀ i x, ρ.I i = x → 0 ≤ x → x < 9223372036854775808 → TB ρ (.fn 1 (.var i) (.lit 0)) (Lib.itoa x) := fun ρ hS i x hi hx hx2 => by
      have hl : (textF 1 x 0).length ≤ 1000000 := by
        show (Lib.itoa x).length ≤ _; have := itoa_len (n := x) (by omega) hx2; omega
      exact fn_den hS (k := 1) (p := .var i) (q := .lit 0) hi rfl hl
    obtain ⟨j, rfl⟩ := Int.eq_ofNat_of_zero_le h0
    have hjl : j < 6 := by omega
    unfold respTextR
    rw [hr]
    simp only [if_true, Int.toNat_natCast]
    rcases (show j = 0 ∨ j = 1 ∨ j = 2 ∨ j = 3 ∨ j = 4 ∨ j = 5 by omega) with rfl | rfl | rfl | rfl | rfl | rfl
    · exact leaf17 w hw hv rfl hr p0 fun ρ hS e1 => (by
        have hv := fk ρ hS 1 v e1 h2 (by omega)
        exact (tb_cat (tb_lit _ _) hv))
    · exact leaf17 w hw hv rfl hr p1 fun ρ hS e1 => (by
        have hv := fk ρ hS 1 v e1 h2 (by omega)
        exact (tb_lit _ _))
    · exact leaf17 w hw hv rfl hr p2 fun ρ hS e1 => (by
        have hv := fk ρ hS 1 v e1 h2 (by omega)
        exact (tb_lit _ _))
    · exact leaf17 w hw hv rfl hr p3 fun ρ hS e1 => (by
        have hv := fk ρ hS 1 v e1 h2 (by omega)
        exact (tb_lit _ _))
    · exact leaf17 w hw hv rfl hr p4 fun ρ hS e1 => (by
        have hv := fk ρ hS 1 v e1 h2 (by omega)
        exact (tb_cat (tb_lit _ _) hv))
    · exact leaf17 w hw hv rfl hr p5 fun ρ hS e1 => (by
        have hv := fk ρ hS 1 v e1 h2 (by omega)
        exact (tb_lit _ _))
def sp22 : CallF := spL [(59, spA spResp), (54, spDigR)]
def Run22 (args : List AVal) (cs : Cs) (s : ST) : Prop := (run Tryz.prog [] sp22 8000 false 22 (entry Tryz.f22 (Tryz.f22.body.getD .ret) args .leaf 0 cs)).map (·.all (retIs (.str s))) = some true
theorem q0 : Run22 [rsL 0] (csR 0) (.cat (.lit [100, 111, 110, 101, 32]) (.fn 2 (.var 1) (.lit 0))) := by unfold Run22; kernel_rfl
theorem q1 : Run22 [rsL 1] (csR 1) (.lit [110, 111, 110, 101]) := by unfold Run22; kernel_rfl
theorem q2 : Run22 [rsL 2] (csR 2) (.lit [102, 117, 108, 108]) := by unfold Run22; kernel_rfl
theorem q3 : Run22 [rsL 3] (csR 3) (.lit [98, 117, 115, 121]) := by unfold Run22; kernel_rfl
theorem q4 : Run22 [rsL 4] (csR 4) (.cat (.lit [117, 110, 108, 105, 107, 101, 32]) (.fn 2 (.var 1) (.lit 0))) := by unfold Run22; kernel_rfl
theorem q5 : Run22 [rsL 5] (csR 5) (.lit [110, 111, 109, 101, 109, 111, 114, 121]) := by unfold Run22; kernel_rfl
theorem qN : Run22 [.agg [iv 0, iv 1]] [(tResp (.var 0) (.var 1), false)] (.lit []) := by unfold Run22; kernel_rfl
theorem sp22_ok (w : World) : CallOk Tryz.prog ⟨w, [], GSR⟩ sp22 := by
  refine spL_ok fun p hp => ?_
  simp only [List.mem_cons, List.not_mem_nil, or_false] at hp
  rcases hp with rfl | rfl
  · exact spA_ok (specs05_ok (59, spResp) (by simp [specs05]))
  · exact spDigR_ok fun _ _ _ _ _ h => h
theorem leaf22 (w : World) {k v : Int} (hv : -9223372036854775808 ≤ v ∧ v < 9223372036854775808) {j : Nat} (hj : k = j) (hr : respB k v = true) {s : ST} {l : List UInt8} (hrun : Run22 [rsL j] (csR j) s)
    (hs : ∀ ρ : Env, SxOk ρ.S → ρ.I 1 = v → TB ρ s l) : Calls Tryz.prog 22 #[rsV k v] w (fun e w' => e = .returned (.string ⟨l.toArray⟩) ∧ Framed w w') := by
  subst hj
  refine calls_ret (β := ⟨w, [], GSR⟩) (ρ := env4 0 v 0 0) noExt (sp22_ok w ) rfl Tryz.func22 rfl hrun (xs := [rsV (j : Int) v]) rfl (HRel.startG w _ (fun _ => rfl) (env4_G ⟨by decide, by decide⟩ hv ⟨by decide, by decide⟩ ⟨by decide, by decide⟩)) (CRel_cons.2 ⟨?_, CRel_nil.2 trivial⟩) (fun ρ' hle => ?_)
  · have h := tResp_den (ρ := env4 0 v 0 0) (k := .lit (.ofNat j)) (v := .var 1) rfl rfl
    exact h.trans (congrArg some hr)
  · have h1 := hs ρ' (.of hle.s) (by rw [hle.i]; rfl)
    show some (Value.string (s.den ρ')) = _
    rw [show s.den ρ' = _ from h1]
theorem text22 (w : World) {k v : Int} (hk : -9223372036854775808 ≤ k ∧ k < 9223372036854775808) (hv : -9223372036854775808 ≤ v ∧ v < 9223372036854775808) :
    Calls Tryz.prog 22 #[rsV k v] w (fun e w' => e = .returned (.string ⟨(respTextR k v).toArray⟩) ∧ Framed w w') := by
  cases hr : respB k v with
  | false =>
    unfold respTextR
    rw [hr]
    refine calls_ret (β := ⟨w, [], GSR⟩) (ρ := env4 k v 0 0) noExt (sp22_ok w ) rfl Tryz.func22 rfl qN (xs := [rsV k v]) rfl (HRel.startG w _ (fun _ => rfl) (env4_G hk hv ⟨by decide, by decide⟩ ⟨by decide, by decide⟩)) (CRel_cons.2 ⟨?_, CRel_nil.2 trivial⟩) (fun ρ' hle => rfl)
    have h := tResp_den (ρ := env4 k v 0 0) (k := .var 0) (v := .var 1) rfl rfl
    exact h.trans (congrArg some hr)
  | true =>
    have hd := hr
    simp only [respB, decide_eq_true_eq] at hd
    obtain ⟨h0, h1, h2, h3, _⟩ := hd
    have fk : ∀ ρ : Env, SxOk ρ.S → ∀ i x, ρ.I i = x → 0 ≤ x → x < 9223372036854775808 → TB ρ (.fn 2 (.var i) (.lit 0)) (Lib.itoa x) := fun ρ hS i x hi hx hx2 => by
      have hl : (textF 2 x 0).length ≤ 1000000 := by
        show (digD x []).length ≤ _; have := dig_len (n := x) hx2; omega
      have h : TB ρ (.fn 2 (.var i) (.lit 0)) (textF 2 x 0) := fn_den hS (k := 2) (p := .var i) (q := .lit 0) hi rfl hl
      have e : textF 2 x 0 = Lib.itoa x := by
        show digD x [] = _
        rw [digD_dec hx, Lib.itoa, if_neg (by omega)]; simp
      rw [e] at h; exact h
    obtain ⟨j, rfl⟩ := Int.eq_ofNat_of_zero_le h0
    have hjl : j < 6 := by omega
    unfold respTextR
    rw [hr]
    simp only [if_true, Int.toNat_natCast]
    rcases (show j = 0 ∨ j = 1 ∨ j = 2 ∨ j = 3 ∨ j = 4 ∨ j = 5 by omega) with rfl | rfl | rfl | rfl | rfl | rfl
    · exact leaf22 w hv rfl hr q0 fun ρ hS e1 => (by
        have hv := fk ρ hS 1 v e1 h2 (by omega)
        exact (tb_cat (tb_lit _ _) hv))
    · exact leaf22 w hv rfl hr q1 fun ρ hS e1 => (by
        have hv := fk ρ hS 1 v e1 h2 (by omega)
        exact (tb_lit _ _))
    · exact leaf22 w hv rfl hr q2 fun ρ hS e1 => (by
        have hv := fk ρ hS 1 v e1 h2 (by omega)
        exact (tb_lit _ _))
    · exact leaf22 w hv rfl hr q3 fun ρ hS e1 => (by
        have hv := fk ρ hS 1 v e1 h2 (by omega)
        exact (tb_lit _ _))
    · exact leaf22 w hv rfl hr q4 fun ρ hS e1 => (by
        have hv := fk ρ hS 1 v e1 h2 (by omega)
        exact (tb_cat (tb_lit _ _) hv))
    · exact leaf22 w hv rfl hr q5 fun ρ hS e1 => (by
        have hv := fk ρ hS 1 v e1 h2 (by omega)
        exact (tb_lit _ _))
end Txt
end Go.Proofs.YtjjijagclgambaaGreatDoor
end
