/-
  Texts (5): the texts of responses.
-/
import Derived.Test.YtagdcclpibjfoaaDoorTx4
namespace Go.Proofs.YtagdcclpibjfoaaDoor
open Go.Vm
namespace Txt

theorem tResp_den {ρ : Env} {k v : IT} {x y : Int} (hk : k.den ρ = some x) (hv : v.den ρ = some y) : (tResp k v).den ρ = some (respB x y) := by
  simp only [tResp, orT, eqT, inT, BT.den, IT.den, hk, hv, intCmp, Option.map_some, Option.some.injEq]
  rw [Bool.eq_iff_iff]
  simp [respB]
  omega
def rsL (j : Nat) : AVal := .agg [.int .i64 (.lit (.ofNat j)), iv 1]
def rsV (k v : Int) : Value := .agg #[.int .i64 k, .int .i64 v]
def csR (j : Nat) : Cs := [(tResp (.lit (.ofNat j)) (.var 1), true)]
def sp60 : CallF := spL [(46, spA spResp), (74, spItoa)]
def Run60 (args : List AVal) (cs : Cs) (s : ST) : Prop := (run Tryd.prog [] sp60 8000 false 60 (entry Tryd.f60 (Tryd.f60.body.getD .ret) args .leaf 0 cs)).map (·.all (retIs (.str s))) = some true
theorem p0 : Run60 [rsL 0] (csR 0) (.cat (.lit [100, 111, 110, 101, 32]) (.fn 1 (.var 1) (.lit 0))) := by unfold Run60; kernel_rfl
theorem p1 : Run60 [rsL 1] (csR 1) (.lit [110, 111, 110, 101]) := by unfold Run60; kernel_rfl
theorem p2 : Run60 [rsL 2] (csR 2) (.lit [102, 117, 108, 108]) := by unfold Run60; kernel_rfl
theorem p3 : Run60 [rsL 3] (csR 3) (.lit [98, 117, 115, 121]) := by unfold Run60; kernel_rfl
theorem p4 : Run60 [rsL 4] (csR 4) (.cat (.lit [117, 110, 108, 105, 107, 101, 32]) (.fn 1 (.var 1) (.lit 0))) := by unfold Run60; kernel_rfl
theorem p5 : Run60 [rsL 5] (csR 5) (.lit [110, 111, 109, 101, 109, 111, 114, 121]) := by unfold Run60; kernel_rfl
theorem pN : Run60 [.agg [iv 0, iv 1]] [(tResp (.var 0) (.var 1), false)] (.lit []) := by unfold Run60; kernel_rfl
theorem sp60_ok (w : World) (hw : TabW w) : CallOk Tryd.prog ⟨w, [], GSR⟩ sp60 := by
  refine spL_ok fun p hp => ?_
  simp only [List.mem_cons, List.not_mem_nil, or_false] at hp
  rcases hp with rfl | rfl
  · exact spA_ok (specs05_ok (46, spResp) (by simp [specs05]))
  · exact spText_ok (fun _ _ _ _ _ h => h) fun hh n h1 h2 => itoa74 (TabW.of hw rfl hh) n h1 h2
theorem leaf60 (w : World) (hw : TabW w) {k v : Int} (hv : -9223372036854775808 ≤ v ∧ v < 9223372036854775808) {j : Nat} (hj : k = j) (hr : respB k v = true) {s : ST} {l : List UInt8} (hrun : Run60 [rsL j] (csR j) s)
    (hs : ∀ ρ : Env, ρ.S = Sx → ρ.I 1 = v → TB ρ s l) : Calls Tryd.prog 60 #[rsV k v] w (fun e w' => e = .returned (.string ⟨l.toArray⟩) ∧ Framed w w') := by
  subst hj
  refine calls_ret (β := ⟨w, [], GSR⟩) (ρ := env4 0 v 0 0) noExt (sp60_ok w hw ) rfl Tryd.func60 rfl hrun (xs := [rsV (j : Int) v]) rfl (HRel.startG w _ (fun _ => rfl) (env4_G ⟨by decide, by decide⟩ hv ⟨by decide, by decide⟩ ⟨by decide, by decide⟩)) (CRel_cons.2 ⟨?_, CRel_nil.2 trivial⟩) (fun ρ' hle => ?_)
  · have h := tResp_den (ρ := env4 0 v 0 0) (k := .lit (.ofNat j)) (v := .var 1) rfl rfl
    exact h.trans (congrArg some hr)
  · have h1 := hs ρ' hle.s (by rw [hle.i]; rfl)
    show some (Value.string (s.den ρ')) = _
    rw [show s.den ρ' = _ from h1]
theorem text60 (w : World) (hw : TabW w) {k v : Int} (hk : -9223372036854775808 ≤ k ∧ k < 9223372036854775808) (hv : -9223372036854775808 ≤ v ∧ v < 9223372036854775808) :
    Calls Tryd.prog 60 #[rsV k v] w (fun e w' => e = .returned (.string ⟨(respTextR k v).toArray⟩) ∧ Framed w w') := by
  cases hr : respB k v with
  | false =>
    unfold respTextR
    rw [hr]
    refine calls_ret (β := ⟨w, [], GSR⟩) (ρ := env4 k v 0 0) noExt (sp60_ok w hw ) rfl Tryd.func60 rfl pN (xs := [rsV k v]) rfl (HRel.startG w _ (fun _ => rfl) (env4_G hk hv ⟨by decide, by decide⟩ ⟨by decide, by decide⟩)) (CRel_cons.2 ⟨?_, CRel_nil.2 trivial⟩) (fun ρ' hle => rfl)
    have h := tResp_den (ρ := env4 k v 0 0) (k := .var 0) (v := .var 1) rfl rfl
    exact h.trans (congrArg some hr)
  | true =>
    have hd := hr
    simp only [respB, decide_eq_true_eq] at hd
    obtain ⟨h0, h1, h2, h3, _⟩ := hd
    have fk : ∀ ρ : Env, ρ.S = Sx → ∀ i x, ρ.I i = x → 0 ≤ x → x < 9223372036854775808 → TB ρ (.fn 1 (.var i) (.lit 0)) (Lib.itoa x) := fun ρ hS i x hi hx hx2 => by
      have hl : (textF 1 x 0).length ≤ 1000000 := by
        show (Lib.itoa x).length ≤ _; have := itoa_len (n := x) (by omega) hx2; omega
      exact fn_den hS (k := 1) (p := .var i) (q := .lit 0) hi rfl hl
    obtain ⟨j, rfl⟩ := Int.eq_ofNat_of_zero_le h0
    have hjl : j < 6 := by omega
    unfold respTextR
    rw [hr]
    simp only [if_true, Int.toNat_natCast]
    rcases (show j = 0 ∨ j = 1 ∨ j = 2 ∨ j = 3 ∨ j = 4 ∨ j = 5 by omega) with rfl | rfl | rfl | rfl | rfl | rfl
    · exact leaf60 w hw hv rfl hr p0 fun ρ hS e1 => (by
        have hv := fk ρ hS 1 v e1 h2 (by omega)
        exact (tb_cat (tb_lit _ _) hv))
    · exact leaf60 w hw hv rfl hr p1 fun ρ hS e1 => (by
        have hv := fk ρ hS 1 v e1 h2 (by omega)
        exact (tb_lit _ _))
    · exact leaf60 w hw hv rfl hr p2 fun ρ hS e1 => (by
        have hv := fk ρ hS 1 v e1 h2 (by omega)
        exact (tb_lit _ _))
    · exact leaf60 w hw hv rfl hr p3 fun ρ hS e1 => (by
        have hv := fk ρ hS 1 v e1 h2 (by omega)
        exact (tb_lit _ _))
    · exact leaf60 w hw hv rfl hr p4 fun ρ hS e1 => (by
        have hv := fk ρ hS 1 v e1 h2 (by omega)
        exact (tb_cat (tb_lit _ _) hv))
    · exact leaf60 w hw hv rfl hr p5 fun ρ hS e1 => (by
        have hv := fk ρ hS 1 v e1 h2 (by omega)
        exact (tb_lit _ _))
def sp61 : CallF := spL [(47, spA spResp), (107, spDigR)]
def Run61 (args : List AVal) (cs : Cs) (s : ST) : Prop := (run Tryd.prog [] sp61 8000 false 61 (entry Tryd.f61 (Tryd.f61.body.getD .ret) args .leaf 0 cs)).map (·.all (retIs (.str s))) = some true
theorem q0 : Run61 [rsL 0] (csR 0) (.cat (.lit [100, 111, 110, 101, 32]) (.fn 2 (.var 1) (.lit 0))) := by unfold Run61; kernel_rfl
theorem q1 : Run61 [rsL 1] (csR 1) (.lit [110, 111, 110, 101]) := by unfold Run61; kernel_rfl
theorem q2 : Run61 [rsL 2] (csR 2) (.lit [102, 117, 108, 108]) := by unfold Run61; kernel_rfl
theorem q3 : Run61 [rsL 3] (csR 3) (.lit [98, 117, 115, 121]) := by unfold Run61; kernel_rfl
theorem q4 : Run61 [rsL 4] (csR 4) (.cat (.lit [117, 110, 108, 105, 107, 101, 32]) (.fn 2 (.var 1) (.lit 0))) := by unfold Run61; kernel_rfl
theorem q5 : Run61 [rsL 5] (csR 5) (.lit [110, 111, 109, 101, 109, 111, 114, 121]) := by unfold Run61; kernel_rfl
theorem qN : Run61 [.agg [iv 0, iv 1]] [(tResp (.var 0) (.var 1), false)] (.lit []) := by unfold Run61; kernel_rfl
theorem sp61_ok (w : World) : CallOk Tryd.prog ⟨w, [], GSR⟩ sp61 := by
  refine spL_ok fun p hp => ?_
  simp only [List.mem_cons, List.not_mem_nil, or_false] at hp
  rcases hp with rfl | rfl
  · exact spA_ok (specs05_ok (47, spResp) (by simp [specs05]))
  · exact spDigR_ok fun _ _ _ _ _ h => h
theorem leaf61 (w : World) {k v : Int} (hv : -9223372036854775808 ≤ v ∧ v < 9223372036854775808) {j : Nat} (hj : k = j) (hr : respB k v = true) {s : ST} {l : List UInt8} (hrun : Run61 [rsL j] (csR j) s)
    (hs : ∀ ρ : Env, ρ.S = Sx → ρ.I 1 = v → TB ρ s l) : Calls Tryd.prog 61 #[rsV k v] w (fun e w' => e = .returned (.string ⟨l.toArray⟩) ∧ Framed w w') := by
  subst hj
  refine calls_ret (β := ⟨w, [], GSR⟩) (ρ := env4 0 v 0 0) noExt (sp61_ok w ) rfl Tryd.func61 rfl hrun (xs := [rsV (j : Int) v]) rfl (HRel.startG w _ (fun _ => rfl) (env4_G ⟨by decide, by decide⟩ hv ⟨by decide, by decide⟩ ⟨by decide, by decide⟩)) (CRel_cons.2 ⟨?_, CRel_nil.2 trivial⟩) (fun ρ' hle => ?_)
  · have h := tResp_den (ρ := env4 0 v 0 0) (k := .lit (.ofNat j)) (v := .var 1) rfl rfl
    exact h.trans (congrArg some hr)
  · have h1 := hs ρ' hle.s (by rw [hle.i]; rfl)
    show some (Value.string (s.den ρ')) = _
    rw [show s.den ρ' = _ from h1]
theorem text61 (w : World) {k v : Int} (hk : -9223372036854775808 ≤ k ∧ k < 9223372036854775808) (hv : -9223372036854775808 ≤ v ∧ v < 9223372036854775808) :
    Calls Tryd.prog 61 #[rsV k v] w (fun e w' => e = .returned (.string ⟨(respTextR k v).toArray⟩) ∧ Framed w w') := by
  cases hr : respB k v with
  | false =>
    unfold respTextR
    rw [hr]
    refine calls_ret (β := ⟨w, [], GSR⟩) (ρ := env4 k v 0 0) noExt (sp61_ok w ) rfl Tryd.func61 rfl qN (xs := [rsV k v]) rfl (HRel.startG w _ (fun _ => rfl) (env4_G hk hv ⟨by decide, by decide⟩ ⟨by decide, by decide⟩)) (CRel_cons.2 ⟨?_, CRel_nil.2 trivial⟩) (fun ρ' hle => rfl)
    have h := tResp_den (ρ := env4 k v 0 0) (k := .var 0) (v := .var 1) rfl rfl
    exact h.trans (congrArg some hr)
  | true =>
    have hd := hr
    simp only [respB, decide_eq_true_eq] at hd
    obtain ⟨h0, h1, h2, h3, _⟩ := hd
    have fk : ∀ ρ : Env, ρ.S = Sx → ∀ i x, ρ.I i = x → 0 ≤ x → x < 9223372036854775808 → TB ρ (.fn 2 (.var i) (.lit 0)) (Lib.itoa x) := fun ρ hS i x hi hx hx2 => by
      have hl : (textF 2 x 0).length ≤ 1000000 := by
        show (digD x []).length ≤ _; have := dig_len (n := x) hx2; omega
      have h : TB ρ (.fn 2 (.var i) (.lit 0)) (textF 2 x 0) := fn_den hS (k := 2) (p := .var i) (q := .lit 0) hi rfl hl
      have e : textF 2 x 0 = Lib.itoa x := by
        show digD x [] = _
        rw [digD_dec hx, Lib.itoa, if_neg (by omega)]; simp
      rw [e] at h; exact h
    obtain ⟨j, rfl⟩ := Int.eq_ofNat_of_zero_le h0
    have hjl : j < 6 := by omega
    unfold respTextR
    rw [hr]
    simp only [if_true, Int.toNat_natCast]
    rcases (show j = 0 ∨ j = 1 ∨ j = 2 ∨ j = 3 ∨ j = 4 ∨ j = 5 by omega) with rfl | rfl | rfl | rfl | rfl | rfl
    · exact leaf61 w hv rfl hr q0 fun ρ hS e1 => (by
        have hv := fk ρ hS 1 v e1 h2 (by omega)
        exact (tb_cat (tb_lit _ _) hv))
    · exact leaf61 w hv rfl hr q1 fun ρ hS e1 => (by
        have hv := fk ρ hS 1 v e1 h2 (by omega)
        exact (tb_lit _ _))
    · exact leaf61 w hv rfl hr q2 fun ρ hS e1 => (by
        have hv := fk ρ hS 1 v e1 h2 (by omega)
        exact (tb_lit _ _))
    · exact leaf61 w hv rfl hr q3 fun ρ hS e1 => (by
        have hv := fk ρ hS 1 v e1 h2 (by omega)
        exact (tb_lit _ _))
    · exact leaf61 w hv rfl hr q4 fun ρ hS e1 => (by
        have hv := fk ρ hS 1 v e1 h2 (by omega)
        exact (tb_cat (tb_lit _ _) hv))
    · exact leaf61 w hv rfl hr q5 fun ρ hS e1 => (by
        have hv := fk ρ hS 1 v e1 h2 (by omega)
        exact (tb_lit _ _))
end Txt
end Go.Proofs.YtagdcclpibjfoaaDoor
