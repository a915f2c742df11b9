/- The law (18): PaceCounts: its loop, for frees and for lays. -/
import Derived.Test.YtighjgmgpphohaaLa7
namespace Go.Proofs.Ytighjgmgpphohaa
open Go.Vm Go.Vm.Le Go.Vm.Mb
namespace La
open Ar (iV uV pT pT_den)
open Gr (RowsW LenV add_den getD0 keep_app2)
variable {w : World}
section
variable (R1 R2 : RowsW false w) (X Y : LenV) (m : Nat) (hsp : CallOk Try.prog ⟨w, noO, G5 R1 R2 X Y m⟩ sp5')
include hsp
theorem loop_F {n : Nat} (hn : n <= 1000000) : ∀ k ρ, JF n k ρ -> ∀ todo a w', todo = .inLoop cb0 :: ck0 ∨ todo = .code (.loop cb0) :: ck0 -> SRel ⟨w, noO, G5 R1 R2 X Y m⟩ ρ ((TF k).st todo) a w' -> Goes Try.prog 5 (R5 w) todo a w' := by
 refine loop_goesH2 (β := ⟨w, noO, G5 R1 R2 X Y m⟩) (g := g5) (L := []) (n := 4000) noCount noExt hsp follows TF (JF n) (mu n) (fun k ρ hJ hH hcs hG ih => ?_)
 cases k with
 | a =>
  obtain ⟨h1, hn1⟩ := hJ
  have e1 : ∀ {ρ'}, ρ.Le ρ' -> (IT.var 211).den ρ' = some (n : Int) := fun hle => by show some _ = _; rw [hle.i, h1]
  obtain ⟨w1, hh⟩ := hH
  obtain ⟨m', c, hm', hc, hmc⟩ := hh.room (l := 12) (t := .code [.u64] (.var 219)) (ks := [.u64]) (e := 32) (an := .var 211) (off := .lit 0) (cp := .nv 1) (rw := true) rfl (by simp)
  obtain rfl : m' = n := Int.ofNat.inj (Option.some.inj (hm'.symm.trans (e1 (Env.Le.refl ρ))))
  by_cases hb : 1 < m'
  · refine ⟨true, e5, tsF, _, s_F1t, f1_ok h1 (e1 (Env.Le.refl ρ)) hn1 (decide_eq_true hb), r_F1t, fun s hs => ?_⟩
    simp only [s_F1t, List.mem_cons, List.not_mem_nil, or_false] at hs
    subst hs
    refine ⟨trivial, fun ρ' hle hc' T hT hG' => ?_⟩
    obtain rfl : tF2 = T := Option.some.inj hT
    have hMid : ∀ ρ2 : Env, ρ2.I 211 = ρ'.I 211 -> ρ2.I 218 = 1 -> _ -> _ -> _ -> Mid m' 1 c ρ2 := fun ρ2 q1 q2 q3 q4 q5 => Mid.first (e1 hle) (IT.den_mono hle hc) hmc hb hn (by rw [q1, hle.i, h1]) q2 q3 q4 q5
    refine ⟨keep_app2 (G5_keep R1 R2 X Y m) rfl hG', CRel_nil.2 trivial, fun a w' r => ih .b _ ?_ ?_ _ a w' (.inl rfl) r⟩
    · show m' + 1 - (1 : Int).toNat < m' + 2
      omega
    · exact ⟨1, c, hMid _ rfl rfl rfl rfl rfl⟩
  · refine ⟨true, e5, tsF, _, s_F1f, f1_ok h1 (e1 (Env.Le.refl ρ)) hn1 (decide_eq_false hb), r_F1f, fun s hs => ?_⟩
    simp only [s_F1f, List.mem_cons, List.not_mem_nil, or_false] at hs
    subst hs
    refine ⟨trivial, fun ρ' hle hc' T hT hG' => ?_⟩
    obtain rfl : tFD = T := Option.some.inj hT
    obtain rfl : m' = 1 := by omega
    have hJ' : ∀ ρ2 : Env, ρ2.I 211 = ρ'.I 211 -> ρ2.I 218 = 1 -> JF 1 .d ρ2 := fun ρ2 q1 q2 => ⟨by rw [q1, hle.i, h1], q2⟩
    refine ⟨keep_app2 (G5_keep R1 R2 X Y m) rfl hG', CRel_nil.2 trivial, fun a w' r => ih .d _ ?_ ?_ _ a w' (.inl rfl) r⟩
    · show 0 < 1 + 2
      omega
    · exact (hJ' _ rfl rfl)
 | b =>
  obtain ⟨i, c, hM⟩ := hJ
  have e1 : ∀ {ρ'}, ρ.Le ρ' -> (IT.var 211).den ρ' = some (n : Int) := fun hle => by show some _ = _; rw [hle.i, hM.hN]
  have e2 : ∀ {ρ'}, ρ.Le ρ' -> (IT.bin .add .i64 (.var 218) (.lit 1)).den ρ' = some ((i + 1 : Nat) : Int) := fun hle => add_den (show _ = some (i : Int) by show some _ = _; rw [hle.i, hM.hI]) (y := 1) rfl (by have := hM.lt; omega)
  have l1 := hM.lt
  have l2 := hM.i1
  by_cases hb : 1 < n - i
  · refine ⟨true, e5, tsF, _, s_F2t, f2F_ok hM (e1 (Env.Le.refl ρ)) (decide_eq_true hb), r_F2t, fun s hs => ?_⟩
    simp only [s_F2t, List.mem_cons, List.not_mem_nil, or_false] at hs
    subst hs
    refine ⟨trivial, fun ρ' hle hc' T hT hG' => ?_⟩
    obtain rfl : tF2 = T := Option.some.inj hT
    have hMid : ∀ ρ2 : Env, _ -> _ -> _ -> _ -> _ -> Mid n (i + 1) c ρ2 := fun ρ2 q1 q2 q3 q4 q5 => Mid.next (ρ2 := ρ2) hM hle hb q1 q2 q3 q4 q5
    refine ⟨keep_app2 (G5_keep R1 R2 X Y m) rfl hG', CRel_nil.2 trivial, fun a w' r => ih .b _ ?_ ?_ _ a w' (.inl rfl) r⟩
    · show n + 1 - (((IT.bin .add .i64 (.var 218) (.lit 1)).den ρ').getD 0).toNat < n + 1 - (ρ.I 218).toNat
      rw [getD0 (e2 hle), hM.hI]; omega
    · exact ⟨i + 1, c, hMid _ rfl rfl rfl rfl rfl⟩
  · refine ⟨true, e5, tsF, _, s_F2f, f2F_ok hM (e1 (Env.Le.refl ρ)) (decide_eq_false hb), r_F2f, fun s hs => ?_⟩
    simp only [s_F2f, List.mem_cons, List.not_mem_nil, or_false] at hs
    subst hs
    refine ⟨trivial, fun ρ' hle hc' T hT hG' => ?_⟩
    obtain rfl : tFD = T := Option.some.inj hT
    have hJ' : ∀ ρ2 : Env, ρ2.I 211 = ρ'.I 211 -> ρ2.I 218 = ((i + 1 : Nat) : Int) -> JF n .d ρ2 := fun ρ2 q1 q2 => ⟨by rw [q1, hle.i, hM.hN], by rw [q2]; exact congrArg (fun k : Nat => (k : Int)) (by omega)⟩
    refine ⟨keep_app2 (G5_keep R1 R2 X Y m) rfl hG', CRel_nil.2 trivial, fun a w' r => ih .d _ ?_ ?_ _ a w' (.inl rfl) r⟩
    · show 0 < n + 1 - (ρ.I 218).toNat
      rw [hM.hI]; omega
    · exact (hJ' _ rfl (getD0 (e2 hle)))
 | n =>
  obtain ⟨h1, h2⟩ := hJ
  refine ⟨true, e5, tsF, _, s_dFn, fL_ok h1 h2 (decide_eq_false (Nat.lt_irrefl _)), r_dFn, fun s hs => ?_⟩
  simp only [s_dFn, List.mem_cons, List.not_mem_nil, or_false] at hs
  subst hs
  exact done_5 rfl
 | z =>
  obtain ⟨h1, h2⟩ := hJ
  refine ⟨true, e5, tsF, _, s_dFz, fL_ok h1 h2 (decide_eq_false (Nat.lt_irrefl _)), r_dFz, fun s hs => ?_⟩
  simp only [s_dFz, List.mem_cons, List.not_mem_nil, or_false] at hs
  subst hs
  exact done_5 rfl
 | d =>
  obtain ⟨h1, h2⟩ := hJ
  refine ⟨true, e5, tsF, _, s_dFD, fL_ok h1 h2 (decide_eq_false (Nat.lt_irrefl _)), r_dFD, fun s hs => ?_⟩
  simp only [s_dFD, List.mem_cons, List.not_mem_nil, or_false] at hs
  subst hs
  exact done_5 rfl
end
inductive Hl | a | b | n | e | d
def TL : Hl -> Tpl
 | .a => tL1 | .b => tL2 | .n => tLn | .e => tLE | .d => tLD
def K2 (ρ : Env) : Prop := kT.den ρ = some 2
def JL (n : Nat) : Hl -> Env -> Prop
 | .a, ρ => K2 ρ /\ ρ.I 211 = (n : Int) /\ 1 <= n /\ (decL (ρ.I 219)).tail.length = n /\ ∃ c : Nat, (decL (ρ.I 219)).getD 0 0 = (c : Int) /\ n <= c
 | .b, ρ => K2 ρ /\ (decL (ρ.I 219)).tail.length = n /\ ∃ i c, Mid n i c ρ /\ ρ.I 216 = (i : Int)
 | .n, ρ => K2 ρ /\ ρ.I 211 = (n : Int) /\ ρ.I 218 = (n : Int)
 | .e, ρ => K2 ρ /\ ρ.I 211 = (n : Int) /\ 1 <= n /\ ρ.I 218 = 1 /\ ρ.I 209 ≠ 0
 | .d, ρ => K2 ρ /\ ρ.I 211 = (n : Int) /\ (ρ.I 218 = (n : Int) ∨ ρ.I 209 ≠ 0 /\ ∃ i : Nat, 2 <= i /\ i <= n /\ ρ.I 218 = (i : Int) /\ ρ.I 216 = ((i - 1 : Nat) : Int))
def muL (n : Nat) : Hl -> Env -> Nat
 | .a, _ => n + 2
 | .b, ρ => n + 1 - (ρ.I 218).toNat
 | _, _ => 0
theorem fk2_ok {ρ : Env} (h : K2 ρ) : CRel ρ fk2 :=
 c1 (eqlF h (litD 0) (by omega)) (c1 (eqlF h (litD 1) (by omega)) (c1 (eqlT h (litD 2) rfl) (CRel_nil.2 trivial)))
theorem eqF_inv {ρ : Env} {t : IT} (h : (BT.cmp .eql t (.lit 0)).den ρ = some false) : (t.den ρ).getD 0 ≠ 0 := by
 cases hp : t.den ρ with
 | none => simp only [BT.den, hp] at h; cases h
 | some z =>
  rw [cmpD hp (litD 0)] at h
  simpa [intCmp] using h
theorem sub_den {ρ : Env} {t : IT} {i : Nat} (h : t.den ρ = some (i : Int)) (h1 : 1 <= i) (h2 : i <= 1000000) : (IT.bin .sub .i64 t (.lit 1)).den ρ = some ((i - 1 : Nat) : Int) := by
 rw [binD h (litD 1)]
 show some (IntKind.i64.wrap _) = _
 rw [wrapI (by omega) (by omega)]
 exact congrArg some (by omega)
theorem K2_move {ρ ρ2 : Env} (h : K2 ρ) (e : ρ2.I 67 = ρ.I 67) : K2 ρ2 := by
 unfold K2 kT at h ⊢
 simp only [IT.den] at h ⊢
 rw [e]; exact h
section
variable (R1 R2 : RowsW false w) (X Y : LenV) (m : Nat) (hsp : CallOk Try.prog ⟨w, noO, G5 R1 R2 X Y m⟩ sp5')
include hsp
theorem loop_L {n : Nat} (hn : n <= 1000000) : ∀ k ρ, JL n k ρ -> ∀ todo a w', todo = .inLoop cb0 :: ck0 ∨ todo = .code (.loop cb0) :: ck0 -> SRel ⟨w, noO, G5 R1 R2 X Y m⟩ ρ ((TL k).st todo) a w' -> Goes Try.prog 5 (R5 w) todo a w' := by
 refine loop_goesH2 (β := ⟨w, noO, G5 R1 R2 X Y m⟩) (g := g5) (L := []) (n := 4000) noCount noExt hsp follows TL (JL n) (muL n) (fun k ρ hJ hH hcs hG ih => ?_)
 have g93 : ρ.F 93 = fNb := hG.2.2.1
 cases k with
 | a =>
  obtain ⟨hK, h1, hn1, hnb, c, hcp, hmc⟩ := hJ
  have e1 : ∀ {ρ'}, ρ.Le ρ' -> (IT.var 211).den ρ' = some (n : Int) := fun hle => by show some _ = _; rw [hle.i, h1]
  have eN : ∀ {ρ'}, ρ.Le ρ' -> (nbT (.var 219)).den ρ' = some (n : Int) := fun hle => by rw [nbT, fnD (x := ρ.I 219) (by show some _ = _; rw [hle.i]) (litD 0), hle.f, g93, fNb, hnb]
  have eC : ∀ {ρ'}, ρ.Le ρ' -> (capT (.var 219)).den ρ' = some (c : Int) := fun hle => by
   rw [capT, unD (x := ρ.I 219) (by show some _ = _; rw [hle.i]) (litD 0), <- hcp]; rfl
  have hI1 : CRel ρ fI1 := c1 (lssT (elemD (sz := 1) (j := 0) (litD (ρ := ρ) ((0 : Nat) : Int)) (litD (ρ := ρ) ((0 : Nat) : Int))) (eN (Env.Le.refl ρ)) (by omega)) (CRel_nil.2 trivial)
  have toE : ∀ {ρ' : Env} {t : IT} {cs : Cs}, ρ.Le ρ' -> CRel ρ' ((BT.cmp .eql t (.lit 0), false) :: cs) -> ∀ ρ2 : Env, ρ2.I 67 = ρ'.I 67 -> ρ2.I 211 = ρ'.I 211 -> ρ2.I 218 = 1 -> ρ2.I 209 = (t.den ρ').getD 0 -> JL n .e ρ2 := fun {ρ' t cs} hle hc' ρ2 q1 q2 q3 q4 =>
   ⟨K2_move hK (by rw [q1, hle.i]), by rw [q2, hle.i, h1], hn1, q3, by rw [q4]; exact eqF_inv (hc' _ List.mem_cons_self)⟩
  by_cases hb : 1 < n
  · have toB : ∀ {ρ' : Env}, ρ.Le ρ' -> ∀ ρ2 : Env, ρ2.I 67 = ρ'.I 67 -> ρ2.I 219 = ρ'.I 219 -> ρ2.I 216 = 1 -> ρ2.I 211 = ρ'.I 211 -> ρ2.I 218 = 1 -> _ -> _ -> _ -> JL n .b ρ2 := fun {ρ'} hle ρ2 q1 q2 q3 q4 q5 q6 q7 q8 =>
     ⟨K2_move hK (by rw [q1, hle.i]), by rw [q2, hle.i, hnb], 1, c, Mid.first (eN hle) (eC hle) hmc hb hn (by rw [q4, hle.i, h1]) q5 q6 q7 q8, q3⟩
    refine ⟨true, e5, tsL, _, s_L1t, crel_app (crel_app (fk2_ok hK) hI1) (f1_ok h1 (eN (Env.Le.refl ρ)) hn1 (decide_eq_true hb)), r_L1t, fun s hs => ?_⟩
    simp only [s_L1t, List.mem_cons, List.not_mem_nil, or_false] at hs
    rcases hs with rfl | rfl | rfl | rfl
    · refine ⟨trivial, fun ρ' hle hc' T hT hG' => ?_⟩
      obtain rfl : tL2 = T := Option.some.inj hT
      refine ⟨keep_app2 (G5_keep R1 R2 X Y m) rfl hG', CRel_nil.2 trivial, fun a w' r => ih .b _ ?_ ?_ _ a w' (.inl rfl) r⟩
      · show n + 1 - (1 : Int).toNat < n + 2
        omega
      · exact toB hle _ rfl rfl rfl rfl rfl rfl rfl rfl
    · refine ⟨trivial, fun ρ' hle hc' T hT hG' => ?_⟩
      obtain rfl : tLE = T := Option.some.inj hT
      refine ⟨keep_app2 (G5_keep R1 R2 X Y m) rfl hG', CRel_nil.2 trivial, fun a w' r => ih .e _ ?_ ?_ _ a w' (.inl rfl) r⟩
      · show 0 < n + 2
        omega
      · exact toE hle hc' _ rfl rfl rfl rfl
    · refine ⟨trivial, fun ρ' hle hc' T hT hG' => ?_⟩
      obtain rfl : tL2 = T := Option.some.inj hT
      refine ⟨keep_app2 (G5_keep R1 R2 X Y m) rfl hG', CRel_nil.2 trivial, fun a w' r => ih .b _ ?_ ?_ _ a w' (.inl rfl) r⟩
      · show n + 1 - (1 : Int).toNat < n + 2
        omega
      · exact toB hle _ rfl rfl rfl rfl rfl rfl rfl rfl
    · refine ⟨trivial, fun ρ' hle hc' T hT hG' => ?_⟩
      obtain rfl : tLE = T := Option.some.inj hT
      refine ⟨keep_app2 (G5_keep R1 R2 X Y m) rfl hG', CRel_nil.2 trivial, fun a w' r => ih .e _ ?_ ?_ _ a w' (.inl rfl) r⟩
      · show 0 < n + 2
        omega
      · exact toE hle hc' _ rfl rfl rfl rfl
  · have hn2 : n = 1 := by omega
    have toD : ∀ {ρ' : Env}, ρ.Le ρ' -> ∀ ρ2 : Env, ρ2.I 67 = ρ'.I 67 -> ρ2.I 211 = ρ'.I 211 -> ρ2.I 218 = 1 -> JL n .d ρ2 := fun {ρ'} hle ρ2 q1 q2 q3 =>
     ⟨K2_move hK (by rw [q1, hle.i]), by rw [q2, hle.i, h1], .inl (by rw [q3, hn2]; rfl)⟩
    refine ⟨true, e5, tsL, _, s_L1f, crel_app (crel_app (fk2_ok hK) hI1) (f1_ok h1 (eN (Env.Le.refl ρ)) hn1 (decide_eq_false hb)), r_L1f, fun s hs => ?_⟩
    simp only [s_L1f, List.mem_cons, List.not_mem_nil, or_false] at hs
    rcases hs with rfl | rfl | rfl | rfl
    · refine ⟨trivial, fun ρ' hle hc' T hT hG' => ?_⟩
      obtain rfl : tLD = T := Option.some.inj hT
      refine ⟨keep_app2 (G5_keep R1 R2 X Y m) rfl hG', CRel_nil.2 trivial, fun a w' r => ih .d _ ?_ ?_ _ a w' (.inl rfl) r⟩
      · show 0 < n + 2
        omega
      · exact toD hle _ rfl rfl rfl
    · refine ⟨trivial, fun ρ' hle hc' T hT hG' => ?_⟩
      obtain rfl : tLE = T := Option.some.inj hT
      refine ⟨keep_app2 (G5_keep R1 R2 X Y m) rfl hG', CRel_nil.2 trivial, fun a w' r => ih .e _ ?_ ?_ _ a w' (.inl rfl) r⟩
      · show 0 < n + 2
        omega
      · exact toE hle hc' _ rfl rfl rfl rfl
    · refine ⟨trivial, fun ρ' hle hc' T hT hG' => ?_⟩
      obtain rfl : tLD = T := Option.some.inj hT
      refine ⟨keep_app2 (G5_keep R1 R2 X Y m) rfl hG', CRel_nil.2 trivial, fun a w' r => ih .d _ ?_ ?_ _ a w' (.inl rfl) r⟩
      · show 0 < n + 2
        omega
      · exact toD hle _ rfl rfl rfl
    · refine ⟨trivial, fun ρ' hle hc' T hT hG' => ?_⟩
      obtain rfl : tLE = T := Option.some.inj hT
      refine ⟨keep_app2 (G5_keep R1 R2 X Y m) rfl hG', CRel_nil.2 trivial, fun a w' r => ih .e _ ?_ ?_ _ a w' (.inl rfl) r⟩
      · show 0 < n + 2
        omega
      · exact toE hle hc' _ rfl rfl rfl rfl
 | b =>
  obtain ⟨hK, hnb, i, c, hM, h216⟩ := hJ
  have eN : ∀ {ρ'}, ρ.Le ρ' -> (nbT (.var 219)).den ρ' = some (n : Int) := fun hle => by rw [nbT, fnD (x := ρ.I 219) (by show some _ = _; rw [hle.i]) (litD 0), hle.f, g93, fNb, hnb]
  have e2 : ∀ {ρ'}, ρ.Le ρ' -> (IT.bin .add .i64 (.var 218) (.lit 1)).den ρ' = some ((i + 1 : Nat) : Int) := fun hle => add_den (show _ = some (i : Int) by show some _ = _; rw [hle.i, hM.hI]) (y := 1) rfl (by have := hM.lt; omega)
  have e6 : ∀ {ρ'}, ρ.Le ρ' -> (IT.bin .add .i64 (.var 216) (.lit 1)).den ρ' = some ((i + 1 : Nat) : Int) := fun hle => add_den (show _ = some (i : Int) by show some _ = _; rw [hle.i, h216]) (y := 1) rfl (by have := hM.lt; omega)
  have d216 : (IT.var 216).den ρ = some (i : Int) := by show some _ = _; rw [h216]
  have e3 : (IT.var 213).den ρ = some (i : Int) := by show some _ = _; rw [hM.hO]
  have l1 := hM.lt
  have l2 := hM.i1
  have hW : CRel ρ fW := c1 (leqT d216 (litD 1000000) (by omega)) (c1 (geqT d216 (litD 1) (by omega)) (CRel_nil.2 trivial))
  have hI2 : CRel ρ fI2 := c1 (lssT (elemD (sz := 1) (j := 0) (elemD (sz := 1) (j := 0) (litD (ρ := ρ) ((0 : Nat) : Int)) e3) (litD (ρ := ρ) ((0 : Nat) : Int))) (eN (Env.Le.refl ρ)) (by omega)) (CRel_nil.2 trivial)
  have toD : ∀ {ρ' : Env} {t : IT} {cs : Cs}, ρ.Le ρ' -> CRel ρ' ((BT.cmp .eql t (.lit 0), false) :: cs) -> ∀ ρ2 : Env, ρ2.I 67 = ρ'.I 67 -> ρ2.I 211 = ρ'.I 211 -> ρ2.I 218 = ((i + 1 : Nat) : Int) -> ρ2.I 216 = ρ'.I 216 -> ρ2.I 209 = (t.den ρ').getD 0 -> JL n .d ρ2 := fun {ρ' t cs} hle hc' ρ2 q1 q2 q3 q4 q5 =>
   ⟨K2_move hK (by rw [q1, hle.i]), by rw [q2, hle.i, hM.hN], .inr ⟨by rw [q5]; exact eqF_inv (hc' _ List.mem_cons_self), i + 1, by omega, by omega, q3, by rw [q4, hle.i, h216]; rfl⟩⟩
  by_cases hb : 1 < n - i
  · have toB : ∀ {ρ' : Env}, ρ.Le ρ' -> ∀ ρ2 : Env, ρ2.I 67 = ρ'.I 67 -> ρ2.I 219 = ρ'.I 219 -> ρ2.I 216 = ((i + 1 : Nat) : Int) -> _ -> _ -> _ -> _ -> _ -> JL n .b ρ2 := fun {ρ'} hle ρ2 q1 q2 q3 q4 q5 q6 q7 q8 =>
     ⟨K2_move hK (by rw [q1, hle.i]), by rw [q2, hle.i, hnb], i + 1, c, Mid.next (ρ2 := ρ2) hM hle hb q4 q5 q6 q7 q8, q3⟩
    refine ⟨true, e5, tsL, _, s_L2t, crel_app (crel_app (fk2_ok hK) hI2) (crel_app hW (f2F_ok hM (eN (Env.Le.refl ρ)) (decide_eq_true hb))), r_L2t, fun s hs => ?_⟩
    simp only [s_L2t, List.mem_cons, List.not_mem_nil, or_false] at hs
    rcases hs with rfl | rfl | rfl | rfl
    · refine ⟨trivial, fun ρ' hle hc' T hT hG' => ?_⟩
      obtain rfl : tL2 = T := Option.some.inj hT
      refine ⟨keep_app2 (G5_keep R1 R2 X Y m) rfl hG', CRel_nil.2 trivial, fun a w' r => ih .b _ ?_ ?_ _ a w' (.inl rfl) r⟩
      · show n + 1 - (((IT.bin .add .i64 (.var 218) (.lit 1)).den ρ').getD 0).toNat < n + 1 - (ρ.I 218).toNat
        rw [getD0 (e2 hle), hM.hI]; omega
      · exact toB hle _ rfl rfl (getD0 (e6 hle)) rfl rfl rfl rfl rfl
    · refine ⟨trivial, fun ρ' hle hc' T hT hG' => ?_⟩
      obtain rfl : tLD = T := Option.some.inj hT
      refine ⟨keep_app2 (G5_keep R1 R2 X Y m) rfl hG', CRel_nil.2 trivial, fun a w' r => ih .d _ ?_ ?_ _ a w' (.inl rfl) r⟩
      · show 0 < n + 1 - (ρ.I 218).toNat
        rw [hM.hI]; omega
      · exact toD hle hc' _ rfl rfl (getD0 (e2 hle)) rfl rfl
    · refine ⟨trivial, fun ρ' hle hc' T hT hG' => ?_⟩
      obtain rfl : tL2 = T := Option.some.inj hT
      refine ⟨keep_app2 (G5_keep R1 R2 X Y m) rfl hG', CRel_nil.2 trivial, fun a w' r => ih .b _ ?_ ?_ _ a w' (.inl rfl) r⟩
      · show n + 1 - (((IT.bin .add .i64 (.var 218) (.lit 1)).den ρ').getD 0).toNat < n + 1 - (ρ.I 218).toNat
        rw [getD0 (e2 hle), hM.hI]; omega
      · exact toB hle _ rfl rfl (getD0 (e6 hle)) rfl rfl rfl rfl rfl
    · refine ⟨trivial, fun ρ' hle hc' T hT hG' => ?_⟩
      obtain rfl : tLD = T := Option.some.inj hT
      refine ⟨keep_app2 (G5_keep R1 R2 X Y m) rfl hG', CRel_nil.2 trivial, fun a w' r => ih .d _ ?_ ?_ _ a w' (.inl rfl) r⟩
      · show 0 < n + 1 - (ρ.I 218).toNat
        rw [hM.hI]; omega
      · exact toD hle hc' _ rfl rfl (getD0 (e2 hle)) rfl rfl
  · have toL : ∀ {ρ' : Env}, ρ.Le ρ' -> ∀ ρ2 : Env, ρ2.I 67 = ρ'.I 67 -> ρ2.I 211 = ρ'.I 211 -> ρ2.I 218 = ((i + 1 : Nat) : Int) -> JL n .d ρ2 := fun {ρ'} hle ρ2 q1 q2 q3 =>
     ⟨K2_move hK (by rw [q1, hle.i]), by rw [q2, hle.i, hM.hN], .inl (by rw [q3]; exact congrArg (fun k : Nat => (k : Int)) (by omega))⟩
    refine ⟨true, e5, tsL, _, s_L2f, crel_app (crel_app (fk2_ok hK) hI2) (crel_app hW (f2F_ok hM (eN (Env.Le.refl ρ)) (decide_eq_false hb))), r_L2f, fun s hs => ?_⟩
    simp only [s_L2f, List.mem_cons, List.not_mem_nil, or_false] at hs
    rcases hs with rfl | rfl | rfl | rfl
    · refine ⟨trivial, fun ρ' hle hc' T hT hG' => ?_⟩
      obtain rfl : tLD = T := Option.some.inj hT
      refine ⟨keep_app2 (G5_keep R1 R2 X Y m) rfl hG', CRel_nil.2 trivial, fun a w' r => ih .d _ ?_ ?_ _ a w' (.inl rfl) r⟩
      · show 0 < n + 1 - (ρ.I 218).toNat
        rw [hM.hI]; omega
      · exact toL hle _ rfl rfl (getD0 (e2 hle))
    · refine ⟨trivial, fun ρ' hle hc' T hT hG' => ?_⟩
      obtain rfl : tLD = T := Option.some.inj hT
      refine ⟨keep_app2 (G5_keep R1 R2 X Y m) rfl hG', CRel_nil.2 trivial, fun a w' r => ih .d _ ?_ ?_ _ a w' (.inl rfl) r⟩
      · show 0 < n + 1 - (ρ.I 218).toNat
        rw [hM.hI]; omega
      · exact toD hle hc' _ rfl rfl (getD0 (e2 hle)) rfl rfl
    · refine ⟨trivial, fun ρ' hle hc' T hT hG' => ?_⟩
      obtain rfl : tLD = T := Option.some.inj hT
      refine ⟨keep_app2 (G5_keep R1 R2 X Y m) rfl hG', CRel_nil.2 trivial, fun a w' r => ih .d _ ?_ ?_ _ a w' (.inl rfl) r⟩
      · show 0 < n + 1 - (ρ.I 218).toNat
        rw [hM.hI]; omega
      · exact toL hle _ rfl rfl (getD0 (e2 hle))
    · refine ⟨trivial, fun ρ' hle hc' T hT hG' => ?_⟩
      obtain rfl : tLD = T := Option.some.inj hT
      refine ⟨keep_app2 (G5_keep R1 R2 X Y m) rfl hG', CRel_nil.2 trivial, fun a w' r => ih .d _ ?_ ?_ _ a w' (.inl rfl) r⟩
      · show 0 < n + 1 - (ρ.I 218).toNat
        rw [hM.hI]; omega
      · exact toD hle hc' _ rfl rfl (getD0 (e2 hle)) rfl rfl
 | n =>
  obtain ⟨hK, h1, h2⟩ := hJ
  refine ⟨true, e5, tsL, _, s_dLn, crel_app (fk2_ok hK) (fL_ok h1 h2 (decide_eq_false (Nat.lt_irrefl _))), r_dLn, fun s hs => ?_⟩
  simp only [s_dLn, List.mem_cons, List.not_mem_nil, or_false] at hs
  subst hs
  exact done_5 rfl
 | e =>
  obtain ⟨hK, h1, hn1, h2, h3⟩ := hJ
  have e2 : (IT.var 218).den ρ = some ((1 : Nat) : Int) := by show some _ = _; rw [h2]; rfl
  have e9 : (IT.var 209).den ρ = some (ρ.I 209) := rfl
  by_cases hb : 1 < n
  · refine ⟨true, e5, tsL, cLE, s_iLE, crel_app (crel_app (fk2_ok hK) (c1 (neqT e9 (litD 0) h3) (c1 (eqlT (litD 0) (sub_den e2 (by omega) (by omega)) rfl) (CRel_nil.2 trivial)))) (fL_ok h1 (i := 1) h2 (decide_eq_true hb)), r_iLE, fun s hs => ?_⟩
    simp only [s_iLE, List.mem_cons, List.not_mem_nil, or_false] at hs
    subst hs
    exact done_5 rfl
  · refine ⟨true, e5, tsL, _, s_dLE, crel_app (fk2_ok hK) (fL_ok h1 (i := 1) h2 (decide_eq_false hb)), r_dLE, fun s hs => ?_⟩
    simp only [s_dLE, List.mem_cons, List.not_mem_nil, or_false] at hs
    subst hs
    exact done_5 rfl
 | d =>
  obtain ⟨hK, h1, hd⟩ := hJ
  have last : ρ.I 218 = (n : Int) -> ∃ pl Rs Ts cs' sums, CRel ρ cs' /\ (run Try.prog [] sp5' 4000 pl 5 ((⟨(TL .d).tm, (TL .d).nt, (TL .d).H, (TL .d).nl, cs', (TL .d).dep⟩ : Tpl).st (.code cb0 :: .inLoop cb0 :: ck0))).map (·.filterMap (sumMO g5 [] Rs Ts)) = some sums /\ ∀ s ∈ sums, MGoodO Try.prog ⟨w, noO, G5 R1 R2 X Y m⟩ 5 (R5 w) Rs Ts ρ s := fun h2 => by
   refine ⟨true, e5, tsL, _, s_dLD, crel_app (fk2_ok hK) (fL_ok h1 h2 (decide_eq_false (Nat.lt_irrefl _))), r_dLD, fun s hs => ?_⟩
   simp only [s_dLD, List.mem_cons, List.not_mem_nil, or_false] at hs
   subst hs
   exact done_5 rfl
  rcases hd with h2 | ⟨h9, i, hi2, hin, h2, h6⟩
  · exact last h2
  · by_cases hb : i < n
    · have e2 : (IT.var 218).den ρ = some (i : Int) := by show some _ = _; rw [h2]
      have e6 : (IT.var 216).den ρ = some ((i - 1 : Nat) : Int) := by show some _ = _; rw [h6]
      have e9 : (IT.var 209).den ρ = some (ρ.I 209) := rfl
      refine ⟨true, e5, tsL, cLD, s_iLD, crel_app (crel_app (fk2_ok hK) (c1 (neqT e9 (litD 0) h9) (c1 (leqT e6 (litD 1000000) (by omega)) (c1 (geqT e6 (litD 1) (by omega)) (c1 (eqlT e6 (sub_den e2 (by omega) (by omega)) rfl) (CRel_nil.2 trivial)))))) (fL_ok h1 h2 (decide_eq_true hb)), r_iLD, fun s hs => ?_⟩
      simp only [s_iLD, List.mem_cons, List.not_mem_nil, or_false] at hs
      subst hs
      exact done_5 rfl
    · exact last (by rw [h2]; exact congrArg (fun k : Nat => (k : Int)) (by omega))
end
end La
end Go.Proofs.Ytighjgmgpphohaa
