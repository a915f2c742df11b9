/-
  Pace (6): PaceLatest answers true, for every argument.
-/
import Derived.Test.YtighjgmgpphohaaPc5
namespace Go.Proofs.Ytighjgmgpphohaa
open Go.Vm Go.RowKit Go.Lib

def envP (M N ov cv op cp bv bp : Nat) (V0 V1 V9 : Value) : Env := ⟨fun i => if i = 20 then N else if i = 21 then M else if i = 30 then ov else if i = 31 then cv else if i = 32 then op else if i = 33 then cp else 0, fun _ => false, fun _ => default, fun i => if i = 0 then V0 else if i = 9 then V9 else V1, fun i => if i = 0 then some bv else if i = 1 then some bp else none, F0⟩
def vArg (z : Zv) (bv ov M cv : Nat) : Value := z.pick (.slice (some ⟨bv, ov, none⟩) M cv) (.slice none 0 0) (.slice (some ⟨bv, ov, none⟩) 0 cv)
section
variable {M N ov cv op cp bv bp : Nat} {V0 V1 V9 : Value}
theorem va_den (z : Zv) : (va z).den (envP M N ov cv op cp bv bp V0 V1 V9) = some (vArg z bv ov M cv) := by
  cases z with
  | row => exact den_slice_of rfl rfl rfl rfl
  | nil => rfl
  | zero => exact den_slice_of (n := 0) rfl rfl rfl rfl
theorem hN_P : ∀ i, 2 ≤ i → (envP M N ov cv op cp bv bp V0 V1 V9).N i = none := fun i hi => by
  show (if i = 0 then some bv else if i = 1 then some bp else none) = none
  rw [if_neg (by omega), if_neg (by omega)]
theorem leafP (W : World) : HRel (.plain W) (envP M N ov cv op cp bv bp V0 V1 V9) .leaf 2 W := HRel.ro [] (fun _ h => by cases h) hN_P trivial
theorem latest_walk (W : World) (z : Zv) (hz : z ≠ .row → M = 0) (hv : z = .row → RowAt W bv ov [.u64] M V0) (hp : N = 0 ∨ RowAt W bp op [.u8] N V1) :
    Calls Try.prog 3 #[vArg z bv ov M cv, .slice (some ⟨bp, op, none⟩) N cp] W (fun e w' => e = .returned (.bool true) ∧ Framed W w') := by
  have e21 : ∀ V9, (IT.var 21).den (envP M N ov cv op cp bv bp V0 V1 V9) = some (M : Int) := fun _ => rfl
  have e20 : ∀ V9, (IT.var 20).den (envP M N ov cv op cp bv bp V0 V1 V9) = some (N : Int) := fun _ => rfl
  have hxp : (picA).den (envP M N ov cv op cp bv bp V0 V1 .nilFunc) = some (.slice (some ⟨bp, op, none⟩) N cp) := den_slice_of rfl rfl rfl rfl
  rcases Nat.lt_or_ge 50 M with hM | hM
  · obtain rfl : z = .row := Classical.byContradiction fun h => by have := hz h; omega
    exact calls_true (β := .plain W) (ρ := envP M N ov cv op cp bv bp V0 V1 (.slice (some ⟨bp, op, none⟩) N cp)) noExt sp3_ok rfl Try.func3 rfl pBigV (denL2 (va_den .row) rfl) (leafP W) (c1 (gtrT (e21 _) (litD 50) (by omega)) c0)
  have hm := c1 (gtrF (e21 .nilFunc) (litD 50) (by omega)) (c0 (ρ := envP M N ov cv op cp bv bp V0 V1 .nilFunc))
  rcases Nat.eq_zero_or_pos N with rfl | hN
  · exact calls_true (β := .plain W) (ρ := envP M 0 ov cv op cp bv bp V0 V1 .nilFunc) noExt sp3_ok rfl Try.func3 rfl (pZero z) (denL2 (va_den z) (den_slice_of rfl rfl rfl rfl)) (leafP W) hm
  rcases Nat.lt_or_ge 200 N with hN2 | hN2
  · exact calls_true (β := .plain W) (ρ := envP M N ov cv op cp bv bp V0 V1 .nilFunc) noExt sp3_ok rfl Try.func3 rfl (pBigP z) (denL2 (va_den z) hxp) (leafP W) (c1 (gtrF (e21 _) (litD 50) (by omega)) (c1 (gtrT (e20 _) (litD 200) (by omega)) c0))
  have hp := hp.resolve_left (by omega)
  have hr : HRel (.plain W) (envP M N ov cv op cp bv bp V0 V1 .nilFunc) (ofP (pH z)) 2 W := by
    refine HRel.ro (pL z) (fun p hpm => ?_) hN_P trivial
    have b1 : ∃ b o, (envP M N ov cv op cp bv bp V0 V1 .nilFunc).N 1 = some b ∧ W.heap[b]? = some o ∧ picB.rel (envP M N ov cv op cp bv bp V0 V1 .nilFunc) false o := by
      obtain ⟨ob, h1, h2⟩ := RowAt.rel hp (ρ := envP M N ov cv op cp bv bp V0 V1 .nilFunc) (a := 1) rfl (e20 _) (off := .var 32) rfl 5
      exact ⟨bp, ob, rfl, h1, h2⟩
    cases z with
    | row =>
      simp only [pL, Zv.pick, List.mem_cons, List.not_mem_nil, or_false] at hpm
      rcases hpm with rfl | rfl
      · obtain ⟨ob, h1, h2⟩ := RowAt.rel (hv rfl) (ρ := envP M N ov cv op cp bv bp V0 V1 .nilFunc) (a := 0) rfl (e21 _) (off := .var 30) rfl 32
        exact ⟨bv, ob, rfl, h1, h2⟩
      · exact b1
    | nil =>
      simp only [pL, Zv.pick, List.mem_cons, List.not_mem_nil, or_false] at hpm
      subst hpm; exact b1
    | zero =>
      simp only [pL, Zv.pick, List.mem_cons, List.not_mem_nil, or_false] at hpm
      subst hpm; exact b1
  have j0 : Jp M N 0 0 (envP M N ov cv op cp bv bp V0 V1 .nilFunc) → True := fun _ => trivial
  have cs : CRel (envP M N ov cv op cp bv bp V0 V1 .nilFunc) csP := c1 (gtrF (e21 _) (litD 50) (by omega)) (c1 (gtrF (e20 _) (litD 200) (by omega)) (c1 (geqT (e20 _) (litD 1) (by omega)) (c1 (leqT (e20 _) (litD 1000000) (by omega)) c0)))
  refine (calls_sumsD (β := .plain W) (Q := QT) (Ts := Ts z) (g := gP) (pl := true) noCount noExt sp3_ok follows rfl Try.func3 rfl (pE z) (denL2 (va_den z) hxp) hr cs (one (nextS (T := T0 z) rfl fun ρ' hle hG' => ?_))).mono fun e w' ⟨v, he, hv, hf⟩ => ⟨by rw [he, hv], hf⟩
  have j : Jp M N 0 0 ((sE z).app ρ') := by
    refine ⟨sbI (t := .var 20) (by cases z <;> rfl) (varD (by rw [hle.i]; rfl)), ?_, sbI (t := .lit 0) (by cases z <;> rfl) rfl, sbI (t := .lit 0) (by cases z <;> rfl) rfl, Nat.zero_le _, hN, hN2, hM, Nat.zero_le _⟩
    have e : ρ'.I 21 = (M : Int) := by rw [hle.i]; rfl
    cases z with
    | row => exact sbI (t := .var 21) rfl (varD e)
    | nil => rw [app_I (show lk (sE .nil).I 21 = none from rfl)]; exact e
    | zero => rw [app_I (show lk (sE .zero).I 21 = none from rfl)]; exact e
  exact ⟨trivial, j.cs, fun a w' r => loopP0 W hz _ ⟨0, 0, j⟩ _ a w' (.inr rfl) r⟩
theorem latest_nil (W : World) (z : Zv) (hz : z ≠ .row → M = 0) : Calls Try.prog 3 #[vArg z bv ov M cv, .slice none 0 0] W (fun e w' => e = .returned (.bool true) ∧ Framed W w') := by
  have e21 : ∀ V9, (IT.var 21).den (envP M 0 ov cv 0 0 bv 0 undef undef V9) = some (M : Int) := fun _ => rfl
  rcases Nat.lt_or_ge 50 M with hM | hM
  · obtain rfl : z = .row := Classical.byContradiction fun h => by have := hz h; omega
    exact calls_true (β := .plain W) (ρ := envP M 0 ov cv 0 0 bv 0 undef undef (.slice none 0 0)) noExt sp3_ok rfl Try.func3 rfl pBigV (denL2 (va_den .row) rfl) (leafP W) (c1 (gtrT (e21 _) (litD 50) (by omega)) c0)
  · exact calls_true (β := .plain W) (ρ := envP M 0 ov cv 0 0 bv 0 undef undef .nilFunc) noExt sp3_ok rfl Try.func3 rfl (pNil z) (denL2 (va_den z) rfl) (leafP W) (c1 (gtrF (e21 _) (litD 50) (by omega)) c0)
end
end Go.Proofs.Ytighjgmgpphohaa
