/-
  Bounds (4): the laws BoundTells and BoundRooms, walked.
-/
import Derived.Test.YthifhdckfcgbkaaGreatBd1
import Derived.Test.YthifhdckfcgbkaaGreatBd3
namespace Go.Proofs.YthifhdckfcgbkaaGreat
open Go.Vm

def GB : GP := fun _ _ _ _ F => F 1 = wordsF ∧ (∀ x, F 2 x 0 = stepsF x) ∧ F 3 = roomF
def βB (w : World) : Base := ⟨w, [], GB⟩
def spB : CallF := spL [(9, spTrue), (10, spI1 2), (11, spI1 2), (12, spI2 1), (13, spI2 1), (14, spI2 3), (15, spI2 3)]
theorem spB_ok (w : World) : CallOk Tryz.prog (βB w) spB := by
  refine spL_ok fun p hp => ?_
  simp only [List.mem_cons, List.not_mem_nil, or_false] at hp
  rcases hp with rfl | rfl | rfl | rfl | rfl | rfl | rfl
  · exact spTrue_ok first29
  · exact spI1_ok steps fun _ _ _ _ _ h => h.2.1
  · exact spI1_ok rsteps fun _ _ _ _ _ h => h.2.1
  · exact spI2_ok words fun _ _ _ _ _ h => h.1
  · exact spI2_ok rwords fun _ _ _ _ _ h => h.1
  · exact spI2_ok room fun _ _ _ _ _ h => h.2.2
  · exact spI2_ok rroom fun _ _ _ _ _ h => h.2.2
def FB : Nat → Int → Int → Int
  | 1 => wordsF
  | 2 => fun x _ => stepsF x
  | _ => roomF
def ρB (x y z : Int) : Env := envOf [0, 0, 0, 0, 0, 0, 0, 0, 0, 0, x, y, z] [] FB

theorem run3 : (run Tryz.prog [] spB 4000 false 3 (entry Tryz.f3 (Tryz.f3.body.getD .ret) [iv 10, iv 11] .leaf 0 [])).map (·.all (leafB (.lit true))) = some true := by kernel_rfl
theorem tells_walk (w : World) (x y : Int) : Calls Tryz.prog 3 #[.int .i64 x, .int .i64 y] w (fun e w' => e = .returned (.bool true) ∧ Framed w w') :=
  calls_true (β := βB w) (ρ := ρB x y 0) noExt (spB_ok w) rfl Tryz.func3 rfl run3 rfl (HRel.startG w _ (fun _ => rfl) ⟨rfl, fun _ => rfl, rfl⟩) (fun _ h => by cases h)

def cC : IT := .cv .i64 (.var 10)
def cS : IT := .cv .i64 (.var 11)
def cK : IT := .cv .i64 (.var 12)
def cN : IT := .fn 3 cC cS
def up1 (t : IT) : IT := .bin .add .i64 t (.lit 1)
def roomsCs (b : Bool) : Cs := (.cmp .geq cN (.lit 0), b) :: (cond b [(.cmp .gtr (.fn 1 cN cS) cC, false)] [] ++ [(.cmp .leq (.fn 1 (up1 cN) cS) cC, false), (.cmp .lss (.fn 2 cK (.lit 0)) (.fn 2 (up1 cK) (.lit 0)), true),
  (.cmp .lss (.fn 1 cK cS) (.fn 1 (up1 cK) cS), true), (.cmp .lss (.fn 1 cK cS) (.fn 1 cK (up1 cS)), true)])
def roomsArgs : List AVal := [.int .u16 (.var 10), .int .u16 (.var 11), .int .u8 (.var 12)]
noncomputable def runR (b : Bool) : Option Bool := (run Tryz.prog [] spB 4000 false 4 (entry Tryz.f4 (Tryz.f4.body.getD .ret) roomsArgs .leaf 0 (roomsCs b))).map (·.all (leafB (.lit true)))
theorem runR_t : runR true = some true := by kernel_rfl
theorem runR_f : runR false = some true := by kernel_rfl

theorem words0 {s : Int} (h : 0 ≤ s) (h2 : s ≤ 65535) (k : Int) (hk : 0 ≤ k) (hk2 : k ≤ 1000) : wordsF k s = 400 * k * k + 16 * s + 8 := by
  unfold wordsF; rw [cl_mid (x := k) (by omega) (by omega), cl_mid (x := s) (by omega) (by omega)]
/-- What room is, where the words are few. -/
theorem room_is {c s : Int} (h0 : 0 ≤ c) (h1 : c ≤ 65535) (h2 : 0 ≤ s) (h3 : s ≤ 65535) : -1 ≤ roomF c s ∧ roomF c s < 1000 ∧ (roomF c s ≥ 0 → wordsF (roomF c s) s ≤ c) ∧ wordsF (roomF c s + 1) s > c := by
  have key : ∀ k : Nat, k ≤ 1000 → wordsF ((k : Int) + 1) s > c ∨ k = 1000 → -1 ≤ roomD c s k ∧ roomD c s k ≤ k ∧ (roomD c s k ≥ 0 → wordsF (roomD c s k) s ≤ c) ∧ (roomD c s k = 1000 ∨ wordsF (roomD c s k + 1) s > c) := by
    intro k
    induction k with
    | zero =>
      intro _ hu
      unfold roomD
      split
      · rename_i h
        exact ⟨by omega, by omega, fun _ => h, .inr (hu.elim id fun e => absurd e (by decide))⟩
      · rename_i h
        exact ⟨by omega, by omega, fun h => by omega, .inr (by simp; omega)⟩
    | succ k ih =>
      intro hk hu
      unfold roomD
      split
      · rename_i h
        refine ⟨by omega, by omega, fun _ => h, ?_⟩
        rcases hu with hu | hu
        · exact .inr hu
        · exact .inl (by omega)
      · rename_i h
        have := ih (by omega) (.inl (by have : ((k + 1 : Nat) : Int) = (k : Int) + 1 := by omega
                                        rw [this] at h; omega))
        exact ⟨this.1, by omega, this.2.2.1, this.2.2.2⟩
  obtain ⟨a, b, d, e⟩ := key 1000 (by omega) (.inr rfl)
  have hne : roomF c s ≠ 1000 := fun he => by
    have : wordsF (roomF c s) s ≤ c := d (by show roomF c s ≥ 0; omega)
    rw [he, words0 h2 h3 1000 (by omega) (by omega)] at this
    omega
  refine ⟨a, ?_, d, ?_⟩
  · have : roomF c s ≤ 1000 := b
    omega
  · rcases e with e | e
    · exact absurd e hne
    · exact e
theorem rooms_walk (w : World) (x y z : Int) (hx : 0 ≤ x) (hx2 : x ≤ 65535) (hy : 0 ≤ y) (hy2 : y ≤ 65535) (hz : 0 ≤ z) (hz2 : z ≤ 255) : Calls Tryz.prog 4 #[.int .u16 x, .int .u16 y, .int .u8 z] w (fun e w' => e = .returned (.bool true) ∧ Framed w w') := by
  obtain ⟨r1, r2, r3, r4⟩ := room_is hx hx2 hy hy2
  have ex : IntKind.i64.wrap x = x := wrap_ok (by omega) (by omega)
  have ey : IntKind.i64.wrap y = y := wrap_ok (by omega) (by omega)
  have ez : IntKind.i64.wrap z = z := wrap_ok (by omega) (by omega)
  have dC : cC.den (ρB x y z) = some x := congrArg some ex
  have dS : cS.den (ρB x y z) = some y := congrArg some ey
  have dK : cK.den (ρB x y z) = some z := congrArg some ez
  have dN : cN.den (ρB x y z) = some (roomF x y) := by simp only [cN, IT.den, dC, dS]; rfl
  have dU : ∀ {t : IT} {v : Int}, t.den (ρB x y z) = some v → -1 ≤ v → v ≤ 65535 → (up1 t).den (ρB x y z) = some (v + 1) := fun h h1 h2 => by
    simp only [up1, IT.den, h, intBin]
    rw [wrap_ok (by omega) (by omega)]
  have dN1 := dU dN r1 (by omega)
  have dK1 := dU dK (by omega) (by omega)
  have dS1 := dU dS (by omega) (by omega)
  have st : stepsF z < stepsF (z + 1) := by unfold stepsF; rw [cl_mid (x := z) (by omega) (by omega), cl_mid (x := z + 1) (by omega) (by omega)]; omega
  have wk : wordsF z y < wordsF (z + 1) y := by
    rw [words0 hy hy2 z hz (by omega), words0 hy hy2 (z + 1) (by omega) (by omega)]
    have e1 : 400 * (z + 1) * (z + 1) = 400 * z * z + 800 * z + 400 := by rw [Int.mul_add, Int.mul_add, Int.add_mul]; omega
    omega
  have ws : wordsF z y < wordsF z (y + 1) := by
    unfold wordsF; rw [cl_mid (x := y) (by omega) (by omega), cl_mid (x := y + 1) (by omega) (by omega)]; omega
  have rest : CRel (ρB x y z) [(.cmp .leq (.fn 1 (up1 cN) cS) cC, false), (.cmp .lss (.fn 2 cK (.lit 0)) (.fn 2 (up1 cK) (.lit 0)), true), (.cmp .lss (.fn 1 cK cS) (.fn 1 (up1 cK) cS), true), (.cmp .lss (.fn 1 cK cS) (.fn 1 cK (up1 cS)), true)] := by
    simp only [CRel_cons, CRel_nil, and_true]
    refine ⟨?_, ?_, ?_, ?_⟩
    · simp only [BT.den, IT.den, dN1, dS, dC, intCmp, Option.some.injEq, decide_eq_false_iff_not]
      show ¬ wordsF (roomF x y + 1) y ≤ x
      omega
    · simp only [BT.den, IT.den, dK, dK1, intCmp, Option.some.injEq, decide_eq_true_eq]
      exact st
    · simp only [BT.den, IT.den, dK, dK1, dS, intCmp, Option.some.injEq, decide_eq_true_eq]
      exact wk
    · simp only [BT.den, IT.den, dK, dS1, dS, intCmp, Option.some.injEq, decide_eq_true_eq]
      exact ws
  have hge : ∀ b : Bool, decide (roomF x y ≥ 0) = b → (BT.cmp .geq cN (.lit 0)).den (ρB x y z) = some b := fun b h => by simp only [BT.den, dN, IT.den, intCmp, h]
  by_cases h : roomF x y ≥ 0
  · refine calls_true (β := βB w) (ρ := ρB x y z) noExt (spB_ok w) rfl Tryz.func4 rfl runR_t rfl (HRel.startG w _ (fun _ => rfl) ⟨rfl, fun _ => rfl, rfl⟩) ?_
    refine CRel_cons.2 ⟨hge true (by simpa using h), CRel_cons.2 ⟨?_, rest⟩⟩
    simp only [BT.den, IT.den, dN, dS, dC, intCmp, Option.some.injEq, decide_eq_false_iff_not]
    show ¬ wordsF (roomF x y) y > x
    have := r3 h; omega
  · refine calls_true (β := βB w) (ρ := ρB x y z) noExt (spB_ok w) rfl Tryz.func4 rfl runR_f rfl (HRel.startG w _ (fun _ => rfl) ⟨rfl, fun _ => rfl, rfl⟩) ?_
    exact CRel_cons.2 ⟨hge false (by simpa using h), rest⟩

end Go.Proofs.YthifhdckfcgbkaaGreat
