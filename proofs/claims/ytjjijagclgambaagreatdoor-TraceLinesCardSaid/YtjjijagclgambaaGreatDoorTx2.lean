/-
  Texts (2): texts under functions' names; the reference's text of a number.
-/
import Derived.Test.YtjjijagclgambaaGreatDoorTx1
namespace Go.Proofs.YtjjijagclgambaaGreatDoor
open Go.Vm
namespace Txt

-- NAMES
theorem codN_inj {k k' : Nat} {x y x' y' : Int} (h : codN k x y = codN k' x' y') : k = k' ∧ x = x' ∧ y = y' := by
  unfold codN at h
  obtain ⟨h1, h2⟩ := two_inj (Nat.add_left_cancel h)
  obtain ⟨h3, h4⟩ := two_inj h2
  exact ⟨h1, zigN_inj h3, zigN_inj h4⟩
/-- What the named functions answer: 1 the text of a number, 2 its digits, 3 the text of an operation, 4 of a response. -/
noncomputable def textF (k : Nat) (x y : Int) : List UInt8 := if k = 1 then Lib.itoa x else if k = 2 then digD x [] else textG k x y
open Classical in
noncomputable def Sx : Nat → ByteArray := fun n => if h : ∃ q : Nat × Int × Int, n = codN q.1 q.2.1 q.2.2 then ⟨(textF h.choose.1 h.choose.2.1 h.choose.2.2).toArray⟩ else default
theorem Sx_cod (k : Nat) (x y : Int) : Sx (codN k x y) = ⟨(textF k x y).toArray⟩ := by
  have h : ∃ q : Nat × Int × Int, codN k x y = codN q.1 q.2.1 q.2.2 := ⟨(k, x, y), rfl⟩
  unfold Sx
  rw [dif_pos h]
  obtain ⟨h1, h2, h3⟩ := codN_inj h.choose_spec
  rw [← h1, ← h2, ← h3]
def SxOk (S : Nat → ByteArray) : Prop := ∀ k x y, S (codN k x y) = ⟨(textF k x y).toArray⟩
theorem SxOk.of {S : Nat → ByteArray} (h : S = Sx) : SxOk S := fun k x y => by rw [h, Sx_cod]
theorem nDigits_le : ∀ (k u : Nat), u < 10 ^ (k + 1) → Lib.nDigits u ≤ k + 1
  | 0, u, h => by rw [Lib.nDigits_small (by simpa using h)]; exact Nat.le_refl _
  | k + 1, u, h => by
    by_cases h1 : u < 10
    · rw [Lib.nDigits_small h1]; omega
    · rw [Lib.nDigits_big h1]
      have : u / 10 < 10 ^ (k + 1) := by
        rw [Nat.pow_succ] at h; omega
      have := nDigits_le k (u / 10) this
      omega
theorem dec_len {u : Nat} (h : u < 9223372036854775809) : (Lib.decDigits u).length ≤ 19 := by
  rw [Lib.decDigits_length]
  exact nDigits_le 18 u (by omega)
theorem dig_len {n : Int} (h : n < 9223372036854775808) : (digD n []).length ≤ 19 := by
  by_cases h0 : 0 ≤ n
  · rw [digD_dec h0]
    have := dec_len (u := n.toNat) (by omega)
    simpa using this
  · unfold digD
    rw [if_pos (by omega)]; simp
theorem itoa_len {n : Int} (h : -9223372036854775808 ≤ n) (h2 : n < 9223372036854775808) : (Lib.itoa n).length ≤ 20 := by
  unfold Lib.itoa
  split
  · have := dec_len (u := n.natAbs) (by omega)
    simp only [List.length_cons]; omega
  · have := dec_len (u := n.toNat) (by omega)
    omega
theorem fn_den {ρ : Env} (hS : SxOk ρ.S) {k : Nat} {p q : PT} {x y : Int} (hp : p.den ρ = x) (hq : q.den ρ = y) (hl : (textF k x y).length ≤ 1000000) : (ST.fn k p q).den ρ = ⟨(textF k x y).toArray⟩ := by
  simp only [ST.den, hp, hq, hS k x y]
  refine cutM_eq ?_
  show (textF k x y).toArray.size ≤ _
  simpa using hl
-- DIGITS, UNDER THEIR NAME
def ltB (t : IT) : BT := .cmp .lss t (.lit 9223372036854775808)
def spDig : SpG := fun args H nl cs => match args with
  | [.int .i64 t] => match t.toP, lookB cs (ltB t) with
    | some p, some true => some [.ret (.str (.fn 2 p (.lit 0))) H nl cs]
    | _, _ => none
  | _ => none
theorem spDig_ok {β : Base} (hG : ∀ I B S V F, β.G I B S V F → SxOk S) : SpGOk Tryz.prog β 54 spDig := by
  intro args H nl cs ls ρ w xs hr hx hh hc
  unfold spDig at hr
  split at hr
  rotate_left
  · cases hr
  rename_i t
  split at hr
  rotate_left
  · cases hr
  rename_i p hp hl
  cases hr
  have hd := IT.toP_den (ρ := ρ) hp
  simp only [AVal.denL, AVal.den, hd, Option.map_some, Option.some.injEq] at hx
  subst hx
  have hlt := lookB_ok hl hc
  simp only [ltB, BT.den, hd, IT.den, intCmp, Option.some.injEq, decide_eq_true_eq] at hlt
  have hS : SxOk ρ.S := hG _ _ _ _ _ hh.g
  have hf := fn_den hS (k := 2) (p := p) (q := .lit 0) rfl rfl (by show (digD (p.den ρ) []).length ≤ _; have := dig_len hlt; omega)
  exact spV_ok (digits54 w _ hlt) (by simp only [AVal.den, hf]; rfl) hh hc
-- THE TEXT OF A NUMBER
def nt0 : IT := .bin .sub .i64 (.lit 0) (.var 0)
def nt1 : IT := .bin .sub .i64 (.lit 0) (.bin .quo .i64 (.var 0) (.lit 10))
def nt2 : IT := .bin .sub .i64 (.lit 0) (.bin .rem .i64 (.var 0) (.lit 10))
def csN : Cs := [(ltB (.var 0), true), (ltB nt0, true), (ltB nt1, true), (ltB nt2, true)]
def spN : CallF := spL [(54, spDig)]
def sumsN : List LS := [.ret (.str (.fn 2 (.var 0) (.lit 0))) ((.cmp .geq (.var 0) (.lit 0), true) :: csN),
  .ret (.str (.cat (.lit [45]) (.fn 2 (.bin .sub .i64 (.lit 0) (.var 0)) (.lit 0)))) ([((.cmp .gtr (.var 0) (.lit (-10))), true), ((.cmp .geq (.var 0) (.lit 0)), false)] ++ csN),
  .ret (.str (.cat (.cat (.lit [45]) (.fn 2 (.bin .sub .i64 (.lit 0) (.bin .quo .i64 (.var 0) (.lit 10))) (.lit 0))) (.fn 2 (.bin .sub .i64 (.lit 0) (.bin .rem .i64 (.var 0) (.lit 10))) (.lit 0)))) ([((.cmp .gtr (.var 0) (.lit (-10))), false), ((.cmp .geq (.var 0) (.lit 0)), false)] ++ csN)]
theorem runN : (run Tryz.prog [] spN 4000 true 19 (entry Tryz.f19 (Tryz.f19.body.getD .ret) [iv 0] .leaf 0 csN)).map (·.filterMap (sumL ⟨0, 0, 0, 0⟩ [])) = some sumsN := by kernel_rfl
theorem wrap_lt (x : Int) : IntKind.i64.wrap x < 9223372036854775808 := by rw [IntKind.wrap_i64]; omega
def GS : GP := fun _ _ S _ _ => SxOk S
noncomputable def envS (n : Int) : Env := ⟨fun i => [n].getD i 0, fun _ => false, Sx, fun _ => undef, fun _ => none, F0⟩
theorem tdiv_neg {u : Nat} : (-(u : Int)).tdiv 10 = -((u / 10 : Nat) : Int) := by
  rw [Int.neg_tdiv]; rfl
theorem tmod_neg {u : Nat} : (-(u : Int)).tmod 10 = -((u % 10 : Nat) : Int) := by
  rw [Int.neg_tmod]; rfl
theorem num19 (w : World) (n : Int) (h1 : -9223372036854775808 ≤ n) (h2 : n < 9223372036854775808) : Calls Tryz.prog 19 #[.int .i64 n] w (fun e w' => e = .returned (.string ⟨(Lib.itoa n).toArray⟩) ∧ Framed w w') := by
  refine calls_eq (calls_sums (β := ⟨w, [], GS⟩) (ρ := envS n) noCount noExt (spL_ok fun p hp => ?_) follows rfl Tryz.func19 rfl runN (xs := [.int .i64 n]) rfl (HRel.startG w _ (fun _ => rfl) (SxOk.of rfl)) ?_ (fun q hq => ?_))
  · simp only [List.mem_cons, List.not_mem_nil, or_false] at hp
    obtain rfl := hp
    exact spDig_ok fun _ _ _ _ _ h => h
  · have e0 : (envS n).I 0 = n := rfl
    have ht := fun x => wrap_lt x
    simp only [csN, ltB, nt0, nt1, nt2, CRel_cons, CRel_nil, and_true, BT.den, IT.den, e0, intBin, intCmp, if_neg (show ¬ ((10 : Int) = 0) by decide), wrap_lt, Option.some.injEq, decide_eq_true_eq]
    exact h2
  · simp only [sumsN, List.mem_cons, List.not_mem_nil, or_false] at hq
    have c10 : ¬ ((10 : Int) = 0) := by decide
    rcases hq with rfl | rfl | rfl
    · intro ρ' hle hc u hu
      have e0 : ρ'.I 0 = n := by rw [hle.i]; rfl
      have hS : SxOk ρ'.S := .of hle.s
      have hg := (CRel_cons.1 hc).1
      simp only [BT.den, IT.den, e0, intCmp, Option.some.injEq, decide_eq_true_eq] at hg
      have hf := fn_den hS (k := 2) (p := .var 0) (q := .lit 0) (x := n) e0 rfl (by show (digD n []).length ≤ _; have := dig_len h2; omega)
      simp only [AVal.den, hf, Option.some.injEq] at hu
      rw [← hu]
      show Value.string ⟨(digD n []).toArray⟩ = _
      rw [digD_dec hg, Lib.itoa, if_neg (by omega)]; simp
    · intro ρ' hle hc u hu
      have e0 : ρ'.I 0 = n := by rw [hle.i]; rfl
      have hS : SxOk ρ'.S := .of hle.s
      have hg1 := (CRel_cons.1 hc).1
      have hg2 := (CRel_cons.1 (CRel_cons.1 hc).2).1
      simp only [BT.den, IT.den, e0, intCmp, Option.some.injEq, decide_eq_true_eq, decide_eq_false_iff_not] at hg1 hg2
      have hp : PT.den ρ' (.bin .sub .i64 (.lit 0) (.var 0)) = -n := by
        simp only [PT.den, e0, intBin, Option.getD_some]
        rw [wrap_ok (by omega) (by omega)]; omega
      have hf := fn_den hS (k := 2) (q := .lit 0) hp rfl (by show (digD (-n) []).length ≤ _; have := dig_len (n := -n) (by omega); omega)
      simp only [AVal.den, ST.den.eq_3, hf, Option.some.injEq] at hu
      rw [← hu]
      have hi : Lib.itoa n = 45 :: digD (-n) [] := by
        rw [digD_dec (by omega), Lib.itoa, if_pos (by omega), show (-n).toNat = n.natAbs by omega]; simp
      rw [hi]
      show Value.string ((ByteArray.mk #[45]) ++ (ByteArray.mk (digD (-n) []).toArray)) = _
      rw [app_cons]
    · intro ρ' hle hc u hu
      have e0 : ρ'.I 0 = n := by rw [hle.i]; rfl
      have hS : SxOk ρ'.S := .of hle.s
      have hg1 := (CRel_cons.1 hc).1
      simp only [BT.den, IT.den, e0, intCmp, Option.some.injEq, decide_eq_false_iff_not] at hg1
      obtain ⟨m, rfl⟩ : ∃ m : Nat, n = -(m : Int) := ⟨n.natAbs, by omega⟩
      have hp1 : PT.den ρ' (.bin .sub .i64 (.lit 0) (.bin .quo .i64 (.var 0) (.lit 10))) = ((m / 10 : Nat) : Int) := by
        simp only [PT.den, e0, intBin, if_neg c10, tdiv_neg, Option.getD_some]
        rw [wrap_ok (x := -((m / 10 : Nat) : Int)) (by omega) (by omega), wrap_ok (by omega) (by omega)]; omega
      have hp2 : PT.den ρ' (.bin .sub .i64 (.lit 0) (.bin .rem .i64 (.var 0) (.lit 10))) = ((m % 10 : Nat) : Int) := by
        simp only [PT.den, e0, intBin, if_neg c10, tmod_neg, Option.getD_some]
        rw [wrap_ok (by omega) (by omega)]; omega
      have hf1 := fn_den hS (k := 2) (q := .lit 0) hp1 rfl (by show (digD ((m / 10 : Nat) : Int) []).length ≤ _; have := dig_len (n := ((m / 10 : Nat) : Int)) (by omega); omega)
      have hf2 := fn_den hS (k := 2) (q := .lit 0) hp2 rfl (by show (digD ((m % 10 : Nat) : Int) []).length ≤ _; have := dig_len (n := ((m % 10 : Nat) : Int)) (by omega); omega)
      simp only [AVal.den, ST.den.eq_3, hf1, hf2, Option.some.injEq] at hu
      rw [← hu]
      have hi : Lib.itoa (-(m : Int)) = 45 :: (digD ((m / 10 : Nat) : Int) [] ++ digD ((m % 10 : Nat) : Int) []) := by
        rw [digD_dec (by omega), digD_dec (by omega), Lib.itoa, if_pos (by omega)]
        simp only [Int.natAbs_neg, Int.natAbs_natCast, Int.toNat_natCast, List.append_nil]
        rw [Lib.decDigits, dif_neg (by omega), Lib.decDigits_one (i := m % 10) (by omega)]
      rw [hi]
      apply congrArg Value.string
      apply ByteArray.ext
      show ((ByteArray.mk #[45]) ++ (ByteArray.mk (textF 2 ((m / 10 : Nat) : Int) 0).toArray) ++ (ByteArray.mk (textF 2 ((m % 10 : Nat) : Int) 0).toArray)).data = _
      simp [textF]
end Txt
end Go.Proofs.YtjjijagclgambaaGreatDoor
