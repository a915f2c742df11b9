/-
  Trace lines (2): numbers without a sign; a text with its blanks turned.
-/
import Derived.Test.YtjjijagclgambaaGreatDoorTc
import Derived.Test.YtjjijagclgambaaGreatDoorTl1
namespace Go.Proofs.YtjjijagclgambaaGreatDoor
open Go.Vm Go.TraceP
namespace Txt

-- NUMBERS WITHOUT A SIGN
/-- What is known of the numbers without a sign: the name 15, and the second cell of each element of the row. -/
def RangeU : GP := fun I _ _ V _ => (0 ≤ I 15 ∧ I 15 < 18446744073709551616) ∧ ∀ n, n % 8 = 1 → 0 ≤ selI (V 0) n ∧ selI (V 0) n < 18446744073709551616
def rangeU : IT → Bool
  | .var i => Nat.beq i 15
  | .sel a sz j _ => Nat.beq a 0 && (Nat.beq sz 8 && Nat.beq j 1)
  | .bin .rem .u64 (.var 15) (.lit 65536) => true
  | .bin .and .u64 (.var 15) (.lit 65535) => true
  | _ => false
theorem and_low {x : Int} (h : 0 ≤ x) (h2 : x < 18446744073709551616) : intBin .and .u64 x 65535 = some (x % 65536) := by
  obtain ⟨m, rfl⟩ := Int.eq_ofNat_of_zero_le h
  simp only [intBin, IntKind.wrap_u64]
  have hb : IntKind.u64.bits = 64 := rfl
  have e1 : (BitVec.ofInt 64 (m : Int)).toNat = m := by simp; omega
  have e2 : (BitVec.ofInt 64 (65535 : Int)).toNat = 2 ^ 16 - 1 := by decide
  rw [hb, BitVec.toNat_and, e1, e2, Nat.and_two_pow_sub_one_eq_mod]
  simp only [Option.some.injEq]
  omega
theorem rem_low {x : Int} (h : 0 ≤ x) : intBin .rem .u64 x 65536 = some (x % 65536) := by
  simp only [intBin]
  rw [if_neg (by decide), Int.tmod_eq_emod_of_nonneg h]
theorem rangeU_ok {ρ : Env} {t : IT} {x : Int} (h : rangeU t = true) (hG : RangeU.at ρ) (hx : t.den ρ = some x) : 0 ≤ x ∧ x < 18446744073709551616 := by
  unfold rangeU at h
  split at h
  · rename_i i
    obtain rfl := Nat.eq_of_beq_eq_true h
    simp only [IT.den, Option.some.injEq] at hx
    rw [← hx]; exact hG.1
  · rename_i a sz j i
    simp only [IT.den] at hx
    obtain ⟨y, _, rfl⟩ := Option.map_eq_some_iff.1 hx
    simp only [Bool.and_eq_true] at h
    obtain ⟨ha, hs, hj⟩ := h
    obtain rfl := Nat.eq_of_beq_eq_true ha
    obtain rfl := Nat.eq_of_beq_eq_true hs
    obtain rfl := Nat.eq_of_beq_eq_true hj
    exact hG.2 _ (by omega)
  · simp only [IT.den] at hx
    have h0 := hG.1
    have h1 : 0 ≤ ρ.I 15 := h0.1
    rw [rem_low h1, Option.some.injEq] at hx
    omega
  · simp only [IT.den] at hx
    have h0 := hG.1
    have h1 : 0 ≤ ρ.I 15 := h0.1
    have h2 : ρ.I 15 < 18446744073709551616 := h0.2
    rw [and_low h1 h2, Option.some.injEq] at hx
    omega
  · cases h
theorem dec_len64 {u : Nat} (h : u < 18446744073709551616) : (Lib.decDigits u).length ≤ 20 := by
  rw [Lib.decDigits_length]
  exact nDigits_le 19 u (by omega)
def GL : GP := fun I B S V F => GT I B S V F ∧ RangeU I B S V F
/-- A number without a sign: its text, under its name (5). -/
def spU (ten : Bool) : SpG := fun args H nl cs => match args with
  | .int .u64 t :: r => match t.toP with
    | some p => cond (rangeU t && AVal.beqL r (cond ten [.int .i64 (.lit 10)] [])) (some [.ret (.str (.fn 5 p (.lit 0))) H nl cs]) none
    | none => none
  | _ => none
theorem spU_ok {β : Base} {ten : Bool} {g : FuncId} (hG : ∀ I B S V F, β.G I B S V F → SxOk S ∧ RangeU I B S V F)
    (hg : ∀ {ρ : Env} {H : Heap} {nl : Nat} {w : World}, HRel β ρ H nl w → ∀ u : Nat, u < 18446744073709551616 → Calls Tryz.prog g (cond ten #[.int .u64 u, .int .i64 10] #[.int .u64 u]) w (fun e w' => e = .returned (.string ⟨(Lib.decDigits u).toArray⟩) ∧ Framed w w')) : SpGOk Tryz.prog β g (spU ten) := by
  intro args H nl cs ls ρ w xs hr hx hh hc
  unfold spU at hr
  split at hr
  rotate_left
  · cases hr
  rename_i t r
  split at hr
  rotate_left
  · cases hr
  rename_i p hp
  cases hb : (rangeU t && AVal.beqL r (cond ten [.int .i64 (.lit 10)] [])) with
  | false => rw [hb] at hr; cases hr
  | true =>
    rw [hb] at hr
    simp only [cond_true, Option.some.injEq] at hr
    subst hr
    simp only [Bool.and_eq_true] at hb
    obtain ⟨hb1, hb2⟩ := hb
    obtain rfl := AVal.beqL_eq _ _ hb2
    have hd := IT.toP_den (ρ := ρ) hp
    obtain ⟨hS, hR⟩ := hG _ _ _ _ _ hh.g
    obtain ⟨h1, h2⟩ := rangeU_ok hb1 hR hd
    have hS : SxOk ρ.S := hS
    obtain ⟨u, hu⟩ := Int.eq_ofNat_of_zero_le h1
    have hl : (Lib.decDigits (p.den ρ).toNat).length ≤ 20 := dec_len64 (by omega)
    have hf := fn_den hS (k := 5) (p := p) (q := .lit 0) rfl rfl (by show (Lib.decDigits (p.den ρ).toNat).length ≤ _; omega)
    have hv : (AVal.str (.fn 5 p (.lit 0))).den ρ = some (.string ⟨(Lib.decDigits u).toArray⟩) := by
      simp only [AVal.den, hf]
      show some (Value.string ⟨(Lib.decDigits (p.den ρ).toNat).toArray⟩) = _
      rw [hu]; rfl
    have hx' : xs.toArray = cond ten #[.int .u64 u, .int .i64 10] #[.int .u64 u] := by
      cases ten <;> simp only [cond_true, cond_false, AVal.denL, AVal.den, hd, IT.den, Option.map_some, Option.some.injEq] at hx ⊢ <;> subst hx <;> rw [hu] <;> rfl
    rw [hx']
    exact spV_ok (hg hh u (by omega)) hv hh hc
noncomputable def envU (u : Int) : Env := ⟨fun i => if i = 15 then u else 0, fun _ => false, Sx, fun _ => undef, fun _ => none, fun k x y => if k = 9 then prI x y else 0⟩
theorem selI_undef (n : Nat) : selI undef n = 0 := by simp [selI, undef]
theorem envU_G {u : Nat} (h : u < 18446744073709551616) : GL.at (envU u) := by
  refine ⟨⟨⟨SxOk.of rfl, fun i hi _ => ?_, fun n _ => ?_, fun x n _ => ?_⟩, fun x y => rfl⟩, ?_, fun n _ => ?_⟩
  · show -9223372036854775808 ≤ (if i = 15 then (u : Int) else 0) ∧ (if i = 15 then (u : Int) else 0) < 9223372036854775808
    rw [if_neg hi]; decide
  · show _ ≤ selI undef n ∧ selI undef n < _
    rw [selI_undef]; decide
  · show _ ≤ selI undef n ∧ selI undef n < _
    rw [selI_undef]; decide
  · show 0 ≤ (u : Int) ∧ (u : Int) < _
    omega
  · show _ ≤ selI undef n ∧ selI undef n < _
    rw [selI_undef]; decide
theorem framedG (w : World) {w' : World} (h : ∃ k os, w' = Go.Sort.grow (w.drewN k) os) : Framed w w' := by
  obtain ⟨k, os, rfl⟩ := h
  exact framed_grow w k os
def aU : AVal := .int .u64 (.var 15)
def u5 : AVal := .str (.fn 5 (.var 15) (.lit 0))
def sp12 : CallF := spL [(44, spU true)]
theorem run12 : (run Tryz.prog [] sp12 4000 false 12 (entry Tryz.f12 (Tryz.f12.body.getD .ret) [aU, .int .i64 (.lit 10)] .leaf 0 [])).map (·.all (retIs u5)) = some true := by kernel_rfl
theorem u5_den {ρ : Env} {u : Nat} (hS : SxOk ρ.S) (h : ρ.I 15 = u) (hu : u < 18446744073709551616) : u5.den ρ = some (.string ⟨(Lib.decDigits u).toArray⟩) := by
  have hf := fn_den hS (k := 5) (p := .var 15) (q := .lit 0) (x := (u : Int)) h rfl (by show (Lib.decDigits (u : Int).toNat).length ≤ _; have := dec_len64 hu; rw [Int.toNat_natCast]; omega)
  simp only [u5, AVal.den, hf]
  rfl
theorem uint12 {w : World} (hT : TabW w) {u : Nat} (hu : u < 18446744073709551616) : Calls Tryz.prog 12 #[.int .u64 u, .int .i64 10] w (fun e w' => e = .returned (.string ⟨(Lib.decDigits u).toArray⟩) ∧ Framed w w') := by
  refine calls_ret (β := ⟨w, [], GL⟩) (ρ := envU u) noExt (spL_ok fun p hp => ?_) rfl Tryz.func12 rfl run12 (xs := [.int .u64 u, .int .i64 10]) rfl (HRel.startG w _ (fun _ => rfl) (envU_G hu)) c0 fun ρ' hle => ?_
  · rw [List.mem_singleton.1 hp]
    exact spU_ok (fun _ _ _ _ _ h => ⟨h.1.1.1, h.2⟩) fun hh u hu => (Tryz.uint44 u hu _ (TabW.of hT rfl hh)).mono fun e w' ⟨h1, h2⟩ => ⟨h1, framedG _ h2⟩
  · exact u5_den (.of hle.s) (by rw [hle.i]; rfl) hu
-- THE REFERENCE'S
def q15 : IT := .bin .quo .u64 (.var 15) (.lit 10)
def lt10 : BT := .cmp .lss (.var 15) (.lit 10)
def spQ : SpG := fun args H nl cs => match lookB cs lt10 with
  | some false => cond (AVal.beqL args [.int .u64 q15]) (some [.ret (.str (.fn 5 (.bin .quo .u64 (.var 15) (.lit 10)) (.lit 0))) H nl cs]) none
  | _ => none
def spDg (g : FuncId) : FuncId × SpG := (g, spDigR)
def cU (b : Bool) : Cs := [(lt10, b)]
def sp18 : CallF := spL [(18, spQ), (54, spDigR)]
def v18a : AVal := .str (.fn 2 (.cv .i64 (.var 15)) (.lit 0))
def v18b : AVal := .str (.cat (.fn 5 (.bin .quo .u64 (.var 15) (.lit 10)) (.lit 0)) (.fn 2 (.cv .i64 (.bin .rem .u64 (.var 15) (.lit 10))) (.lit 0)))
theorem run18a : (run Tryz.prog [] sp18 4000 false 18 (entry Tryz.f18 (Tryz.f18.body.getD .ret) [aU] .leaf 0 (cU true))).map (·.all (retIs v18a)) = some true := by kernel_rfl
theorem run18b : (run Tryz.prog [] sp18 4000 false 18 (entry Tryz.f18 (Tryz.f18.body.getD .ret) [aU] .leaf 0 (cU false))).map (·.all (retIs v18b)) = some true := by kernel_rfl
def G18 (u : Nat) : GP := fun I B S V F => GL I B S V F ∧ I 15 = u
theorem wrap64 {x : Int} (h : 0 ≤ x) (h2 : x < 18446744073709551616) : IntKind.u64.wrap x = x := by
  rw [IntKind.wrap_u64]; omega
theorem q15_den {ρ : Env} {u : Nat} (h : ρ.I 15 = u) (hu : u < 18446744073709551616) : q15.den ρ = some ((u / 10 : Nat) : Int) := by
  simp only [q15, IT.den, h, intBin]
  rw [if_neg (by decide)]
  have e : (u : Int).tdiv 10 = ((u / 10 : Nat) : Int) := rfl
  rw [e, wrap64 (by omega) (by omega)]
theorem digD_small {u : Nat} (h : u < 10) : digD (u : Int) [] = Lib.decDigits u := by
  rw [digD_dec (by omega), Int.toNat_natCast, List.append_nil]
theorem dec_step {u : Nat} (h : ¬ u < 10) : Lib.decDigits u = Lib.decDigits (u / 10) ++ Lib.decDigits (u % 10) := by
  rw [Lib.decDigits, dif_neg (by omega)]
  congr 1
  rw [Lib.decDigits, dif_pos (by omega)]
theorem env18_G {u : Nat} (h : u < 18446744073709551616) : (G18 u).at (envU u) := ⟨envU_G h, rfl⟩
theorem cU_ok {u : Nat} {b : Bool} (h : decide (u < 10) = b) : CRel (envU u) (cU b) := c1 (by
  have e : (IT.var 15).den (envU u) = some (u : Int) := rfl
  unfold lt10
  rw [cmpD e (litD 10)]
  simp only [intCmp, Option.some.injEq]
  rw [← h, decide_eq_decide]; omega) c0
theorem q15_pden {ρ : Env} {u : Nat} (h : ρ.I 15 = u) (hu : u < 18446744073709551616) : (PT.bin .quo .u64 (.var 15) (.lit 10)).den ρ = ((u / 10 : Nat) : Int) := by
  have hq := q15_den h hu
  simp only [q15, IT.den] at hq
  simp only [PT.den, hq, Option.getD_some]
theorem r15_pden {ρ : Env} {u : Nat} (h : ρ.I 15 = u) : (PT.cv .i64 (.bin .rem .u64 (.var 15) (.lit 10))).den ρ = ((u % 10 : Nat) : Int) := by
  have e : (u : Int).tmod 10 = ((u % 10 : Nat) : Int) := rfl
  simp only [PT.den, h, intBin]
  rw [if_neg (by decide), e, Option.getD_some, wrap_ok (by omega) (by omega)]
theorem f5_den {ρ : Env} {u : Nat} {p : PT} (hS : SxOk ρ.S) (hp : p.den ρ = (u : Int)) (hu : u < 18446744073709551616) : (AVal.str (.fn 5 p (.lit 0))).den ρ = some (.string ⟨(Lib.decDigits u).toArray⟩) := by
  have hf := fn_den hS (k := 5) (p := p) (q := .lit 0) hp rfl (by show (Lib.decDigits (u : Int).toNat).length ≤ _; have := dec_len64 hu; rw [Int.toNat_natCast]; omega)
  simp only [AVal.den, hf]
  rfl
theorem f2_den {ρ : Env} {u : Nat} {p : PT} (hS : SxOk ρ.S) (hp : p.den ρ = (u : Int)) (hu : u < 10) : (ST.fn 2 p (.lit 0)).den ρ = ⟨(Lib.decDigits u).toArray⟩ := by
  have hd := digD_small hu
  have hf := fn_den hS (k := 2) (p := p) (q := .lit 0) hp rfl (by show (digD (u : Int) []).length ≤ _; have := dig_len (n := (u : Int)) (by omega); omega)
  rw [hf]
  show ByteArray.mk (digD (u : Int) []).toArray = _
  rw [hd]
theorem uns18 (u : Nat) : u < 18446744073709551616 → ∀ w, Calls Tryz.prog 18 #[.int .u64 u] w (fun e w' => e = .returned (.string ⟨(Lib.decDigits u).toArray⟩) ∧ Framed w w') := by
  induction u using Nat.strongRecOn with
  | _ u ih =>
    intro hu w
    have hsp : CallOk Tryz.prog ⟨w, [], G18 u⟩ sp18 := spL_ok fun p hp => by
      simp only [List.mem_cons, List.not_mem_nil, or_false] at hp
      rcases hp with rfl | rfl
      · intro args H nl cs ls ρ w1 xs hr hx hh hc
        dsimp only [spQ] at hr
        split at hr
        rotate_left
        · cases hr
        rename_i hlk
        have h10 := lookB_ok hlk hc
        cases hb : AVal.beqL args [.int .u64 q15] with
        | false => rw [hb] at hr; cases hr
        | true =>
          rw [hb] at hr
          simp only [cond_true, Option.some.injEq] at hr
          subst hr
          obtain rfl := AVal.beqL_eq _ _ hb
          obtain ⟨⟨⟨⟨hS, _⟩, _⟩, _⟩, h15⟩ := hh.g
          have hS : SxOk ρ.S := hS
          have h15 : ρ.I 15 = (u : Int) := h15
          have hge : ¬ u < 10 := by
            simp only [lt10, BT.den, IT.den, h15, intCmp, Option.some.injEq, decide_eq_false_iff_not] at h10
            omega
          have hq := q15_den (ρ := ρ) h15 hu
          obtain rfl : [.int .u64 ((u / 10 : Nat) : Int)] = xs := Option.some.inj ((denL1 (show (AVal.int .u64 q15).den ρ = some (.int .u64 ((u / 10 : Nat) : Int)) by simp only [AVal.den, hq, Option.map_some])).symm.trans hx)
          exact spV_ok (ih (u / 10) (by omega) (by omega) w1) (f5_den hS (q15_pden h15 hu) (by omega)) hh hc
      · exact spDigR_ok fun _ _ _ _ _ h => h.1.1.1
    by_cases h10 : u < 10
    · refine calls_ret (β := ⟨w, [], G18 u⟩) (ρ := envU u) noExt hsp rfl Tryz.func18 rfl run18a (xs := [.int .u64 u]) rfl (HRel.startG w _ (fun _ => rfl) (env18_G hu)) (cU_ok (decide_eq_true h10)) fun ρ' hle => ?_
      have hS : SxOk ρ'.S := .of hle.s
      have h15 : ρ'.I 15 = (u : Int) := by rw [hle.i]; rfl
      have hp : (PT.cv .i64 (.var 15)).den ρ' = (u : Int) := by simp only [PT.den, h15]; rw [wrap_ok (by omega) (by omega)]
      simp only [v18a, AVal.den, f2_den hS hp h10]
    · refine calls_ret (β := ⟨w, [], G18 u⟩) (ρ := envU u) noExt hsp rfl Tryz.func18 rfl run18b (xs := [.int .u64 u]) rfl (HRel.startG w _ (fun _ => rfl) (env18_G hu)) (cU_ok (decide_eq_false h10)) fun ρ' hle => ?_
      have hS : SxOk ρ'.S := .of hle.s
      have h15 : ρ'.I 15 = (u : Int) := by rw [hle.i]; rfl
      have h5 := f5_den hS (q15_pden h15 hu) (by omega)
      simp only [AVal.den, Option.some.injEq, Value.string.injEq] at h5
      have h2 := f2_den hS (r15_pden h15) (by omega)
      have := catD (a := Lib.decDigits (u / 10)) (b := Lib.decDigits (u % 10)) h5 h2
      simp only [v18b, AVal.den, this]
      rw [dec_step h10]
      rfl
end Txt
end Go.Proofs.YtjjijagclgambaaGreatDoor
