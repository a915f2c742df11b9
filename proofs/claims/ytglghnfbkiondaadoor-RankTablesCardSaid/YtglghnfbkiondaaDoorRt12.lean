/-
  RankTables (11): the library's text of a number, as the kit's shelf lays it at this program (printed by genly3.py).
-/
import Derived.Test.YtglghnfbkiondaaDoorRt5
import Derived.Shelf.LaysM
import Derived.Shelf.Strconv.Itoa3
section
namespace Go.Proofs
open Go.Shelf
def Tryd.laysM171_ren : Go.Shelf.Ren := ⟨fun | 171 => 39 | 243 => 54 | 246 => 66 | 283 => 69 | 284 => 70 | 285 => 71 | 286 => 72 | 129 => 33 | 317 => 77 | 318 => 78 | 319 => 79 | 320 => 80 | 337 => 83 | 338 => 84 | n => n, fun | 3 => 3 | 9 => 9 | 2 => 2 | 4 => 4 | 171 => 103 | 0 => 0 | 53 => 39 | 37 => 99 | 5 => 5 | 173 => 105 | 212 => 109 | 51 => 65 | 20 => 20 | 213 => 110 | 46 => 51 | 232 => 113 | 233 => 114 | n => n, fun | 17 => 1 | 18 => 2 | 19 => 3 | n => n⟩
theorem Tryd.laysM171 : Go.Proofs.LaysM.n171 Tryd.prog Tryd.laysM171_ren := {
  mixed := by kernel_rfl
  f129 := Tryd.func33.trans (congrArg some (by kernel_rfl))
  f171 := Tryd.func39.trans (congrArg some (by kernel_rfl))
  f243 := Tryd.func54.trans (congrArg some (by kernel_rfl))
  f246 := Tryd.func66.trans (congrArg some (by kernel_rfl))
  f283 := Tryd.func69.trans (congrArg some (by kernel_rfl))
  f284 := Tryd.func70.trans (congrArg some (by kernel_rfl))
  f285 := Tryd.func71.trans (congrArg some (by kernel_rfl))
  f286 := Tryd.func72.trans (congrArg some (by kernel_rfl))
  f317 := Tryd.func77.trans (congrArg some (by kernel_rfl))
  f318 := Tryd.func78.trans (congrArg some (by kernel_rfl))
  f319 := Tryd.func79.trans (congrArg some (by kernel_rfl))
  f320 := Tryd.func80.trans (congrArg some (by kernel_rfl))
  f337 := Tryd.func83.trans (congrArg some (by kernel_rfl))
  f338 := Tryd.func84.trans (congrArg some (by kernel_rfl))
  t0 := Tryd.underlying0
  a0 := Tryd.isAgg0
  z0 := Tryd.sizeOf0
  v0 := Tryd.zeroValue0
  t2 := Tryd.underlying2
  a2 := Tryd.isAgg2
  z2 := Tryd.sizeOf2
  v2 := Tryd.zeroValue2
  t3 := Tryd.underlying3
  a3 := Tryd.isAgg3
  z3 := Tryd.sizeOf3
  v3 := Tryd.zeroValue3
  t4 := Tryd.underlying4
  a4 := Tryd.isAgg4
  z4 := Tryd.sizeOf4
  v4 := Tryd.zeroValue4
  t5 := Tryd.underlying5
  a5 := Tryd.isAgg5
  z5 := Tryd.sizeOf5
  v5 := Tryd.zeroValue5
  t9 := Tryd.underlying9
  a9 := Tryd.isAgg9
  z9 := Tryd.sizeOf9
  v9 := Tryd.zeroValue9
  t20 := Tryd.underlying20
  a20 := Tryd.isAgg20
  z20 := Tryd.sizeOf20
  v20 := Tryd.zeroValue20
  t37 := Tryd.underlying99
  a37 := Tryd.isAgg99
  z37 := Tryd.sizeOf99
  v37 := Tryd.zeroValue99
  t46 := Tryd.underlying51
  a46 := Tryd.isAgg51
  z46 := Tryd.sizeOf51
  v46 := Tryd.zeroValue51
  t51 := Tryd.underlying65
  a51 := Tryd.isAgg65
  z51 := Tryd.sizeOf65
  v51 := Tryd.zeroValue65
  t53 := Tryd.underlying39
  a53 := Tryd.isAgg39
  z53 := Tryd.sizeOf39
  v53 := Tryd.zeroValue39
  t171 := Tryd.underlying103
  a171 := Tryd.isAgg103
  z171 := Tryd.sizeOf103
  v171 := Tryd.zeroValue103
  t173 := Tryd.underlying105
  a173 := Tryd.isAgg105
  z173 := Tryd.sizeOf105
  v173 := Tryd.zeroValue105
  t212 := Tryd.underlying109
  a212 := Tryd.isAgg109
  z212 := Tryd.sizeOf109
  v212 := Tryd.zeroValue109
  t213 := Tryd.underlying110
  a213 := Tryd.isAgg110
  z213 := Tryd.sizeOf110
  t232 := Tryd.underlying113
  a232 := Tryd.isAgg113
  z232 := Tryd.sizeOf113
  v232 := Tryd.zeroValue113
  t233 := Tryd.underlying114
  a233 := Tryd.isAgg114
  z233 := Tryd.sizeOf114
  v233 := Tryd.zeroValue114
  g17 := by kernel_rfl
  g18 := by kernel_rfl
  g19 := by kernel_rfl
  i0 := by kernel_rfl
  i2 := by kernel_rfl
  i3 := by kernel_rfl
  i4 := by kernel_rfl
  i5 := by kernel_rfl
  i9 := by kernel_rfl
  i20 := by kernel_rfl
  i37 := by kernel_rfl
  i46 := by kernel_rfl
  i51 := by kernel_rfl
  i53 := by kernel_rfl
  i171 := by kernel_rfl
  i173 := by kernel_rfl
  i212 := by kernel_rfl
  i232 := by kernel_rfl
  i233 := by kernel_rfl
  m17 := by kernel_rfl
  m18 := by kernel_rfl
  m19 := by kernel_rfl }
open Go.RowKit Go.Sort Go.Lib in
theorem Tryd.strconv_Itoa (n : Int) (h0 : -9223372036854775808 ≤ n) (h1 : n ≤ 9223372036854775807) (w : World) (htab : Lib.TabIs Tryd.prog w "internal/strconv.uint64pow10" .u64 Lib.pow10Tab) :
    Calls Tryd.prog 39 #[.int .i64 n] w fun e w' => e = .returned (.string ⟨(Lib.itoa n).toArray⟩) ∧ ∃ k os, w' = grow (w.drewN k) os := Any.strconv_Itoa Tryd.laysM171 n h0 h1 w htab
end Go.Proofs
namespace Go.Proofs.YtglghnfbkiondaaDoor
open Go.Vm
namespace Rt

/-- The table of the powers of ten lies where it was laid. -/
def TabW (w : World) : Prop := Lib.TabIs Tryd.prog w "internal/strconv.uint64pow10" .u64 Lib.pow10Tab
theorem TabW.frame {w w' : World} (h : TabW w) (hf : ∀ b, b < w.heap.size → w'.heap[b]? = w.heap[b]?) : TabW w' := by
  unfold TabW Lib.TabIs World.var? at *
  cases hg : Tryd.prog.globalNamed "internal/strconv.uint64pow10" with
  | none => rw [hg] at h; cases h
  | some g =>
    rw [hg] at h
    simp only [Option.bind_some] at h ⊢
    have hlt : g < w.heap.size := by
      rcases Nat.lt_or_ge g w.heap.size with h1 | h1
      · exact h1
      · rw [Array.getElem?_eq_none h1] at h; cases h
    rw [hf g hlt]; exact h
theorem TabW.of {β : Base} {ρ : Env} {H : Heap} {nl : Nat} {w : World} (h : TabW β.w0) (hown : β.own = []) (hr : HRel β ρ H nl w) : TabW w :=
  h.frame fun b hb => hr.frame b hb fun l hl => by rw [hown] at hl; cases hl
theorem framed_grow (w : World) (k : Nat) (os : Array Obj) : Framed w (Go.Sort.grow (w.drewN k) os) :=
  ⟨by show w.heap.size ≤ (w.heap ++ os).size; simp, fun b hb => by show (w.heap ++ os)[b]? = _; rw [Array.getElem?_append_left hb], rfl, rfl, rfl⟩
theorem itoa39 {w : World} (h : TabW w) (n : Int) (h1 : -9223372036854775808 ≤ n) (h2 : n < 9223372036854775808) : Calls Tryd.prog 39 #[.int .i64 n] w (fun e w' => e = .returned (.string ⟨(Lib.itoa n).toArray⟩) ∧ Framed w w') :=
  (Tryd.strconv_Itoa n h1 (by omega) w h).mono fun e w' ⟨he, k, os, hw⟩ => ⟨he, by rw [hw]; exact framed_grow w k os⟩
end Rt
end Go.Proofs.YtglghnfbkiondaaDoor
end

/-
  RankTables (12): the reference's digits and numbers (printed by mk12.py out of tx/Tx1, tx/Tx2).
-/
section
namespace Go.Proofs.YtglghnfbkiondaaDoor
open Go.Vm
namespace Rt
def noSp : CallF := spL []
theorem noSp_ok {β : Base} : CallOk Tryd.prog β noSp := spL_ok fun _ h => by cases h

theorem wrap_ok {x : Int} (h : -9223372036854775808 ≤ x) (h2 : x < 9223372036854775808) : IntKind.i64.wrap x = x := by
  rw [IntKind.wrap_i64]; omega
theorem wrap8 {x : Int} (h : 0 ≤ x) (h2 : x < 256) : IntKind.u8.wrap x = x := by
  rw [IntKind.wrap_u8]; omega
theorem calls_eq {f : FuncId} {args : Array Value} {w : World} {x : Value} (h : Calls Tryd.prog f args w (fun e w' => ∃ v, e = .returned v ∧ v = x ∧ Framed w w')) : Calls Tryd.prog f args w (fun e w' => e = .returned x ∧ Framed w w') :=
  h.mono fun _ _ ⟨_, he, hv, hf⟩ => ⟨by rw [he, hv], hf⟩
def dgI (n : Int) : UInt8 := UInt8.ofNat (IntKind.u8.wrap (IntKind.i64.wrap (48 + n.tmod 10))).toNat
theorem dgI_nat (m : Nat) : dgI m = UInt8.ofNat (48 + m % 10) := by
  unfold dgI
  rw [Int.tmod_eq_emod_of_nonneg (by omega), wrap_ok (by omega) (by omega), wrap8 (by omega) (by omega)]
  congr 1
/-- The digits of a number, ahead of others. -/
def digD (n : Int) (t : List UInt8) : List UInt8 := if n < 10 then dgI n :: t else Lib.decDigits n.toNat ++ t
theorem digD_dec {n : Int} (h : 0 ≤ n) (t : List UInt8) : digD n t = Lib.decDigits n.toNat ++ t := by
  obtain ⟨m, rfl⟩ := Int.eq_ofNat_of_zero_le h
  unfold digD
  split
  · rename_i hlt
    rw [dgI_nat, Int.toNat_natCast, Lib.decDigits, dif_pos (by omega)]
    rw [show m % 10 = m by omega]; rfl
  · rfl
theorem digD_step {n : Int} (h : 9 < n) (t : List UInt8) : digD n t = digD (n / 10) (dgI n :: t) := by
  obtain ⟨m, rfl⟩ := Int.eq_ofNat_of_zero_le (show 0 ≤ n by omega)
  rw [digD_dec (by omega), digD_dec (by omega), Int.toNat_natCast, show ((m : Int) / 10).toNat = m / 10 by omega, dgI_nat]
  rw [Lib.decDigits, dif_neg (by omega)]
  simp
def iv (j : Nat) : AVal := .int .i64 (.var j)
def D0 : Tpl := ⟨[(0, iv 0), (3, .str (.var 0))], 23, [], 0, [(.cmp .leq (.slen (.var 0)) (.lit 100), true)], 3⟩
def gD : Gen := ⟨1, 0, 1, 0⟩
noncomputable def gb0 : Code := ((loopsOf (Tryd.f59.body.getD .ret) []).getD 0 (.ret, [])).1
noncomputable def gk0 : List Item := ((loopsOf (Tryd.f59.body.getD .ret) []).getD 0 (.ret, [])).2
noncomputable def sumsDe : List LS := [.next 0 (.code (.loop gb0) :: gk0) [] ⟨[(0, (.var 0))], [], [(0, (.byt (.cv .u8 (.bin .add .i64 (.lit 48) (.bin .rem .i64 (.var 0) (.lit 10))))))], [], []⟩]
noncomputable def sumsD0 : List LS := [.next 0 (.inLoop gb0 :: gk0) [((.cmp .leq (.slen (.cat (.byt (.cv .u8 (.bin .add .i64 (.lit 48) (.bin .rem .i64 (.bin .quo .i64 (.var 0) (.lit 10)) (.lit 10))))) (.var 0))) (.lit 9223372036854775807)), true), ((.cmp .gtr (.var 0) (.lit 9)), true), ((.cmp .leq (.slen (.var 0)) (.lit 100)), true)] ⟨[(0, (.bin .quo .i64 (.var 0) (.lit 10)))], [], [(0, (.cat (.byt (.cv .u8 (.bin .add .i64 (.lit 48) (.bin .rem .i64 (.bin .quo .i64 (.var 0) (.lit 10)) (.lit 10))))) (.var 0)))], [], []⟩,
  .stop [((.cmp .leq (.slen (.cat (.byt (.cv .u8 (.bin .add .i64 (.lit 48) (.bin .rem .i64 (.bin .quo .i64 (.var 0) (.lit 10)) (.lit 10))))) (.var 0))) (.lit 9223372036854775807)), false), ((.cmp .gtr (.var 0) (.lit 9)), true), ((.cmp .leq (.slen (.var 0)) (.lit 100)), true)],
  .ret (.str (.var 0)) [((.cmp .gtr (.var 0) (.lit 9)), false), ((.cmp .leq (.slen (.var 0)) (.lit 100)), true)]]
theorem runDe : (run Tryd.prog [] noSp 4000 true 59 (entry Tryd.f59 (Tryd.f59.body.getD .ret) [iv 0] .leaf 0 [])).map (·.filterMap (sumL gD [D0])) = some sumsDe := by kernel_rfl
theorem runD0 : (run Tryd.prog [] noSp 4000 true 59 (D0.st (.code gb0 :: .inLoop gb0 :: gk0))).map (·.filterMap (sumL gD [D0])) = some sumsD0 := by kernel_rfl
/-- So far it has come. -/
def JD (N : Int) : GP := fun I _ S _ _ => ∃ t : List UInt8, ∃ k : Nat, S 0 = ⟨(dgI (I 0) :: t).toArray⟩ ∧ digD N [] = digD (I 0) t ∧ I 0 < 10 ^ k ∧ t.length + k ≤ 20
theorem sz_cons (a : UInt8) (t : List UInt8) : (ByteArray.mk (a :: t).toArray).size = t.length + 1 := by
  show (a :: t).toArray.size = _; simp
theorem app_cons (a : UInt8) (t : List UInt8) : (ByteArray.mk #[a]) ++ (ByteArray.mk t.toArray) = ByteArray.mk (a :: t).toArray := by
  apply ByteArray.ext
  simp
theorem quo10 {n : Int} (h : 9 < n) (h2 : n < 10 ^ 20) : IntKind.i64.wrap (n.tdiv 10) = n / 10 ∨ 9223372036854775808 ≤ n / 10 := by
  rw [Int.tdiv_eq_ediv_of_nonneg (by omega)]
  by_cases hb : n / 10 < 9223372036854775808
  · exact .inl (wrap_ok (by omega) hb)
  · exact .inr (by omega)
theorem loopD (w0 : World) (N : Int) (_hN : N < 9223372036854775808) : ∀ ρ, GP.at (fun I B S V F => JD N I B S V F ∧ I 0 < 9223372036854775808) ρ → ∀ todo a w, todo = .inLoop gb0 :: gk0 ∨ todo = .code (.loop gb0) :: gk0 → SRel (.plain w0) ρ (D0.st todo) a w →
    Goes Tryd.prog 59 (fun x w' => x = .string ⟨(digD N []).toArray⟩ ∧ Framed w0 w') todo a w := by
  refine loop_goes (β := .plain w0) noCount noExt noSp_ok follows rfl runD0 (fun I B S V F => JD N I B S V F ∧ I 0 < 9223372036854775808) (fun ρ => (ρ.I 0).toNat) (fun ρ hJ hcs hG ih q hq => ?_)
  obtain ⟨⟨t, k, hS, hD, hk, ht⟩, hI⟩ := hJ
  have hS : ρ.S 0 = ⟨(dgI (ρ.I 0) :: t).toArray⟩ := hS
  simp only [sumsD0, List.mem_cons, List.not_mem_nil, or_false] at hq
  have qd : ∀ ρ' : Env, ρ.Le ρ' → 9 < ρ.I 0 → (IT.bin .quo .i64 (.var 0) (.lit 10)).den ρ' = some (ρ.I 0 / 10) := fun ρ' hle h9 => by
    simp only [IT.den, hle.i, intBin]
    rw [if_neg (show ¬ ((10 : Int) = 0) by decide), Int.tdiv_eq_ediv_of_nonneg (by omega), wrap_ok (by omega) (by omega)]
  have bd : ∀ ρ' : Env, ρ.Le ρ' → 9 < ρ.I 0 → (ST.byt (.cv .u8 (.bin .add .i64 (.lit 48) (.bin .rem .i64 (.bin .quo .i64 (.var 0) (.lit 10)) (.lit 10))))).den ρ' = ⟨#[dgI (ρ.I 0 / 10)]⟩ := fun ρ' hle h9 => by
    simp only [ST.den, PT.den, hle.i, intBin]
    rw [if_neg (show ¬ ((10 : Int) = 0) by decide), Int.tdiv_eq_ediv_of_nonneg (by omega), Option.getD_some, wrap_ok (x := ρ.I 0 / 10) (by omega) (by omega)]
    rfl
  rcases hq with rfl | rfl | rfl
  · intro ρ' hle hc T hT hG'
    obtain rfl : D0 = T := by simpa using hT
    have h9 := hc (.cmp .gtr (.var 0) (.lit 9), true) (by simp)
    simp only [BT.den, IT.den, hle.i, intCmp, Option.some.injEq, decide_eq_true_eq] at h9
    have hq := qd ρ' hle (by omega)
    have hS2 : (ST.cat (.byt (.cv .u8 (.bin .add .i64 (.lit 48) (.bin .rem .i64 (.bin .quo .i64 (.var 0) (.lit 10)) (.lit 10))))) (.var 0)).den ρ' = ⟨(dgI (ρ.I 0 / 10) :: dgI (ρ.I 0) :: t).toArray⟩ := by
      show (ST.byt _).den ρ' ++ ρ'.S 0 = _
      rw [bd ρ' hle (by omega), hle.s, hS, app_cons]
    have hk1 : 2 ≤ k := by
      rcases k with _ | _ | k
      · simp at hk; omega
      · simp at hk; omega
      · omega
    obtain ⟨j, rfl⟩ : ∃ j, k = j + 1 := ⟨k - 1, by omega⟩
    have hp : (10 : Int) ^ (j + 1) = 10 * 10 ^ j := by rw [Int.pow_succ]; omega
    have e0 : ((IT.bin .quo .i64 (.var 0) (.lit 10)).den ρ').getD 0 = ρ.I 0 / 10 := by rw [hq]; rfl
    refine ⟨trivial, CRel_cons.2 ⟨?_, CRel_nil.2 trivial⟩, fun a w r => ih _ ?_ ?_ _ a w (.inl rfl) r⟩
    · show some (decide (((ST.cat (.byt (.cv .u8 (.bin .add .i64 (.lit 48) (.bin .rem .i64 (.bin .quo .i64 (.var 0) (.lit 10)) (.lit 10))))) (.var 0)).den ρ').size ≤ (100 : Int))) = some true
      rw [hS2, sz_cons]
      simp only [List.length_cons, Option.some.injEq, decide_eq_true_eq]; omega
    · show (((IT.bin .quo .i64 (.var 0) (.lit 10)).den ρ').getD 0).toNat < (ρ.I 0).toNat
      rw [e0]; omega
    · refine ⟨⟨dgI (ρ.I 0) :: t, j, ?_, ?_, ?_, by simp only [List.length_cons]; omega⟩, ?_⟩
      · show (ST.cat (.byt (.cv .u8 (.bin .add .i64 (.lit 48) (.bin .rem .i64 (.bin .quo .i64 (.var 0) (.lit 10)) (.lit 10))))) (.var 0)).den ρ' = ⟨(dgI (((IT.bin .quo .i64 (.var 0) (.lit 10)).den ρ').getD 0) :: dgI (ρ.I 0) :: t).toArray⟩
        rw [hS2, e0]
      · show digD N [] = digD (((IT.bin .quo .i64 (.var 0) (.lit 10)).den ρ').getD 0) (dgI (ρ.I 0) :: t)
        rw [e0, ← digD_step (by omega)]; exact hD
      · show ((IT.bin .quo .i64 (.var 0) (.lit 10)).den ρ').getD 0 < 10 ^ j
        have hk' : ρ.I 0 < 10 ^ (j + 1) := hk
        rw [e0]; rw [hp] at hk'; omega
      · show ((IT.bin .quo .i64 (.var 0) (.lit 10)).den ρ').getD 0 < _
        rw [e0]; omega
  · intro ρ' hle hc
    have h9 := hc (.cmp .gtr (.var 0) (.lit 9), true) (by simp)
    simp only [BT.den, IT.den, hle.i, intCmp, Option.some.injEq, decide_eq_true_eq] at h9
    have hl := (CRel_cons.1 hc).1
    have hS2 : (ST.cat (.byt (.cv .u8 (.bin .add .i64 (.lit 48) (.bin .rem .i64 (.bin .quo .i64 (.var 0) (.lit 10)) (.lit 10))))) (.var 0)).den ρ' = ⟨(dgI (ρ.I 0 / 10) :: dgI (ρ.I 0) :: t).toArray⟩ := by
      show (ST.byt _).den ρ' ++ ρ'.S 0 = _
      rw [bd ρ' hle (by omega), hle.s, hS, app_cons]
    simp only [BT.den, IT.den, hS2, sz_cons, List.length_cons, intCmp, Option.some.injEq, decide_eq_false_iff_not] at hl
    omega
  · intro ρ' hle hc u hu
    have h9 := hc (.cmp .gtr (.var 0) (.lit 9), false) (by simp)
    simp only [BT.den, IT.den, hle.i, intCmp, Option.some.injEq, decide_eq_false_iff_not] at h9
    simp only [AVal.den, ST.den, hle.s, hS, Option.some.injEq] at hu
    have hD' : digD N [] = digD (ρ.I 0) t := hD
    rw [← hu, hD']
    unfold digD
    rw [if_pos (by omega)]
/-- ref Digits, at any int. -/
theorem digits59 (w : World) (n : Int) (h : n < 9223372036854775808) : Calls Tryd.prog 59 #[.int .i64 n] w (fun e w' => e = .returned (.string ⟨(digD n []).toArray⟩) ∧ Framed w w') := by
  refine calls_eq (calls_sums (β := .plain w) (ρ := envOf [n] [] F0) noCount noExt noSp_ok follows rfl Tryd.func59 rfl runDe (xs := [.int .i64 n]) rfl (HRel.start w _ fun _ => rfl) (fun _ h => by cases h) (fun q hq => ?_))
  simp only [sumsDe, List.mem_cons, List.not_mem_nil, or_false] at hq
  obtain rfl := hq
  intro ρ' hle hc T hT hG'
  obtain rfl : D0 = T := by simpa using hT
  have e0 : ρ'.I 0 = n := by rw [hle.i]; rfl
  have hb : (ST.byt (.cv .u8 (.bin .add .i64 (.lit 48) (.bin .rem .i64 (.var 0) (.lit 10))))).den ρ' = ⟨#[dgI n]⟩ := by
    simp only [ST.den, PT.den, e0, intBin]
    rw [if_neg (show ¬ ((10 : Int) = 0) by decide)]; rfl
  refine ⟨trivial, CRel_cons.2 ⟨?_, CRel_nil.2 trivial⟩, fun a w' r => loopD w n h _ ?_ _ a w' (.inr rfl) r⟩
  · show some (decide ((((ST.byt (.cv .u8 (.bin .add .i64 (.lit 48) (.bin .rem .i64 (.var 0) (.lit 10))))).den ρ').size : Int) ≤ 100)) = some true
    rw [hb]; rfl
  · refine ⟨⟨[], 19, ?_, ?_, ?_, by simp⟩, ?_⟩
    · show (ST.byt (.cv .u8 (.bin .add .i64 (.lit 48) (.bin .rem .i64 (.var 0) (.lit 10))))).den ρ' = ⟨(dgI ((IT.var 0).den ρ' |>.getD 0) :: []).toArray⟩
      rw [hb]; simp only [IT.den, e0, Option.getD_some]
    · show digD n [] = digD ((IT.var 0).den ρ' |>.getD 0) []
      simp only [IT.den, e0, Option.getD_some]
    · show ((IT.var 0).den ρ' |>.getD 0) < 10 ^ 19
      simp only [IT.den, e0, Option.getD_some]; omega
    · show ((IT.var 0).den ρ' |>.getD 0) < _
      simp only [IT.den, e0, Option.getD_some]; exact h
/-- What the named functions answer: 1 the text of a number, 2 its digits. -/
noncomputable def textF (k : Nat) (x _ : Int) : List UInt8 := if k = 1 then Lib.itoa x else if k = 2 then digD x [] else []
open Classical in
noncomputable def Sx : Nat → ByteArray := fun n => if h : ∃ q : Nat × Int × Int, n = codN q.1 q.2.1 q.2.2 then ⟨(textF h.choose.1 h.choose.2.1 h.choose.2.2).toArray⟩ else default
theorem Sx_cod (k : Nat) (x y : Int) : Sx (codN k x y) = ⟨(textF k x y).toArray⟩ := by
  have h : ∃ q : Nat × Int × Int, codN k x y = codN q.1 q.2.1 q.2.2 := ⟨(k, x, y), rfl⟩
  unfold Sx
  rw [dif_pos h]
  obtain ⟨h1, h2, h3⟩ := codN_inj h.choose_spec
  rw [← h1, ← h2, ← h3]
theorem nDigits_le : ∀ (k u : Nat), u < 10 ^ (k + 1) → Lib.nDigits u ≤ k + 1
  | 0, u, h => by rw [Lib.nDigits_small (by simpa using h)]; exact Nat.le_refl _
  | k + 1, u, h => by
    by_cases h1 : u < 10
    · rw [Lib.nDigits_small h1]; omega
    · rw [Lib.nDigits_big h1]
      have : u / 10 < 10 ^ (k + 1) := by
        rw [Nat.pow_succ] at h; omega
      have := nDigits_le k (u / 10) this
      omega
theorem dec_len {u : Nat} (h : u < 9223372036854775809) : (Lib.decDigits u).length ≤ 19 := by
  rw [Lib.decDigits_length]
  exact nDigits_le 18 u (by omega)
theorem dig_len {n : Int} (h : n < 9223372036854775808) : (digD n []).length ≤ 19 := by
  by_cases h0 : 0 ≤ n
  · rw [digD_dec h0]
    have := dec_len (u := n.toNat) (by omega)
    simpa using this
  · unfold digD
    rw [if_pos (by omega)]; simp
theorem itoa_len {n : Int} (h : -9223372036854775808 ≤ n) (h2 : n < 9223372036854775808) : (Lib.itoa n).length ≤ 20 := by
  unfold Lib.itoa
  split
  · have := dec_len (u := n.natAbs) (by omega)
    simp only [List.length_cons]; omega
  · have := dec_len (u := n.toNat) (by omega)
    omega
theorem fn_denN {ρ : Env} (hS : ρ.S = Sx) {k : Nat} {p q : PT} {x y : Int} (hp : p.den ρ = x) (hq : q.den ρ = y) (hl : (textF k x y).length ≤ 1000000) : (ST.fn k p q).den ρ = ⟨(textF k x y).toArray⟩ := by
  simp only [ST.den, hS, hp, hq, Sx_cod]
  refine cutM_eq ?_
  show (textF k x y).toArray.size ≤ _
  simpa using hl
-- DIGITS, UNDER THEIR NAME
def ltB (t : IT) : BT := .cmp .lss t (.lit 9223372036854775808)
def spDig : SpG := fun args H nl cs => match args with
  | [.int .i64 t] => match t.toP, lookB cs (ltB t) with
    | some p, some true => some [.ret (.str (.fn 2 p (.lit 0))) H nl cs]
    | _, _ => none
  | _ => none
theorem spDig_ok {β : Base} (hG : ∀ I B S V F, β.G I B S V F → S = Sx) : SpGOk Tryd.prog β 59 spDig := by
  intro args H nl cs ls ρ w xs hr hx hh hc
  unfold spDig at hr
  split at hr
  rotate_left
  · cases hr
  rename_i t
  split at hr
  rotate_left
  · cases hr
  rename_i p hp hl
  cases hr
  have hd := IT.toP_den (ρ := ρ) hp
  simp only [AVal.denL, AVal.den, hd, Option.map_some, Option.some.injEq] at hx
  subst hx
  have hlt := lookB_ok hl hc
  simp only [ltB, BT.den, hd, IT.den, intCmp, Option.some.injEq, decide_eq_true_eq] at hlt
  have hS : ρ.S = Sx := hG _ _ _ _ _ hh.g
  have hf := fn_denN hS (k := 2) (p := p) (q := .lit 0) rfl rfl (by show (digD (p.den ρ) []).length ≤ _; have := dig_len hlt; omega)
  exact spV_ok (digits59 w _ hlt) (by simp only [AVal.den, hf]; rfl) hh hc
-- THE TEXT OF A NUMBER
def nt0 : IT := .bin .sub .i64 (.lit 0) (.var 0)
def nt1 : IT := .bin .sub .i64 (.lit 0) (.bin .quo .i64 (.var 0) (.lit 10))
def nt2 : IT := .bin .sub .i64 (.lit 0) (.bin .rem .i64 (.var 0) (.lit 10))
def csN : Cs := [(ltB (.var 0), true), (ltB nt0, true), (ltB nt1, true), (ltB nt2, true)]
def spN : CallF := spL [(59, spDig)]
def sumsN : List LS := [.ret (.str (.fn 2 (.var 0) (.lit 0))) ((.cmp .geq (.var 0) (.lit 0), true) :: csN),
  .ret (.str (.cat (.lit [45]) (.fn 2 (.bin .sub .i64 (.lit 0) (.var 0)) (.lit 0)))) ([((.cmp .gtr (.var 0) (.lit (-10))), true), ((.cmp .geq (.var 0) (.lit 0)), false)] ++ csN),
  .ret (.str (.cat (.cat (.lit [45]) (.fn 2 (.bin .sub .i64 (.lit 0) (.bin .quo .i64 (.var 0) (.lit 10))) (.lit 0))) (.fn 2 (.bin .sub .i64 (.lit 0) (.bin .rem .i64 (.var 0) (.lit 10))) (.lit 0)))) ([((.cmp .gtr (.var 0) (.lit (-10))), false), ((.cmp .geq (.var 0) (.lit 0)), false)] ++ csN)]
theorem runN : (run Tryd.prog [] spN 4000 true 43 (entry Tryd.f43 (Tryd.f43.body.getD .ret) [iv 0] .leaf 0 csN)).map (·.filterMap (sumL ⟨0, 0, 0, 0⟩ [])) = some sumsN := by kernel_rfl
theorem wrap_lt (x : Int) : IntKind.i64.wrap x < 9223372036854775808 := by rw [IntKind.wrap_i64]; omega
def GS : GP := fun _ _ S _ _ => S = Sx
noncomputable def envS (n : Int) : Env := ⟨fun i => [n].getD i 0, fun _ => false, Sx, fun _ => undef, fun _ => none, F0⟩
theorem tdiv_neg {u : Nat} : (-(u : Int)).tdiv 10 = -((u / 10 : Nat) : Int) := by
  rw [Int.neg_tdiv]; rfl
theorem tmod_neg {u : Nat} : (-(u : Int)).tmod 10 = -((u % 10 : Nat) : Int) := by
  rw [Int.neg_tmod]; rfl
theorem num43 (w : World) (n : Int) (h1 : -9223372036854775808 ≤ n) (h2 : n < 9223372036854775808) : Calls Tryd.prog 43 #[.int .i64 n] w (fun e w' => e = .returned (.string ⟨(Lib.itoa n).toArray⟩) ∧ Framed w w') := by
  refine calls_eq (calls_sums (β := ⟨w, [], GS⟩) (ρ := envS n) noCount noExt (spL_ok fun p hp => ?_) follows rfl Tryd.func43 rfl runN (xs := [.int .i64 n]) rfl (HRel.startG w _ (fun _ => rfl) rfl) ?_ (fun q hq => ?_))
  · simp only [List.mem_cons, List.not_mem_nil, or_false] at hp
    obtain rfl := hp
    exact spDig_ok fun _ _ _ _ _ h => h
  · have e0 : (envS n).I 0 = n := rfl
    have ht := fun x => wrap_lt x
    simp only [csN, ltB, nt0, nt1, nt2, CRel_cons, CRel_nil, and_true, BT.den, IT.den, e0, intBin, intCmp, if_neg (show ¬ ((10 : Int) = 0) by decide), wrap_lt, Option.some.injEq, decide_eq_true_eq]
    exact h2
  · simp only [sumsN, List.mem_cons, List.not_mem_nil, or_false] at hq
    have c10 : ¬ ((10 : Int) = 0) := by decide
    rcases hq with rfl | rfl | rfl
    · intro ρ' hle hc u hu
      have e0 : ρ'.I 0 = n := by rw [hle.i]; rfl
      have hS : ρ'.S = Sx := hle.s
      have hg := (CRel_cons.1 hc).1
      simp only [BT.den, IT.den, e0, intCmp, Option.some.injEq, decide_eq_true_eq] at hg
      have hf := fn_denN hS (k := 2) (p := .var 0) (q := .lit 0) (x := n) e0 rfl (by show (digD n []).length ≤ _; have := dig_len h2; omega)
      simp only [AVal.den, hf, Option.some.injEq] at hu
      rw [← hu]
      show Value.string ⟨(digD n []).toArray⟩ = _
      rw [digD_dec hg, Lib.itoa, if_neg (by omega)]; simp
    · intro ρ' hle hc u hu
      have e0 : ρ'.I 0 = n := by rw [hle.i]; rfl
      have hS : ρ'.S = Sx := hle.s
      have hg1 := (CRel_cons.1 hc).1
      have hg2 := (CRel_cons.1 (CRel_cons.1 hc).2).1
      simp only [BT.den, IT.den, e0, intCmp, Option.some.injEq, decide_eq_true_eq, decide_eq_false_iff_not] at hg1 hg2
      have hp : PT.den ρ' (.bin .sub .i64 (.lit 0) (.var 0)) = -n := by
        simp only [PT.den, e0, intBin, Option.getD_some]
        rw [wrap_ok (by omega) (by omega)]; omega
      have hf := fn_denN hS (k := 2) (q := .lit 0) hp rfl (by show (digD (-n) []).length ≤ _; have := dig_len (n := -n) (by omega); omega)
      simp only [AVal.den, ST.den.eq_3, hf, Option.some.injEq] at hu
      rw [← hu]
      have hi : Lib.itoa n = 45 :: digD (-n) [] := by
        rw [digD_dec (by omega), Lib.itoa, if_pos (by omega), show (-n).toNat = n.natAbs by omega]; simp
      rw [hi]
      show Value.string ((ByteArray.mk #[45]) ++ (ByteArray.mk (digD (-n) []).toArray)) = _
      rw [app_cons]
    · intro ρ' hle hc u hu
      have e0 : ρ'.I 0 = n := by rw [hle.i]; rfl
      have hS : ρ'.S = Sx := hle.s
      have hg1 := (CRel_cons.1 hc).1
      simp only [BT.den, IT.den, e0, intCmp, Option.some.injEq, decide_eq_false_iff_not] at hg1
      obtain ⟨m, rfl⟩ : ∃ m : Nat, n = -(m : Int) := ⟨n.natAbs, by omega⟩
      have hp1 : PT.den ρ' (.bin .sub .i64 (.lit 0) (.bin .quo .i64 (.var 0) (.lit 10))) = ((m / 10 : Nat) : Int) := by
        simp only [PT.den, e0, intBin, if_neg c10, tdiv_neg, Option.getD_some]
        rw [wrap_ok (x := -((m / 10 : Nat) : Int)) (by omega) (by omega), wrap_ok (by omega) (by omega)]; omega
      have hp2 : PT.den ρ' (.bin .sub .i64 (.lit 0) (.bin .rem .i64 (.var 0) (.lit 10))) = ((m % 10 : Nat) : Int) := by
        simp only [PT.den, e0, intBin, if_neg c10, tmod_neg, Option.getD_some]
        rw [wrap_ok (by omega) (by omega)]; omega
      have hf1 := fn_denN hS (k := 2) (q := .lit 0) hp1 rfl (by show (digD ((m / 10 : Nat) : Int) []).length ≤ _; have := dig_len (n := ((m / 10 : Nat) : Int)) (by omega); omega)
      have hf2 := fn_denN hS (k := 2) (q := .lit 0) hp2 rfl (by show (digD ((m % 10 : Nat) : Int) []).length ≤ _; have := dig_len (n := ((m % 10 : Nat) : Int)) (by omega); omega)
      simp only [AVal.den, ST.den.eq_3, hf1, hf2, Option.some.injEq] at hu
      rw [← hu]
      have hi : Lib.itoa (-(m : Int)) = 45 :: (digD ((m / 10 : Nat) : Int) [] ++ digD ((m % 10 : Nat) : Int) []) := by
        rw [digD_dec (by omega), digD_dec (by omega), Lib.itoa, if_pos (by omega)]
        simp only [Int.natAbs_neg, Int.natAbs_natCast, Int.toNat_natCast, List.append_nil]
        rw [Lib.decDigits, dif_neg (by omega), Lib.decDigits_one (i := m % 10) (by omega)]
      rw [hi]
      apply congrArg Value.string
      apply ByteArray.ext
      show ((ByteArray.mk #[45]) ++ (ByteArray.mk (textF 2 ((m / 10 : Nat) : Int) 0).toArray) ++ (ByteArray.mk (textF 2 ((m % 10 : Nat) : Int) 0).toArray)).data = _
      simp [textF]
end Rt
end Go.Proofs.YtglghnfbkiondaaDoor
end
