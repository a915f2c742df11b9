/-
  Texts (3): the library's text of a number, as the kit's shelf lays it at this program (its print), and what the machine knows of it.
-/
import Derived.Test.YtagdcclpibjfoaaDoorTx2
import Derived.Shelf.LaysM
import Derived.Shelf.Strconv.Itoa3
namespace Go.Proofs
open Go.Shelf
def Tryd.laysM171_ren : Go.Shelf.Ren := ⟨fun | 171 => 74 | 243 => 113 | 246 => 126 | 283 => 145 | 284 => 146 | 285 => 147 | 286 => 148 | 129 => 116 | 317 => 167 | 318 => 168 | 319 => 169 | 320 => 170 | 337 => 178 | 338 => 179 | n => n, fun | 3 => 3 | 9 => 9 | 2 => 2 | 4 => 4 | 171 => 164 | 0 => 0 | 53 => 30 | 37 => 86 | 5 => 5 | 173 => 166 | 212 => 184 | 51 => 142 | 20 => 20 | 213 => 185 | 46 => 107 | 232 => 206 | 233 => 207 | n => n, fun | 17 => 1 | 18 => 6 | 19 => 7 | n => n⟩
theorem Tryd.laysM171 : Go.Proofs.LaysM.n171 Tryd.prog Tryd.laysM171_ren := {
  mixed := by kernel_rfl
  f129 := Tryd.func116.trans (congrArg some (by kernel_rfl))
  f171 := Tryd.func74.trans (congrArg some (by kernel_rfl))
  f243 := Tryd.func113.trans (congrArg some (by kernel_rfl))
  f246 := Tryd.func126.trans (congrArg some (by kernel_rfl))
  f283 := Tryd.func145.trans (congrArg some (by kernel_rfl))
  f284 := Tryd.func146.trans (congrArg some (by kernel_rfl))
  f285 := Tryd.func147.trans (congrArg some (by kernel_rfl))
  f286 := Tryd.func148.trans (congrArg some (by kernel_rfl))
  f317 := Tryd.func167.trans (congrArg some (by kernel_rfl))
  f318 := Tryd.func168.trans (congrArg some (by kernel_rfl))
  f319 := Tryd.func169.trans (congrArg some (by kernel_rfl))
  f320 := Tryd.func170.trans (congrArg some (by kernel_rfl))
  f337 := Tryd.func178.trans (congrArg some (by kernel_rfl))
  f338 := Tryd.func179.trans (congrArg some (by kernel_rfl))
  t0 := Tryd.underlying0
  a0 := Tryd.isAgg0
  z0 := Tryd.sizeOf0
  v0 := Tryd.zeroValue0
  t2 := Tryd.underlying2
  a2 := Tryd.isAgg2
  z2 := Tryd.sizeOf2
  v2 := Tryd.zeroValue2
  t3 := Tryd.underlying3
  a3 := Tryd.isAgg3
  z3 := Tryd.sizeOf3
  v3 := Tryd.zeroValue3
  t4 := Tryd.underlying4
  a4 := Tryd.isAgg4
  z4 := Tryd.sizeOf4
  v4 := Tryd.zeroValue4
  t5 := Tryd.underlying5
  a5 := Tryd.isAgg5
  z5 := Tryd.sizeOf5
  v5 := Tryd.zeroValue5
  t9 := Tryd.underlying9
  a9 := Tryd.isAgg9
  z9 := Tryd.sizeOf9
  v9 := Tryd.zeroValue9
  t20 := Tryd.underlying20
  a20 := Tryd.isAgg20
  z20 := Tryd.sizeOf20
  v20 := Tryd.zeroValue20
  t37 := Tryd.underlying86
  a37 := Tryd.isAgg86
  z37 := Tryd.sizeOf86
  v37 := Tryd.zeroValue86
  t46 := Tryd.underlying107
  a46 := Tryd.isAgg107
  z46 := Tryd.sizeOf107
  v46 := Tryd.zeroValue107
  t51 := Tryd.underlying142
  a51 := Tryd.isAgg142
  z51 := Tryd.sizeOf142
  v51 := Tryd.zeroValue142
  t53 := Tryd.underlying30
  a53 := Tryd.isAgg30
  z53 := Tryd.sizeOf30
  v53 := Tryd.zeroValue30
  t171 := Tryd.underlying164
  a171 := Tryd.isAgg164
  z171 := Tryd.sizeOf164
  v171 := Tryd.zeroValue164
  t173 := Tryd.underlying166
  a173 := Tryd.isAgg166
  z173 := Tryd.sizeOf166
  v173 := Tryd.zeroValue166
  t212 := Tryd.underlying184
  a212 := Tryd.isAgg184
  z212 := Tryd.sizeOf184
  v212 := Tryd.zeroValue184
  t213 := Tryd.underlying185
  a213 := Tryd.isAgg185
  z213 := Tryd.sizeOf185
  t232 := Tryd.underlying206
  a232 := Tryd.isAgg206
  z232 := Tryd.sizeOf206
  v232 := Tryd.zeroValue206
  t233 := Tryd.underlying207
  a233 := Tryd.isAgg207
  z233 := Tryd.sizeOf207
  v233 := Tryd.zeroValue207
  g17 := by kernel_rfl
  g18 := by kernel_rfl
  g19 := by kernel_rfl
  i0 := by kernel_rfl
  i2 := by kernel_rfl
  i3 := by kernel_rfl
  i4 := by kernel_rfl
  i5 := by kernel_rfl
  i9 := by kernel_rfl
  i20 := by kernel_rfl
  i37 := by kernel_rfl
  i46 := by kernel_rfl
  i51 := by kernel_rfl
  i53 := by kernel_rfl
  i171 := by kernel_rfl
  i173 := by kernel_rfl
  i212 := by kernel_rfl
  i232 := by kernel_rfl
  i233 := by kernel_rfl
  m17 := by kernel_rfl
  m18 := by kernel_rfl
  m19 := by kernel_rfl }
open Go.RowKit Go.Sort Go.Lib in
theorem Tryd.strconv_Itoa (n : Int) (h0 : -9223372036854775808 ≤ n) (h1 : n ≤ 9223372036854775807) (w : World) (htab : Lib.TabIs Tryd.prog w "internal/strconv.uint64pow10" .u64 Lib.pow10Tab) :
    Calls Tryd.prog 74 #[.int .i64 n] w fun e w' => e = .returned (.string ⟨(Lib.itoa n).toArray⟩) ∧ ∃ k os, w' = grow (w.drewN k) os := Any.strconv_Itoa Tryd.laysM171 n h0 h1 w htab
end Go.Proofs
namespace Go.Proofs.YtagdcclpibjfoaaDoor
open Go.Vm
namespace Txt

/-- The table of the powers of ten lies where it was laid. -/
def TabW (w : World) : Prop := Lib.TabIs Tryd.prog w "internal/strconv.uint64pow10" .u64 Lib.pow10Tab
theorem TabW.frame {w w' : World} (h : TabW w) (hf : ∀ b, b < w.heap.size → w'.heap[b]? = w.heap[b]?) : TabW w' := by
  unfold TabW Lib.TabIs World.var? at *
  cases hg : Tryd.prog.globalNamed "internal/strconv.uint64pow10" with
  | none => rw [hg] at h; cases h
  | some g =>
    rw [hg] at h
    simp only [Option.bind_some] at h ⊢
    have hlt : g < w.heap.size := by
      rcases Nat.lt_or_ge g w.heap.size with h1 | h1
      · exact h1
      · rw [Array.getElem?_eq_none h1] at h; cases h
    rw [hf g hlt]; exact h
theorem TabW.of {β : Base} {ρ : Env} {H : Heap} {nl : Nat} {w : World} (h : TabW β.w0) (hown : β.own = []) (hr : HRel β ρ H nl w) : TabW w :=
  h.frame fun b hb => hr.frame b hb fun l hl => by rw [hown] at hl; cases hl
theorem framed_grow (w : World) (k : Nat) (os : Array Obj) : Framed w (Go.Sort.grow (w.drewN k) os) :=
  ⟨by show w.heap.size ≤ (w.heap ++ os).size; simp, fun b hb => by show (w.heap ++ os)[b]? = _; rw [Array.getElem?_append_left hb], rfl, rfl, rfl⟩
theorem itoa74 {w : World} (h : TabW w) (n : Int) (h1 : -9223372036854775808 ≤ n) (h2 : n < 9223372036854775808) : Calls Tryd.prog 74 #[.int .i64 n] w (fun e w' => e = .returned (.string ⟨(Lib.itoa n).toArray⟩) ∧ Framed w w') :=
  (Tryd.strconv_Itoa n h1 (by omega) w h).mono fun e w' ⟨he, k, os, hw⟩ => ⟨he, by rw [hw]; exact framed_grow w k os⟩
/-- Every number under a name is an int. -/
def RangeG : GP := fun I _ _ V _ => (∀ i, i ≠ 15 → -9223372036854775808 ≤ I i ∧ I i < 9223372036854775808) ∧ (∀ n, n % 16 ≠ 15 → -9223372036854775808 ≤ selI (V 0) n ∧ selI (V 0) n < 9223372036854775808) ∧ ∀ a n, a ≠ 0 → -9223372036854775808 ≤ selI (V a) n ∧ selI (V a) n < 9223372036854775808
/-- Is that an int? (The number 15 is none; of the row 0, whose elements have sixteen cells, the last cell is none.) -/
def rangeT : IT → Bool
  | .var i => !Nat.beq i 15
  | .sel a sz j _ => cond (Nat.beq a 0) (Nat.beq sz 16 && Nat.blt j 15) true
  | .cv .i64 _ | .bin .add .i64 _ _ | .bin .sub .i64 _ _ | .bin .mul .i64 _ _ => true
  | .lit n => iLt (-9223372036854775809) n && iLt n 9223372036854775808
  | _ => false
theorem wrap_ge (x : Int) : -9223372036854775808 ≤ IntKind.i64.wrap x := by rw [IntKind.wrap_i64]; omega
theorem rangeT_ok {ρ : Env} {t : IT} {x : Int} (h : rangeT t = true) (hG : RangeG.at ρ) (hx : t.den ρ = some x) : -9223372036854775808 ≤ x ∧ x < 9223372036854775808 := by
  unfold rangeT at h
  split at h
  · rename_i i
    simp only [IT.den, Option.some.injEq] at hx
    rw [← hx]
    refine hG.1 _ fun e => ?_
    subst e
    simp at h
  · rename_i a sz j i
    simp only [IT.den] at hx
    obtain ⟨y, _, rfl⟩ := Option.map_eq_some_iff.1 hx
    cases ha : Nat.beq a 0 with
    | true =>
      rw [ha] at h
      simp only [cond_true, Bool.and_eq_true] at h
      obtain rfl := Nat.eq_of_beq_eq_true ha
      obtain rfl := Nat.eq_of_beq_eq_true h.1
      have hj : j < 15 := nat_blt_lt h.2
      exact hG.2.1 _ (by omega)
    | false =>
      refine hG.2.2 _ _ fun e => ?_
      subst e; cases ha
  · simp only [IT.den] at hx
    obtain ⟨y, _, rfl⟩ := Option.map_eq_some_iff.1 hx
    exact ⟨wrap_ge _, wrap_lt _⟩
  · simp only [IT.den] at hx
    split at hx
    · simp only [intBin, Option.some.injEq] at hx; rw [← hx]; exact ⟨wrap_ge _, wrap_lt _⟩
    · cases hx
  · simp only [IT.den] at hx
    split at hx
    · simp only [intBin, Option.some.injEq] at hx; rw [← hx]; exact ⟨wrap_ge _, wrap_lt _⟩
    · cases hx
  · simp only [IT.den] at hx
    split at hx
    · simp only [intBin, Option.some.injEq] at hx; rw [← hx]; exact ⟨wrap_ge _, wrap_lt _⟩
    · cases hx
  · simp only [IT.den, Option.some.injEq] at hx
    subst hx
    simp only [Bool.and_eq_true, iLt_eq, decide_eq_true_eq] at h
    omega
  · cases h
/-- A number's text, under its name (1). -/
def spItoa : SpG := fun args H nl cs => match args with
  | [.int .i64 t] => match t.toP with
    | some p => cond (rangeT t) (some [.ret (.str (.fn 1 p (.lit 0))) H nl cs]) none
    | none => none
  | _ => none
theorem spText_ok {β : Base} {g : FuncId} (hG : ∀ I B S V F, β.G I B S V F → S = Sx ∧ RangeG I B S V F)
    (hg : ∀ {ρ : Env} {H : Heap} {nl : Nat} {w : World}, HRel β ρ H nl w → ∀ n, -9223372036854775808 ≤ n → n < 9223372036854775808 → Calls Tryd.prog g #[.int .i64 n] w (fun e w' => e = .returned (.string ⟨(Lib.itoa n).toArray⟩) ∧ Framed w w')) : SpGOk Tryd.prog β g spItoa := by
  intro args H nl cs ls ρ w xs hr hx hh hc
  unfold spItoa at hr
  split at hr
  rotate_left
  · cases hr
  rename_i t
  split at hr
  rotate_left
  · cases hr
  rename_i p hp
  cases hb : rangeT t with
  | false => rw [hb] at hr; cases hr
  | true =>
    rw [hb] at hr
    simp only [cond_true, Option.some.injEq] at hr
    subst hr
    have hd := IT.toP_den (ρ := ρ) hp
    simp only [AVal.denL, AVal.den, hd, Option.map_some, Option.some.injEq] at hx
    subst hx
    obtain ⟨hS, hR⟩ := hG _ _ _ _ _ hh.g
    obtain ⟨h1, h2⟩ := rangeT_ok hb hR hd
    have hS : ρ.S = Sx := hS
    have hf := fn_den hS (k := 1) (p := p) (q := .lit 0) rfl rfl (by show (Lib.itoa (p.den ρ)).length ≤ _; have := itoa_len h1 h2; omega)
    exact spV_ok (hg hh _ h1 h2) (by simp only [AVal.den, hf]; rfl) hh hc
end Txt
end Go.Proofs.YtagdcclpibjfoaaDoor
