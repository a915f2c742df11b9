/-
  Reports (Dl): the library's text of a number, as the kit's shelf lays it at this program (printed by genli.py).
-/
import Derived.Test.YtgiomdniafpjnaaGreatDoorChecked
import Derived.Shelf.LaysM
import Derived.Shelf.Strconv.Itoa3
import Derived.Test.YtgiomdniafpjnaaGreatDoorDj2
section
namespace Go.Proofs
open Go.Shelf
def Tryz.laysM171_ren : Go.Shelf.Ren := ⟨fun | 171 => 14 | 243 => 40 | 246 => 71 | 283 => 111 | 284 => 112 | 285 => 113 | 286 => 114 | 129 => 154 | 317 => 153 | 318 => 155 | 319 => 156 | 320 => 157 | 337 => 202 | 338 => 203 | n => n, fun | 171 => 207 | 53 => 56 | 37 => 160 | 173 => 210 | 212 => 255 | 51 => 256 | 213 => 257 | 46 => 112 | 232 => 342 | 233 => 343 | n => n, fun | 17 => 0 | 18 => 1 | 19 => 2 | n => n⟩
theorem Tryz.laysM171 : Go.Proofs.LaysM.n171 Tryz.prog Tryz.laysM171_ren := {
  mixed := by kernel_rfl
  i0 := by kernel_rfl
  i2 := by kernel_rfl
  i3 := by kernel_rfl
  i4 := by kernel_rfl
  i5 := by kernel_rfl
  i9 := by kernel_rfl
  i20 := by kernel_rfl
  i37 := by kernel_rfl
  i46 := by kernel_rfl
  i51 := by kernel_rfl
  i53 := by kernel_rfl
  i171 := by kernel_rfl
  i173 := by kernel_rfl
  i212 := by kernel_rfl
  i232 := by kernel_rfl
  i233 := by kernel_rfl
  m17 := by kernel_rfl
  m18 := by kernel_rfl
  m19 := by kernel_rfl
  f129 := Tryz.func154.trans (congrArg some (by kernel_rfl))
  f171 := Tryz.func14.trans (congrArg some (by kernel_rfl))
  f243 := Tryz.func40.trans (congrArg some (by kernel_rfl))
  f246 := Tryz.func71.trans (congrArg some (by kernel_rfl))
  f283 := Tryz.func111.trans (congrArg some (by kernel_rfl))
  f284 := Tryz.func112.trans (congrArg some (by kernel_rfl))
  f285 := Tryz.func113.trans (congrArg some (by kernel_rfl))
  f286 := Tryz.func114.trans (congrArg some (by kernel_rfl))
  f317 := Tryz.func153.trans (congrArg some (by kernel_rfl))
  f318 := Tryz.func155.trans (congrArg some (by kernel_rfl))
  f319 := Tryz.func156.trans (congrArg some (by kernel_rfl))
  f320 := Tryz.func157.trans (congrArg some (by kernel_rfl))
  f337 := Tryz.func202.trans (congrArg some (by kernel_rfl))
  f338 := Tryz.func203.trans (congrArg some (by kernel_rfl))
  t0 := Tryz.underlying0
  a0 := Tryz.isAgg0
  z0 := Tryz.sizeOf0
  v0 := Tryz.zeroValue0
  t2 := Tryz.underlying2
  a2 := Tryz.isAgg2
  z2 := Tryz.sizeOf2
  v2 := Tryz.zeroValue2
  t3 := Tryz.underlying3
  a3 := Tryz.isAgg3
  z3 := Tryz.sizeOf3
  v3 := Tryz.zeroValue3
  t4 := Tryz.underlying4
  a4 := Tryz.isAgg4
  z4 := Tryz.sizeOf4
  v4 := Tryz.zeroValue4
  t5 := Tryz.underlying5
  a5 := Tryz.isAgg5
  z5 := Tryz.sizeOf5
  v5 := Tryz.zeroValue5
  t9 := Tryz.underlying9
  a9 := Tryz.isAgg9
  z9 := Tryz.sizeOf9
  v9 := Tryz.zeroValue9
  t20 := Tryz.underlying20
  a20 := Tryz.isAgg20
  z20 := Tryz.sizeOf20
  v20 := Tryz.zeroValue20
  t37 := Tryz.underlying160
  a37 := Tryz.isAgg160
  z37 := Tryz.sizeOf160
  v37 := Tryz.zeroValue160
  t46 := Tryz.underlying112
  a46 := Tryz.isAgg112
  z46 := Tryz.sizeOf112
  v46 := Tryz.zeroValue112
  t51 := Tryz.underlying256
  a51 := Tryz.isAgg256
  z51 := Tryz.sizeOf256
  v51 := Tryz.zeroValue256
  t53 := Tryz.underlying56
  a53 := Tryz.isAgg56
  z53 := Tryz.sizeOf56
  v53 := Tryz.zeroValue56
  t171 := Tryz.underlying207
  a171 := Tryz.isAgg207
  z171 := Tryz.sizeOf207
  v171 := Tryz.zeroValue207
  t173 := Tryz.underlying210
  a173 := Tryz.isAgg210
  z173 := Tryz.sizeOf210
  v173 := Tryz.zeroValue210
  t212 := Tryz.underlying255
  a212 := Tryz.isAgg255
  z212 := Tryz.sizeOf255
  v212 := Tryz.zeroValue255
  t213 := Tryz.underlying257
  a213 := Tryz.isAgg257
  z213 := Tryz.sizeOf257
  t232 := Tryz.underlying342
  a232 := Tryz.isAgg342
  z232 := Tryz.sizeOf342
  v232 := Tryz.zeroValue342
  t233 := Tryz.underlying343
  a233 := Tryz.isAgg343
  z233 := Tryz.sizeOf343
  v233 := Tryz.zeroValue343
  g17 := by kernel_rfl
  g18 := by kernel_rfl
  g19 := by kernel_rfl }
open Go.RowKit Go.Sort Go.Lib in
theorem Tryz.strconv_Itoa (n : Int) (h0 : -9223372036854775808 ≤ n) (h1 : n ≤ 9223372036854775807) (w : World) (htab : Lib.TabIs Tryz.prog w "internal/strconv.uint64pow10" .u64 Lib.pow10Tab) :
    Calls Tryz.prog 14 #[.int .i64 n] w fun e w' => e = .returned (.string ⟨(Lib.itoa n).toArray⟩) ∧ ∃ k os, w' = grow (w.drewN k) os := Any.strconv_Itoa Tryz.laysM171 n h0 h1 w htab
end Go.Proofs
end

/-
  Reports (3): texts of numbers, as the machine knows them.
-/
section
namespace Go.Proofs.YtgiomdniafpjnaaGreatDoor
open Go.Vm
namespace Txt

/-- The table of the powers of ten lies where it was laid. -/
def TabW (w : World) : Prop := Lib.TabIs Tryz.prog w "internal/strconv.uint64pow10" .u64 Lib.pow10Tab
theorem TabW.frame {w w' : World} (h : TabW w) (hf : ∀ b, b < w.heap.size → w'.heap[b]? = w.heap[b]?) : TabW w' := by
  unfold TabW Lib.TabIs World.var? at *
  cases hg : Tryz.prog.globalNamed "internal/strconv.uint64pow10" with
  | none => rw [hg] at h; cases h
  | some g =>
    rw [hg] at h
    simp only [Option.bind_some] at h ⊢
    have hlt : g < w.heap.size := by
      rcases Nat.lt_or_ge g w.heap.size with h1 | h1
      · exact h1
      · rw [Array.getElem?_eq_none h1] at h; cases h
    rw [hf g hlt]; exact h
theorem TabW.of {β : Base} {ρ : Env} {H : Heap} {nl : Nat} {w : World} (h : TabW β.w0) (hown : β.own = noO) (hr : HRel β ρ H nl w) : TabW w :=
  h.frame fun b hb => hr.frame b hb (by rw [hown]; exact id)
theorem framed_grow (w : World) (k : Nat) (os : Array Obj) : Framed w (Go.Sort.grow (w.drewN k) os) :=
  ⟨by show w.heap.size ≤ (w.heap ++ os).size; simp, fun b hb => by show (w.heap ++ os)[b]? = _; rw [Array.getElem?_append_left hb], rfl, rfl, rfl⟩
theorem itoa14 {w : World} (h : TabW w) (n : Int) (h1 : -9223372036854775808 ≤ n) (h2 : n < 9223372036854775808) : Calls Tryz.prog 14 #[.int .i64 n] w (fun e w' => e = .returned (.string ⟨(Lib.itoa n).toArray⟩) ∧ Framed w w') :=
  (Tryz.strconv_Itoa n h1 (by omega) w h).mono fun e w' ⟨he, k, os, hw⟩ => ⟨he, by rw [hw]; exact framed_grow w k os⟩
/-- Every number under a name is an int. -/
def RangeG : GP := fun I _ _ _ _ => ∀ i, i < 60 → -9223372036854775808 ≤ I i ∧ I i < 9223372036854775808
/-- Is that an int? -/
def rangeT : IT → Bool
  | .var i => Nat.blt i 60
  | .lit n => iLt (-9223372036854775809) n && iLt n 9223372036854775808
  | _ => false
theorem wrap_ge (x : Int) : -9223372036854775808 ≤ IntKind.i64.wrap x := by rw [IntKind.wrap_i64]; omega
theorem rangeT_ok {ρ : Env} {t : IT} {x : Int} (h : rangeT t = true) (hG : RangeG.at ρ) (hx : t.den ρ = some x) : -9223372036854775808 ≤ x ∧ x < 9223372036854775808 := by
  unfold rangeT at h
  split at h
  · rename_i i
    simp only [IT.den, Option.some.injEq] at hx
    rw [← hx]
    exact hG _ (nat_blt_lt h)
  · simp only [IT.den, Option.some.injEq] at hx
    subst hx
    simp only [Bool.and_eq_true, iLt_eq, decide_eq_true_eq] at h
    omega
  · cases h
/-- A number's text, under its name (1). -/
def spItoa : SpG := fun args H nl cs => match args with
  | [.int .i64 t] => match t.toP with
    | some p => cond (rangeT t) (some [.ret (.str (.fn 1 p (.lit 0))) H nl cs]) none
    | none => none
  | _ => none
theorem spText_ok {β : Base} {g : FuncId} (hG : ∀ I B S V F, β.G I B S V F → SxOk S ∧ RangeG I B S V F)
    (hg : ∀ {ρ : Env} {H : Heap} {nl : Nat} {w : World}, HRel β ρ H nl w → ∀ n, -9223372036854775808 ≤ n → n < 9223372036854775808 → Calls Tryz.prog g #[.int .i64 n] w (fun e w' => e = .returned (.string ⟨(Lib.itoa n).toArray⟩) ∧ Framed w w')) : SpGOk Tryz.prog β g spItoa := by
  intro args H nl cs ls ρ w xs hr hx hh hc
  unfold spItoa at hr
  split at hr
  rotate_left
  · cases hr
  rename_i t
  split at hr
  rotate_left
  · cases hr
  rename_i p hp
  cases hb : rangeT t with
  | false => rw [hb] at hr; cases hr
  | true =>
    rw [hb] at hr
    simp only [cond_true, Option.some.injEq] at hr
    subst hr
    have hd := IT.toP_den (ρ := ρ) hp
    simp only [AVal.denL, AVal.den, hd, Option.map_some, Option.some.injEq] at hx
    subst hx
    obtain ⟨hS, hR⟩ := hG _ _ _ _ _ hh.g
    obtain ⟨h1, h2⟩ := rangeT_ok hb hR hd
    have hS : SxOk ρ.S := hS
    have hf := fn_den hS (k := 1) (p := p) (q := .lit 0) rfl rfl (by show (Lib.itoa (p.den ρ)).length ≤ _; have := itoa_len h1 h2; omega)
    exact spV_ok (hg hh _ h1 h2) (by simp only [AVal.den, hf]; rfl) hh hc
end Txt
end Go.Proofs.YtgiomdniafpjnaaGreatDoor
end
