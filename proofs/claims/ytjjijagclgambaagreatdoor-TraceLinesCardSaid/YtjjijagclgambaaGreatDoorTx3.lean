/-
  Trace lines (Tx3): texts of numbers, as the machine knows them.
-/
import Derived.Test.YtjjijagclgambaaGreatDoorTx2
import Derived.Test.YtjjijagclgambaaGreatDoorTl1
namespace Go.Proofs.YtjjijagclgambaaGreatDoor
open Go.Vm
namespace Txt

/-- The table of the powers of ten lies where it was laid. -/
def TabW (w : World) : Prop := Lib.TabIs Tryz.prog w "internal/strconv.uint64pow10" .u64 Lib.pow10Tab
theorem TabW.frame {w w' : World} (h : TabW w) (hf : ∀ b, b < w.heap.size → w'.heap[b]? = w.heap[b]?) : TabW w' := by
  unfold TabW Lib.TabIs World.var? at *
  cases hg : Tryz.prog.globalNamed "internal/strconv.uint64pow10" with
  | none => rw [hg] at h; cases h
  | some g =>
    rw [hg] at h
    simp only [Option.bind_some] at h ⊢
    have hlt : g < w.heap.size := by
      rcases Nat.lt_or_ge g w.heap.size with h1 | h1
      · exact h1
      · rw [Array.getElem?_eq_none h1] at h; cases h
    rw [hf g hlt]; exact h
theorem TabW.of {β : Base} {ρ : Env} {H : Heap} {nl : Nat} {w : World} (h : TabW β.w0) (hown : β.own = []) (hr : HRel β ρ H nl w) : TabW w :=
  h.frame fun b hb => hr.frame b hb fun l hl => by rw [hown] at hl; cases hl
theorem framed_grow (w : World) (k : Nat) (os : Array Obj) : Framed w (Go.Sort.grow (w.drewN k) os) :=
  ⟨by show w.heap.size ≤ (w.heap ++ os).size; simp, fun b hb => by show (w.heap ++ os)[b]? = _; rw [Array.getElem?_append_left hb], rfl, rfl, rfl⟩
theorem itoa14 {w : World} (h : TabW w) (n : Int) (h1 : -9223372036854775808 ≤ n) (h2 : n < 9223372036854775808) : Calls Tryz.prog 14 #[.int .i64 n] w (fun e w' => e = .returned (.string ⟨(Lib.itoa n).toArray⟩) ∧ Framed w w') :=
  (Tryz.strconv_Itoa n h1 (by omega) w h).mono fun e w' ⟨he, k, os, hw⟩ => ⟨he, by rw [hw]; exact framed_grow w k os⟩
/-- Every number under a name is an int. -/
def RangeG : GP := fun I _ _ V _ => (∀ i, i ≠ 15 → i < 60 → -9223372036854775808 ≤ I i ∧ I i < 9223372036854775808) ∧ (∀ n, n % 8 ≠ 1 → -9223372036854775808 ≤ selI (V 0) n ∧ selI (V 0) n < 9223372036854775808) ∧ ∀ a n, a ≠ 0 → -9223372036854775808 ≤ selI (V a) n ∧ selI (V a) n < 9223372036854775808
/-- Is that an int? (The number 15 is none; of the row 0, whose elements have sixteen cells, the last cell is none.) -/
def rangeT : IT → Bool
  | .var i => !Nat.beq i 15 && Nat.blt i 60
  | .sel a sz j _ => cond (Nat.beq a 0) (Nat.beq sz 8 && (Nat.blt j 8 && !Nat.beq j 1)) true
  | .cv .i64 _ | .bin .add .i64 _ _ | .bin .sub .i64 _ _ | .bin .mul .i64 _ _ => true
  | .lit n => iLt (-9223372036854775809) n && iLt n 9223372036854775808
  | _ => false
theorem wrap_ge (x : Int) : -9223372036854775808 ≤ IntKind.i64.wrap x := by rw [IntKind.wrap_i64]; omega
theorem rangeT_ok {ρ : Env} {t : IT} {x : Int} (h : rangeT t = true) (hG : RangeG.at ρ) (hx : t.den ρ = some x) : -9223372036854775808 ≤ x ∧ x < 9223372036854775808 := by
  unfold rangeT at h
  split at h
  · rename_i i
    simp only [IT.den, Option.some.injEq] at hx
    rw [← hx]
    simp only [Bool.and_eq_true] at h
    exact hG.1 _ (fun e => by subst e; exact absurd h.1 (by decide)) (nat_blt_lt h.2)
  · rename_i a sz j i
    simp only [IT.den] at hx
    obtain ⟨y, _, rfl⟩ := Option.map_eq_some_iff.1 hx
    cases ha : Nat.beq a 0 with
    | true =>
      rw [ha] at h
      simp only [cond_true, Bool.and_eq_true] at h
      obtain rfl := Nat.eq_of_beq_eq_true ha
      obtain rfl := Nat.eq_of_beq_eq_true h.1
      have hj : j < 8 := nat_blt_lt h.2.1
      have hj1 : j ≠ 1 := fun e => by subst e; exact absurd h.2.2 (by decide)
      exact hG.2.1 _ (by omega)
    | false =>
      refine hG.2.2 _ _ fun e => ?_
      subst e; cases ha
  · simp only [IT.den] at hx
    obtain ⟨y, _, rfl⟩ := Option.map_eq_some_iff.1 hx
    exact ⟨wrap_ge _, wrap_lt _⟩
  · simp only [IT.den] at hx
    split at hx
    · simp only [intBin, Option.some.injEq] at hx; rw [← hx]; exact ⟨wrap_ge _, wrap_lt _⟩
    · cases hx
  · simp only [IT.den] at hx
    split at hx
    · simp only [intBin, Option.some.injEq] at hx; rw [← hx]; exact ⟨wrap_ge _, wrap_lt _⟩
    · cases hx
  · simp only [IT.den] at hx
    split at hx
    · simp only [intBin, Option.some.injEq] at hx; rw [← hx]; exact ⟨wrap_ge _, wrap_lt _⟩
    · cases hx
  · simp only [IT.den, Option.some.injEq] at hx
    subst hx
    simp only [Bool.and_eq_true, iLt_eq, decide_eq_true_eq] at h
    omega
  · cases h
/-- A number's text, under its name (1). -/
def spItoa : SpG := fun args H nl cs => match args with
  | [.int .i64 t] => match t.toP with
    | some p => cond (rangeT t) (some [.ret (.str (.fn 1 p (.lit 0))) H nl cs]) none
    | none => none
  | _ => none
theorem spText_ok {β : Base} {g : FuncId} (hG : ∀ I B S V F, β.G I B S V F → SxOk S ∧ RangeG I B S V F)
    (hg : ∀ {ρ : Env} {H : Heap} {nl : Nat} {w : World}, HRel β ρ H nl w → ∀ n, -9223372036854775808 ≤ n → n < 9223372036854775808 → Calls Tryz.prog g #[.int .i64 n] w (fun e w' => e = .returned (.string ⟨(Lib.itoa n).toArray⟩) ∧ Framed w w')) : SpGOk Tryz.prog β g spItoa := by
  intro args H nl cs ls ρ w xs hr hx hh hc
  unfold spItoa at hr
  split at hr
  rotate_left
  · cases hr
  rename_i t
  split at hr
  rotate_left
  · cases hr
  rename_i p hp
  cases hb : rangeT t with
  | false => rw [hb] at hr; cases hr
  | true =>
    rw [hb] at hr
    simp only [cond_true, Option.some.injEq] at hr
    subst hr
    have hd := IT.toP_den (ρ := ρ) hp
    simp only [AVal.denL, AVal.den, hd, Option.map_some, Option.some.injEq] at hx
    subst hx
    obtain ⟨hS, hR⟩ := hG _ _ _ _ _ hh.g
    obtain ⟨h1, h2⟩ := rangeT_ok hb hR hd
    have hS : SxOk ρ.S := hS
    have hf := fn_den hS (k := 1) (p := p) (q := .lit 0) rfl rfl (by show (Lib.itoa (p.den ρ)).length ≤ _; have := itoa_len h1 h2; omega)
    exact spV_ok (hg hh _ h1 h2) (by simp only [AVal.den, hf]; rfl) hh hc
end Txt
end Go.Proofs.YtjjijagclgambaaGreatDoor
