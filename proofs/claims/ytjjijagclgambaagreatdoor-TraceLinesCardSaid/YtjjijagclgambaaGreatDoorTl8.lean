/-
  Trace lines (8): the law answers true, of whatever values.
-/
import Derived.Test.YtjjijagclgambaaGreatDoorTl7
namespace Go.Proofs.YtjjijagclgambaaGreatDoor
open Go.Vm Go.TraceP
namespace Txt

-- WHAT CAME IN
structure Dw where
  h : Nat
  v : Value
  n : Nat
  s : ByteArray
def GW (d : Dw) : GP := fun I _ S V _ => (S 31 = d.s ∧ S 32 = bytes (lineT d.h d.v d.n)) ∧ (I 35 = d.h ∧ (I 36 = d.n ∧ V 0 = d.v)) ∧ ∀ j, j < 7 → I (40 + j) = (cnt d.s d.s.size j : Int)
noncomputable def envW (d : Dw) (o q b : Nat) : Env := ⟨fun i => if i = 35 then (d.h : Int) else if i = 36 then (d.n : Int) else if i = 62 then (o : Int) else if i = 63 then (q : Int) else if 40 ≤ i then (cnt d.s d.s.size (i - 40) : Int) else 0, fun _ => false, fun i => if i = 31 then d.s else if i = 32 then bytes (lineT d.h d.v d.n) else default, fun i => if i = 0 then d.v else undef, fun i => if i = 0 then some b else none, F0⟩
theorem envW_G (d : Dw) (o q b : Nat) : (GW d).at (envW d o q b) := ⟨⟨rfl, rfl⟩, ⟨rfl, rfl, rfl⟩, fun j hj => by
  show (if 40 + j = 35 then (d.h : Int) else if 40 + j = 36 then (d.n : Int) else if 40 + j = 62 then (o : Int) else if 40 + j = 63 then (q : Int) else if 40 ≤ 40 + j then (cnt d.s d.s.size (40 + j - 40) : Int) else 0) = _
  rw [if_neg (by omega), if_neg (by omega), if_neg (by omega), if_neg (by omega), if_pos (by omega), Nat.add_sub_cancel_left]⟩
structure DwOk (d : Dw) (k : Nat) : Prop where
  k3 : k < 3
  hh : d.h < 18446744073709551616
  n50 : d.n ≤ 50
  ok : OkRow d.v
  s5 : d.s.size ≤ 500
  no : k ≠ 2 → d.n = 0 ∧ d.v = undef
section
variable {d : Dw} {k : Nat}
/-- What the batch is. -/
theorem bat_den {w : World} {β : Base} {ρ : Env} {H : Heap} {nl : Nat} {xs : List Value} (ok : DwOk d k) (hG : (GW d).at ρ) (hh : HRel β ρ H nl w) (hr : rowOk k H = true) (hx : AVal.denL ρ [batL k] = some xs) :
    (NoSl (.slice none 0 0) → k ≠ 2 → ∃ x, NoSl x ∧ xs = [.agg #[.int .u64 d.h, x]]) ∧ (k = 2 → ∃ b o q : Nat, RowAt w b o ks8 d.n d.v ∧ xs = [.agg #[.int .u64 d.h, .slice (some ⟨b, o, none⟩) d.n q]]) := by
  obtain ⟨_, ⟨h35, h36, hv⟩, _⟩ := hG
  have h35 : ρ.I 35 = (d.h : Int) := h35
  have h36 : ρ.I 36 = (d.n : Int) := h36
  have hv : ρ.V 0 = d.v := hv
  have e1 : (AVal.int .u64 (.var 35)).den ρ = some (.int .u64 d.h) := by simp only [AVal.den, IT.den, h35, Option.map_some]
  have key : ∀ x, (kA k).den ρ = some x → xs = [.agg #[.int .u64 d.h, x]] := fun x hx2 => by
    have : AVal.denL ρ [batL k] = some [.agg #[.int .u64 d.h, x]] := denL1 (by simp only [batL, AVal.den, denL2 e1 hx2, Option.map_some])
    exact Option.some.inj (hx.symm.trans this)
  have hd : ∃ x, (kA k).den ρ = some x := by
    simp only [batL, AVal.denL, AVal.den] at hx
    cases hk : (kA k).den ρ with
    | some x => exact ⟨x, rfl⟩
    | none => rw [hk] at hx; simp [IT.den] at hx
  obtain ⟨x, hx2⟩ := hd
  have hxs := key x hx2
  refine ⟨fun _ hk => ?_, fun hk => ?_⟩
  · have hk3 := ok.k3
    match k, hk3, hx2, hk with
    | 0, _, hx2, _ =>
      obtain rfl : (Value.slice none 0 0) = x := Option.some.inj hx2
      exact ⟨_, .inl rfl, hxs⟩
    | 1, _, hx2, _ =>
      obtain ⟨b, o, n, c, rfl, _, _, hn, _⟩ := den_slice hx2
      have : n = 0 := by
        simp only [IT.den, Option.some.injEq] at hn
        have h0 : (0 : Int) = (n : Int) := hn
        omega
      subst this
      exact ⟨_, .inr ⟨b, o, c, rfl⟩, hxs⟩
    | 2, _, _, hk => exact absurd rfl hk
  · subst hk
    simp only [rowOk] at hr
    rw [show Nat.beq 2 2 = true from rfl, cond_true] at hr
    split at hr
    rotate_left
    · cases hr
    rename_i n hn
    obtain rfl := IT.beq_eq hr
    obtain ⟨b, o, m, c, rfl, hm, hR⟩ := rowArg_ok hn (show SLl.den ρ = some x from hx2) hh
    obtain rfl : m = d.n := by
      simp only [IT.den, h36, Option.some.injEq] at hm
      omega
    rw [hv] at hR
    exact ⟨b, o, c, hR, hxs⟩
theorem spLn_ok {w0 : World} {g : FuncId} (ok : DwOk d k) (hn : ∀ {w : World} {H : Heap} {nl : Nat} {ρ : Env}, HRel ⟨w0, [], GW d⟩ ρ H nl w → ∀ x, NoSl x → Calls Tryz.prog g #[.agg #[.int .u64 d.h, x]] w (fun e w' => e = .returned (.string (bytes (lineT d.h undef 0))) ∧ Framed w w'))
    (hr : ∀ {w : World} {H : Heap} {nl : Nat} {ρ : Env}, HRel ⟨w0, [], GW d⟩ ρ H nl w → ∀ b o q : Nat, RowAt w b o ks8 d.n d.v → Calls Tryz.prog g #[.agg #[.int .u64 d.h, .slice (some ⟨b, o, none⟩) d.n q]] w (fun e w' => e = .returned (.string (bytes (lineT d.h d.v d.n))) ∧ Framed w w')) :
    SpGOk Tryz.prog ⟨w0, [], GW d⟩ g (spLn k) := by
  intro args H nl cs ls ρ w xs hr' hx hh hc
  dsimp only [spLn] at hr'
  cases hb : (AVal.beqL args [batL k] && rowOk k H) with
  | false => rw [hb] at hr'; cases hr'
  | true =>
    rw [hb] at hr'
    simp only [cond_true, Option.some.injEq] at hr'
    subst hr'
    simp only [Bool.and_eq_true] at hb
    obtain ⟨h1, h2⟩ := hb
    obtain rfl := AVal.beqL_eq _ _ h1
    have hG : (GW d).at ρ := hh.g
    obtain ⟨a1, a2⟩ := bat_den ok hG hh h2 hx
    have h32 : ρ.S 32 = bytes (lineT d.h d.v d.n) := hG.1.2
    have hu : (AVal.str (.var 32)).den ρ = some (.string (bytes (lineT d.h d.v d.n))) := by simp only [AVal.den, ST.den, h32]
    by_cases hk : k = 2
    · obtain ⟨b, o, q, hR, rfl⟩ := a2 hk
      exact spV_ok (hr hh b o q hR) hu hh hc
    · obtain ⟨x, hN, rfl⟩ := a1 (.inl rfl) hk
      obtain ⟨e1, e2⟩ := ok.no hk
      rw [e1, e2] at hu
      exact spV_ok (hn hh x hN) hu hh hc
theorem spKd_ok {w0 : World} : SpGOk Tryz.prog ⟨w0, [], GW d⟩ 7 spKd := by
  intro args H nl cs ls ρ w xs hr hx hh hc
  dsimp only [spKd] at hr
  cases hb : AVal.beqL args [.str (.var 31)] with
  | false => rw [hb] at hr; cases hr
  | true =>
    rw [hb] at hr
    simp only [cond_true, Option.some.injEq] at hr
    subst hr
    obtain rfl := AVal.beqL_eq _ _ hb
    have hG : (GW d).at ρ := hh.g
    have h31 : ρ.S 31 = d.s := hG.1.1
    have hI := hG.2.2
    obtain rfl : [.string d.s] = xs := by
      simp only [AVal.denL, AVal.den, ST.den, h31, Option.some.injEq] at hx
      exact hx
    have i0 := hI 0 (by omega); have i1 := hI 1 (by omega); have i2 := hI 2 (by omega); have i3 := hI 3 (by omega)
    have i4 := hI 4 (by omega); have i5 := hI 5 (by omega); have i6 := hI 6 (by omega)
    have hv : ∃ x, kdV.den ρ = some x ∧ kdV.den (envK d.s) = some x := by
      refine ⟨.agg #[.int .i64 (cnt d.s d.s.size 0), .int .i64 (cnt d.s d.s.size 1), .int .i64 (cnt d.s d.s.size 2), .int .i64 (cnt d.s d.s.size 3), .int .i64 (IntKind.i64.wrap ((cnt d.s d.s.size 4 : Int) + cnt d.s d.s.size 5)), .int .i64 (cnt d.s d.s.size 6)], ?_, rfl⟩
      simp only [kdV, AVal.den, AVal.denL, IT.den, intBin, i0, i1, i2, i3, i4, i5, i6, Nat.add_zero, Option.map_some] at i0 i1 i2 i3 i4 i5 i6 ⊢
    obtain ⟨x, hx1, hx2⟩ := hv
    exact spV_ok (kinds7 hx2) hx1 hh hc
end
end Txt
end Go.Proofs.YtjjijagclgambaaGreatDoor
