/-
  Stocks (4): what Take, Give, Used, Len, High answer, and make of a stock.
-/
import Derived.Test.YtlcjgmehccopkaaLp3
namespace Go.Proofs.Ytlcjgmehccopkaa
open Go.Vm Go.Vm.Le
namespace Lp

theorem noSpB (β : Base) : CallOk Try.prog β (spL []) := spL_ok fun _ hp => by cases hp
theorem sp8_ok (w : World) (z : Bk) : CallOk Try.prog (βS w z) sp8 := by
  refine spL_ok fun p hp => ?_
  simp only [List.mem_cons, List.not_mem_nil, or_false] at hp
  rcases hp with rfl | rfl
  · exact spUp_ok fun _ _ _ _ _ h => h
  · exact spDown_ok fun _ _ _ _ _ h => h
section
variable {w : World} {b : Nat} {F : Nat → Prop} {most : Int} {h : Nat} {B K : List Int} {ρ : Env} {z : Bk} {v : Value}
theorem own_in (hr : HRel ⟨w, oL z, GL⟩ ρ (ofP (hB z)) 5 w) (hF : ∀ l ∈ oL z, ∀ y, ρ.N l = some y → F y) : ∀ l ∈ oL z, ∃ y, ρ.N l = some y ∧ F y := fun l hl => by
  obtain ⟨k, hk⟩ : ∃ k, (ofP (hB z)).get l = some k := by
    cases z <;> simp only [oL, List.mem_cons, List.not_mem_nil, or_false] at hl
    · rcases hl with rfl | rfl <;> exact ⟨_, rfl⟩
    · rcases hl with rfl | rfl <;> exact ⟨_, rfl⟩
    · rcases hl with rfl | rfl | rfl <;> exact ⟨_, rfl⟩
  obtain ⟨y, _, hy, _⟩ := hr.blk l k hk
  exact ⟨y, hy, hF l hl y hy⟩
theorem me_den (hb : ρ.N 0 = some b) : me.den ρ = some (.pointer (some ⟨b, 0, none⟩)) := by
  simp only [me, AVal.den, hb]; rfl
theorem csB_ok (s : S02 v 0 most 0 h B K ρ) (r : z = .row → R02 B ρ) : CRel ρ (csB z) := by
  have h1 := s.s.le; have h2 := s.m0; have h3 := s.m; have h4 := s.bl
  have e0 : (IT.var 0).den ρ = some most := congrArg some s.i0
  have e3 : (IT.var 3).den ρ = some (h : Int) := congrArg some s.i3
  have a : CRel ρ csS := c1 (geqT e0 (litD 0) h2) (c1 (leqT e0 (litD 65535) h3) (c1 (geqT e3 (litD 0) (by omega)) (c1 (leqT e3 e0 h1) c0')))
  cases z with
  | nil => exact a
  | zero => exact a
  | row =>
    have r := r rfl
    have h5 := r.le
    exact CRel_app.2 ⟨c1 (geqT (varD r.i6) (litD 0) (by omega)) (c1 (leqT (varD r.i6) (litD 65535) (by omega)) (c1 (leqT (varD r.i6) (varD r.i7) (by omega)) c0')), a⟩
theorem qf_ok (r : z = .row → R02 B ρ) (h0 : B = []) : CRel ρ (qf z) := by
  cases z with
  | nil => exact c0'
  | zero => exact c0'
  | row => exact f6_ok (r rfl) (b := false) (by rw [h0]; rfl)
theorem cap_of {w' : World} (hr : HRel ⟨w', oL .row, GL⟩ ρ (ofP (hB .row)) 5 w') : ∃ cap, ρ.N 4 = some cap ∧ (decL (ρ.I 5)).length ≤ cap := by
  obtain ⟨cap, x, h1, h2, h3⟩ := room_ok hr (l := 1) (q := 4) (t := .code [.i64] (.var 5)) (an := .var 7) (c := .var 5) rfl rfl
  have h2 : ρ.I 5 = x := Option.some.inj h2
  exact ⟨cap, h1, by rw [h2]; exact h3⟩
end
/-- What Take answers, and makes. -/
def TakeR (w : World) (b : Nat) (F : Nat → Prop) (most : Int) (h : Nat) (K : List Int) (e : Ending) (w' : World) : Prop :=
  e = .returned (.tuple #[.int .i64 (lf most K), .int .i64 (if lf most K = 0 then 20 else 0)]) ∧ ∃ F', BigStep w w' F F' ∧ StockIn w' b F' most (max h (lf most K).toNat) (if lf most K = 0 then K else K ++ [lf most K])
theorem tk_den {ρ : Env} {x y : Int} (h8 : ρ.I 8 = x) (h9 : ρ.I 9 = y) : tk.den ρ = some (.tuple #[.int .i64 x, .int .i64 y]) := by
  simp only [tk, iV, AVal.den, AVal.denL, IT.den, h8, h9, Option.map_some]
theorem take8 {w : World} {b : Nat} {F : Nat → Prop} {most : Int} {h : Nat} {K : List Int} (s : StockIn w b F most h K) : Calls Try.prog 8 #[.pointer (some ⟨b, 0, none⟩)] w (TakeR w b F most h K) := by
  obtain ⟨z, ρ, B, hr, s2, hrow, hnil, hF, hb, hz⟩ := start (.agg #[]) s
  have ho := own_in hr hF
  have hx := denL1 (me_den hb)
  have hcs := csB_ok s2 hrow
  have hG : GL.at ρ := hr.g
  have hans : ∀ (x y : IT) (k : Nat), (k = 0 ∨ k = 3 ∨ k = 4 ∨ k = 5 ∨ k = 6 ∨ k = 7 ∨ k = 11) → lk [(8, x), (9, y)] k = none := fun x y k hk => by rcases hk with rfl | rfl | rfl | rfl | rfl | rfl | rfl <;> rfl
  by_cases hB0 : B = []
  · subst hB0
    have q := qf_ok hrow rfl
    by_cases hlt : (h : Int) < most
    · obtain ⟨s', hK, hlen, hall⟩ := s2.s.next hlt
      have hn : lf most K = (h : Int) + 1 := lf_eq (by omega) (by omega) hK fun i h1 h2 => by
        rcases List.mem_append.1 (hall i h1 (by omega)) with h3 | h3
        · exact h3
        · have := List.mem_singleton.1 h3; omega
      have e1 := h1_den s2
      refine (calls_sumsE (β := βS w z) (R := RS w b F most (h + 1) (K ++ [(h : Int) + 1]) (.tuple #[.int .i64 ((h : Int) + 1), .int .i64 0])) (g := gS) (L := oL z) (Rs := eS tk) (Ts := []) (pl := true) noCount noExt (sp8_ok w z) follows Try.func8 rfl (t_next z) hx hr (CRel_app.2 ⟨CRel_app.2 ⟨CRel_app.2 ⟨q, fHi_ok s2 (b := true) (decide_eq_true hlt)⟩, c1 (eqlF e1 (litD 0) (by omega)) c0'⟩, hcs⟩)
        (one (endS (x5' := ρ.I 5) hb ho hz s2 (hans _ _) s' (fun _ => rfl) (fun ρ' hle _ => by rw [h1_den (s2.of_le hle)]; rfl) (fun ρ' hle _ => put_den (s2.of_le hle) (h1_den (s2.of_le hle)) hK) (decL_encL _) (fun e ρ' hle _ => congrArg some ((hrow e).of_le hle).i6) (fun e ρ' hle _ => by show some (ρ'.I 5) = _; rw [hle.i]) (fun e => (hrow e).i5) (fun ρ' hle hG' => ?_)))).mono fun e w' ⟨y, he, hy, hst⟩ => ?_
      · exact tk_den (sbI (t := h1) (by cases z <;> rfl) (h1_den (s2.of_le hle))) (sbI (t := .lit 0) (by cases z <;> rfl) rfl)
      · refine ⟨by rw [he, hy, hn, if_neg (by omega)], ?_⟩
        rw [hn, if_neg (show ¬ (h : Int) + 1 = 0 by omega), show max h ((h : Int) + 1).toNat = h + 1 by omega]
        exact hst
    · have hn : lf most K = 0 := lf_zero fun i h1 h2 => by
        rcases (s2.s.mem (x := i)).2 ⟨h1, by omega⟩ with h3 | h3
        · cases h3
        · exact h3
      refine (calls_sumsE (β := βS w z) (R := RS w b F most h K (.tuple #[.int .i64 0, .int .i64 20])) (g := gS) (L := oL z) (Rs := eS tk) (Ts := []) (pl := true) noCount noExt (sp8_ok w z) follows Try.func8 rfl (t_full z) hx hr (CRel_app.2 ⟨CRel_app.2 ⟨q, fHi_ok s2 (b := false) (decide_eq_false hlt)⟩, hcs⟩)
        (one (endS (x4 := ρ.I 4) (x5' := ρ.I 5) hb ho hz s2 (hans _ _) s2.s (fun _ => rfl) (fun ρ' hle _ => congrArg some (s2.of_le hle).i3) (fun ρ' hle _ => by show some (ρ'.I 4) = _; rw [hle.i]) s2.i4 (fun e ρ' hle _ => congrArg some ((hrow e).of_le hle).i6) (fun e ρ' hle _ => by show some (ρ'.I 5) = _; rw [hle.i]) (fun e => (hrow e).i5) (fun ρ' hle hG' => ?_)))).mono fun e w' ⟨y, he, hy, hst⟩ => ?_
      · exact tk_den (sbI (t := .lit 0) (by cases z <;> rfl) rfl) (sbI (t := .lit 20) (by cases z <;> rfl) rfl)
      · refine ⟨by rw [he, hy, hn, if_pos rfl], ?_⟩
        rw [hn, if_pos rfl, show max h (0 : Int).toNat = h by simp]
        exact hst
  · obtain rfl : z = .row := Classical.byContradiction fun e => hB0 (hnil e)
    have r := hrow rfl
    have h0 : 0 < B.length := List.length_pos_iff.2 hB0
    have hbl := s2.bl
    obtain ⟨cap, h4, hcap⟩ := cap_of hr
    obtain ⟨s', hK, hn1, hn2, hall⟩ := s2.s.pop h0
    have hle := s2.s.le
    have hn : lf most K = at0 B 0 := lf_eq hn1 (by omega) hK fun i h1 h2 => by
      rcases List.mem_append.1 (hall i h1 (by omega)) with h3 | h3
      · exact h3
      · have := List.mem_singleton.1 h3; omega
    have hpl := (pop_ok s2.s.heap h0).1
    refine (calls_sumsE (β := βS w .row) (R := RS w b F most h (K ++ [at0 B 0]) (.tuple #[.int .i64 (at0 B 0), .int .i64 0])) (g := gS) (L := oL .row) (Rs := eS tk) (Ts := []) (pl := true) noCount noExt (sp8_ok w .row) follows Try.func8 rfl t_pop hx hr (CRel_app.2 ⟨CRel_app.2 ⟨CRel_app.2 ⟨f6_ok r (b := true) (decide_eq_true h0), fP_ok r h0 hbl h4 hcap⟩, c1 (eqlF (x5_den hG r s2 h0 hbl) (litD 0) (by omega)) c0'⟩, hcs⟩)
      (one (endS hb ho hz s2 (hans _ _) s' (fun e => absurd rfl e) (fun ρ' hle _ => congrArg some (s2.of_le hle).i3) (fun ρ' hle hG' => put_den (s2.of_le hle) (x5_den hG' (r.of_le hle) (s2.of_le hle) h0 hbl) hK) (decL_encL _) (fun _ ρ' hle _ => ?_) (fun _ ρ' hle hG' => by rw [dn5_den hG' (r.of_le hle) h0 hbl, hle.i]) (fun _ => ?_) (fun ρ' hle hG' => ?_)))).mono fun e w' ⟨y, he, hy, hst⟩ => ?_
    · rw [n6_den (r.of_le hle) h0 hbl, List.length_take, hpl, Nat.min_eq_left (Nat.sub_le _ _)]
    · rw [decL_encL, List.length_take, hpl, Nat.min_eq_left (Nat.sub_le _ _), List.take_append_of_le_length (by rw [hpl]; omega)]
    · exact tk_den (sbI (t := x5) rfl (x5_den hG' (r.of_le hle) (s2.of_le hle) h0 hbl)) (sbI (t := .lit 0) rfl rfl)
    · refine ⟨by rw [he, hy, hn, if_neg (by omega)], ?_⟩
      rw [hn, if_neg (show ¬ at0 B 0 = 0 by omega), show max h (at0 B 0).toNat = h by omega]
      exact hst
end Lp
end Go.Proofs.Ytlcjgmehccopkaa
