/-
  LeastPlays: what holds of a stock and its reference, and what a round makes of it, plainly.
-/
import Derived.Test.YtlcjgmehccopkaaLb2
namespace Go.Proofs.Ytlcjgmehccopkaa
open Go.Vm Go.Vm.Le
namespace La
open Lp

/-- A stock's number, its reference's row (its number, its length), its highest; at most so many are in use. -/
structure Sv (most : Int) (c : Nat) (y : Bool) (K : List Int) (x k h l : Int) : Prop where
  x : x = encL (most :: h :: K)
  row : y = true → k = encL K ∧ l = K.length ∧ K ≠ []
  nil : y = false → K = []
  nd : K.Nodup
  le : K.length ≤ c
  h0 : 0 ≤ h
theorem lf_notin {most : Int} {K : List Int} (h : lf most K ≠ 0) : lf most K ∉ K := by
  unfold lf at h ⊢
  cases hf : (((List.range most.toNat).map fun (i : Nat) => (i : Int) + 1).find? fun x => decide (x ∉ K)) with
  | none => rw [hf] at h; simp at h
  | some x =>
    have := List.find?_some hf
    simpa using this
theorem rest_erase {K : List Int} (h : K.Nodup) (n : Int) : rest n K = K.erase n := by
  rw [rest, h.erase_eq_filter]
  congr 1
  funext x
  rw [Bool.eq_iff_iff]; simp
section
variable {most : Int} {c : Nat} {y : Bool} {K : List Int} {x k h l : Int}
theorem Sv.mono (s : Sv most c y K x k h l) {c' : Nat} (hc : c ≤ c') : Sv most c' y K x k h l := ⟨s.x, s.row, s.nil, s.nd, by have := s.le; omega, s.h0⟩
theorem Sv.lfx (s : Sv most c y K x k h l) : sLf x = lf most K := by rw [s.x]; simp only [sLf, sMost_enc, sK_enc]
/-- A row's number, wherever it is told. -/
def isRow (K : List Int) (z : Int) : Prop := decL z = K
theorem Sv.take (s : Sv most c y K x k h l) (hl : lf most K ≠ 0) : Sv most (c + 1) true (K ++ [lf most K]) (takeC x) (encL (K ++ [lf most K])) (if lf most K > h then lf most K else h) ((K.length + 1 : Nat) : Int) := by
  have h0 := s.h0
  refine ⟨?_, fun _ => ⟨rfl, by rw [List.length_append]; rfl, by simp⟩, (fun e => by cases e), ?_, by rw [List.length_append]; have := s.le; simp; omega, ?_⟩
  · have e := s.lfx
    rw [takeC, e, if_neg hl]
    rw [s.x]
    simp only [sMost_enc, sHigh_enc, sK_enc]
  · rw [List.nodup_append]
    refine ⟨s.nd, by simp, fun a ha b hb => ?_⟩
    rw [List.mem_singleton] at hb; subst hb
    intro e; subst e
    exact lf_notin hl ha
  · split <;> omega
theorem Sv.full (s : Sv most c y K x k h l) (hl : lf most K = 0) : Sv most (c + 1) y K (takeC x) k h l := by
  have h0 := s.h0
  refine ⟨?_, s.row, s.nil, s.nd, by have := s.le; omega, h0⟩
  have e := s.lfx
  rw [takeC, e, hl, if_pos rfl, if_neg, s.x]
  · simp only [sMost_enc, sHigh_enc, sK_enc]
  · rw [s.x]; simp only [sHigh_enc]; omega
theorem Sv.give (s : Sv most c y K x k h l) (z : Int) (sm : Bool) (hsm : sm = decide (rest z K ≠ [])) : Sv most (c + 1) sm (rest z K) (giveC x z) (encL (rest z K)) h ((rest z K).length : Int) := by
  refine ⟨?_, fun e => ⟨rfl, rfl, by subst e; simpa using hsm.symm⟩, fun e => ?_, ?_, ?_, s.h0⟩
  · rw [giveC, s.x]; simp only [sMost_enc, sHigh_enc, sK_enc, rest_erase s.nd]
  · subst e; simpa using hsm.symm
  · exact s.nd.filter _
  · have := rest_le z K; have := s.le; omega
end
-- THE HEAD
structure Jw (n : Nat) (most : Int) (p : Pat) (Ks : Nat → List Int) (i : Nat) (ρ : Env) : Prop where
  i1 : ρ.I 1 = (i : Int)
  il : i ≤ n
  n100 : n ≤ 100
  r60 : ρ.I 60 = most
  r61 : ρ.I 61 = (n : Int)
  m0 : 0 ≤ most
  m1 : most ≤ 65535
  n1 : 1 ≤ n
  p1 : 1 ≤ p.length
  p4 : p.length ≤ 4
  st : ∀ j, j < p.length → Sv most i (p.getD j false) (Ks j) (ρ.I (40 + j)) (ρ.I (44 + j)) (ρ.I (48 + j)) (ρ.I (52 + j))
theorem Jw.of_le {n : Nat} {most : Int} {p : Pat} {Ks : Nat → List Int} {i : Nat} {ρ ρ' : Env} (j : Jw n most p Ks i ρ) (g : ρ.Le ρ') : Jw n most p Ks i ρ' :=
  ⟨by rw [g.i]; exact j.i1, j.il, j.n100, by rw [g.i]; exact j.r60, by rw [g.i]; exact j.r61, j.m0, j.m1, j.n1, j.p1, j.p4, by rw [g.i]; exact j.st⟩
theorem csRows_ok {ρ : Env} : ∀ (p : Pat) (j : Nat), (∀ i, i < p.length → p.getD i false = true → 1 ≤ ρ.I (52 + (j + i)) ∧ ρ.I (52 + (j + i)) ≤ 70000) → CRel ρ (csRows j p)
  | [], j, _ => c0
  | y :: r, j, h => by
    refine CRel_app.2 ⟨?_, csRows_ok r (j + 1) fun i hi hy => ?_⟩
    · cases y with
      | false => exact c0
      | true =>
        have := h 0 (by simp) rfl
        exact c1 (geqT (varD rfl) (litD 1) this.1) (c1 (leqT (varD rfl) (litD 70000) this.2) c0)
    · have := h (i + 1) (by simpa using hi) (by simpa using hy)
      rw [show j + 1 + i = j + (i + 1) from by omega]; exact this
section
variable {n : Nat} {most : Int} {p : Pat} {Ks : Nat → List Int} {i : Nat} {ρ : Env}
theorem Jw.csA (j : Jw n most p Ks i ρ) : CRel ρ csA := by
  have h1 := j.n1; have h2 := j.n100; have h3 := j.m0; have h4 := j.m1
  have e1 := varD j.r61
  have e0 := varD j.r60
  exact c1 (geqT e1 (litD 1) (by omega)) (c1 (leqT e1 (litD 100) (by omega)) (c1 (gtrF e1 (litD 100) (by omega)) (c1 (lssF e0 (litD 0) h3) (c1 (gtrF e0 (litD 65535) h4) (c1 (leqT e0 (litD 65535) h4) (c1 (geqT e0 (litD 0) h3) c0))))))
theorem Jw.csW (j : Jw n most p Ks i ρ) : CRel ρ (csW p) := by
  have h1 := j.il; have h2 := j.n100
  refine CRel_app.2 ⟨CRel_app.2 ⟨c1 (geqT (varD j.i1) (litD 0) (by omega)) (c1 (leqT (varD j.i1) (varD j.r61) (by omega)) c0), csRows_ok p 0 fun q hq hy => ?_⟩, j.csA⟩
  rw [Nat.zero_add]
  have s := j.st q hq
  obtain ⟨_, e2, e3⟩ := s.row hy
  have := List.length_pos_iff.2 e3
  have := s.le
  rw [e2]; omega
theorem Jw.rowT (j : Jw n most p Ks i ρ) {q : Nat} (hq : q < p.length) : ∃ z, (La.rowT p q).den ρ = some z ∧ decL z = Ks q := by
  have s := j.st q hq
  unfold La.rowT
  cases hy : p.getD q false with
  | false => exact ⟨0, rfl, by rw [decL_zero, s.nil hy]⟩
  | true => exact ⟨encL (Ks q), varD (s.row hy).1, decL_encL _⟩
theorem Jw.lenT (j : Jw n most p Ks i ρ) {q : Nat} (hq : q < p.length) : (cond (p.getD q false) (IT.var (52 + q)) (.lit 0)).den ρ = some ((Ks q).length : Int) := by
  have s := j.st q hq
  cases hy : p.getD q false with
  | false => rw [s.nil hy]; rfl
  | true => exact varD (s.row hy).2.1
end
end La
end Go.Proofs.Ytlcjgmehccopkaa
