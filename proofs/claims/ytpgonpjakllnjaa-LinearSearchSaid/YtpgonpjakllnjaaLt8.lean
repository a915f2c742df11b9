/-
  LinearTells (7): Replay.
-/
import Derived.Test.YtpgonpjakllnjaaLt6
import Derived.Test.YtpgonpjakllnjaaVm30
section
namespace Go.Proofs.Ytpgonpjakllnjaa
open Go.Vm Go.Vm.Md Lm
namespace Lt

def rO : HB := ⟨.arr (.code [.i64, .i64] (.var 23)) [.i64, .i64] 27 (.var 22) (.lit 0) (some (.nv 12)), true⟩
def oR : IT := opT (rT (oT at9) 2) (rT (oT at9) 3) (rT (oT at9) 4) (rT (oT at9) 5)
def ouT (c : IT) : IT := .un 3 (.un 3 c (.fn 70 (.var 21) oR)) (.fn 71 (.var 21) oR)
def n0 : Kd → List (Nat × Nat)
  | .nil => []
  | _ => [(0, 0)]
/-- Below 0; not below 0, and too great. -/
def ngB (a : IT) : Cs := [q9 .lss a (.lit 0) true]
def ngC (k : Kd) (a : IT) : Cs := [q9 .lss a (.lit 0) false, q9 .geq a (nL k) true]
section
variable {d : Dt} {ρ : Env}
theorem inR_ways (ok : DOk d) (hG : (Gd d).at ρ) {a : IT} {k : Int} (ha : a.den ρ = some k) : (d.inR k = true ∧ d.kl = .row ∧ CRel ρ (inL a)) ∨ (d.inR k = false ∧ (CRel ρ (ngB a) ∨ CRel ρ (ngC d.kl a))) := by
  by_cases h0 : 0 ≤ k
  · by_cases h1 : k < (d.n : Int)
    · have e : d.inR k = true := by simp [Dt.inR, h0, h1]
      refine .inl ⟨e, ?_, inL_ok hG ha e⟩
      have hk := ok.kl
      cases hd : d.kl with
      | nil => rw [hd] at hk; simp only at hk; omega
      | zero => rw [hd] at hk; simp only at hk; omega
      | row => rfl
    · exact .inr ⟨by simp [Dt.inR, h1], .inr (qD ha (litD 0) (by simp [intCmp]; omega) (qD ha (dnL ok hG) (by simp [intCmp]; omega) c0))⟩
  · exact .inr ⟨by simp [Dt.inR, h0], .inl (qD ha (litD 0) (by simp [intCmp]; omega) c0)⟩
end
/-- A list that is told by a name, and how many elements. -/
structure JU (L : List Int) (c : Nat) (ρ : Env) : Prop where
  i22 : ρ.I 22 = (c : Int)
  i23 : ρ.I 23 = encL L
  ge : 1 ≤ c
  le : c ≤ 60
theorem JU.of_le {L : List Int} {c : Nat} {ρ ρ' : Env} (h : JU L c ρ) (g : ρ.Le ρ') : JU L c ρ' := ⟨by rw [g.i]; exact h.i22, by rw [g.i]; exact h.i23, h.ge, h.le⟩
theorem JU.cs {L : List Int} {c : Nat} {ρ : Env} (h : JU L c ρ) : CRel ρ csV := by
  have h1 := h.ge
  have h2 := h.le
  exact qD (varD h.i22) (litD 1) (by simp [intCmp]; omega) (qD (varD h.i22) (litD 60) (by simp [intCmp]; omega) (qD (varD h.i22) (litD _) (by simp [intCmp]; omega) c0))
structure JR0 (d : Dt) (i : Nat) (ρ : Env) : Prop where
  i9 : ρ.I 9 = (i : Int)
  le : i ≤ d.m
  i21 : ρ.I 21 = (d.stO i).code
theorem JR0.of_le {d : Dt} {i : Nat} {ρ ρ' : Env} (h : JR0 d i ρ) (g : ρ.Le ρ') : JR0 d i ρ' := ⟨by rw [g.i]; exact h.i9, h.le, by rw [g.i]; exact h.i21⟩
theorem tuple2 {ρ : Env} {a b : AVal} {x y : Value} (h : a.den ρ = some x) (g : b.den ρ = some y) : (AVal.tuple [a, b]).den ρ = some (.tuple #[x, y]) := by
  have := denL2 h g
  simp only [AVal.den]
  rw [this]; rfl
theorem stepO {d : Dt} {ρ : Env} {i : Nat} (hG : (Gd d).at ρ) (h9 : ρ.I 9 = (i : Int)) (h21 : ρ.I 21 = (d.stO i).code) (hin : d.inR (d.o i) = true) :
    (IT.fn 72 (.var 21) oR).den ρ = some (d.stO (i + 1)).code ∧ ∀ {c : IT} {L : List Int}, c.den ρ = some (encL L) → (ouT c).den ρ = some (encL (L ++ [(d.anO i).1, (d.anO i).2])) := by
  obtain ⟨_, _, _, _, g70, g71, g72⟩ := hG.2.1
  have e9 : at9.den ρ = some (i : Int) := varD h9
  have eo := oT_den hG e9
  have eO : oR.den ρ = some (encL [d.c (d.o i) 2, d.c (d.o i) 3, d.c (d.o i) 4, d.c (d.o i) 5]) := opT_den (rT_den hG eo 2) (rT_den hG eo 3) (rT_den hG eo 4) (rT_den hG eo 5)
  have e70 : (IT.fn 70 (.var 21) oR).den ρ = some (d.anO i).1 := by rw [fnD (varD h21) eO, g70]; simp only [apO_enc]; rfl
  have e71 : (IT.fn 71 (.var 21) oR).den ρ = some (d.anO i).2 := by rw [fnD (varD h21) eO, g71]; simp only [apO_enc]; rfl
  refine ⟨?_, fun hc => ?_⟩
  · rw [fnD (varD h21) eO, g72, Dt.stO, if_pos hin]; simp only [apO_enc]; rfl
  · have := snoc_den (snoc_den hc e70) e71
    rw [List.append_assoc] at this
    exact this
end Lt
end Go.Proofs.Ytpgonpjakllnjaa
end

/-
  LinearTells (8): what was seen, plainly; member.
-/
section
namespace Go.Proofs.Ytpgonpjakllnjaa
open Go.Vm Go.Vm.Md Lm
namespace Lt

-- WHAT WAS SEEN
theorem get_put : ∀ (L : List Int) (k v x : Int), L.length % 2 = 0 → mGet (mPut L k v) x = if k = x then some v else mGet L x
  | [], k, v, x, _ => by
    by_cases h : k = x <;> simp [mPut, mGet, h]
  | [_], k, v, x, h => by simp at h
  | a :: b :: r, k, v, x, h => by
    have hr : r.length % 2 = 0 := by simp only [List.length_cons] at h; omega
    by_cases e : a = k
    · subst e
      by_cases e2 : a = x <;> simp [mPut, mGet, e2]
    · simp only [mPut, if_neg e, mGet, get_put r k v x hr]
      by_cases e2 : a = x
      · subst e2
        rw [if_pos rfl, if_neg (fun h => e h.symm), if_pos rfl]
      · rw [if_neg e2, if_neg e2]
theorem len_put : ∀ (L : List Int) (k v : Int), L.length % 2 = 0 → (mPut L k v).length = if (mGet L k).isSome = true then L.length else L.length + 2
  | [], k, v, _ => by simp [mPut, mGet]
  | [_], k, v, h => by simp at h
  | a :: b :: r, k, v, h => by
    have hr : r.length % 2 = 0 := by simp only [List.length_cons] at h; omega
    by_cases e : a = k
    · simp [mPut, mGet, e]
    · simp only [mPut, if_neg e, mGet, List.length_cons, len_put r k v hr]
      split <;> omega
namespace Dt
variable (d : Dt)
/-- How often. -/
def cnt (k : Int) : Nat → Nat
  | 0 => 0
  | t + 1 => if d.o t = k then cnt k t + 1 else cnt k t
end Dt
end Lt
end Go.Proofs.Ytpgonpjakllnjaa
end
