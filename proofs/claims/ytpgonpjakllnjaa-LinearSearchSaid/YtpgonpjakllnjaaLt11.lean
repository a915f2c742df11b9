/-
  LinearTells (9): member.
-/
import Derived.Test.YtpgonpjakllnjaaLt8
section
namespace Go.Proofs.Ytpgonpjakllnjaa
open Go.Vm Go.Vm.Md Lm
namespace Lt

def bxR (k : Kd) : HB := ⟨.cells [SL k] 22 none, true⟩
def snR : HB := ⟨.mapc (.var 23), true⟩
def TM1 (k z : Kd) : Tpl := ⟨[(1, SO z), (2, .ptr 14 (.lit 0)), (5, .map 13), (13, SO z), (14, .int .i64 (nO z)), (15, iV 9)], 72, roH (EE k z) ++ [(14, bxR k), (13, snR)], 400, cs9 (nO z) ++ csE k z, 3⟩
def ivR : HB := ⟨.arr (.code [.i64] (.var 47)) [.i64] 3 (.var 48) (.lit 0) (some (.nv 16)), true⟩
def TM2 : Tpl := ⟨[(2, .ptr 14 (.lit 0)), (5, .map 13), (46, .slice 15 (.lit 0) (.var 48) (.nv 16)), (47, .int .i64 (.var 48)), (48, iV 9)], 72, roH (EL .row) ++ [(14, bxR .row), (13, snR), (15, ivR)], 400, cs9 (.var 48) ++ csL .row, 3⟩
def TM2n : Tpl := ⟨[(46, .sliceNil), (47, .int .i64 (.lit 0)), (48, .int .i64 (.lit 0))], 72, [], 400, [], 3⟩
def tM (k z : Kd) : List Tpl := [TM2, TM2n, TM1 k z]
def sn : IT := .un 9 (.var 23) (.lit 0)
def vT : IT := .un 0 (.var 47) (.elem (.lit 0) 1 0 at9)
def e0 (z : Kd) (b : Bool) : Cs := lt9 (nO z) false ++ [q9 .lss sn (nO z) b]
def e3 (b : Bool) : Cs := e0 .row false ++ in1C ++ [q9 .geq (.var 50) (.lit 0) b]
def n1 : Kd → List (Nat × Nat)
  | .nil => []
  | _ => [(1, 1)]
noncomputable def L0 : Code := lb Try.f33 0
noncomputable def L1 : Code := lb Try.f33 1
def go1 (b : Bool) : Cs := lt9 (.var 38) true ++ inL (oT at9) ++ [q9 .neq (rT (oT at9) 1) (.lit 2) b]
def fE (b : Bool) : Cs := [q9 .eql (.un 5 (.var 23) vT) (.lit 0) b]
end Lt
end Go.Proofs.Ytpgonpjakllnjaa
end

/-
  LinearTells (10): member, proved.
-/
section
namespace Go.Proofs.Ytpgonpjakllnjaa
open Go.Vm Go.Vm.Md Lm
namespace Lt

theorem vT_den {d : Dt} {ρ : Env} (hG : (Gd d).at ρ) {i : Nat} (h9 : ρ.I 9 = (i : Int)) : vT.den ρ = some ((d.iv d.n).getD i 0) := by
  have e47 : (IT.var 47).den ρ = some (encL (d.iv d.n)) := pin hG (by simp [pins])
  refine (unD e47 (elemD (sz := 1) (j := 0) (litD ((0 : Nat) : Int)) (show at9.den ρ = some (i : Int) from varD h9))).trans ?_
  show some ((decL (encL (d.iv d.n))).getD (((0 + (i * 1 + 0) : Nat) : Int)).toNat 0) = _
  rw [decL_encL, Int.toNat_natCast, show 0 + (i * 1 + 0) = i by omega]
structure JM2 (d : Dt) (i : Nat) (ρ : Env) : Prop where
  i9 : ρ.I 9 = (i : Int)
  le : i ≤ (d.iv d.n).length
  i23 : ρ.I 23 = encL (d.seen d.m)
  no : anyT (fun i => d.w4 ((d.iv d.n).getD i 0).toNat) i = false
theorem JM2.of_le {d : Dt} {i : Nat} {ρ ρ' : Env} (h : JM2 d i ρ) (g : ρ.Le ρ') : JM2 d i ρ' := ⟨by rw [g.i]; exact h.i9, h.le, by rw [g.i]; exact h.i23, h.no⟩
/-- Nothing is wrong so far. -/
structure Fine (d : Dt) : Prop where
  a1 : anyT d.w1 d.m = false
  a2 : anyT d.w2 d.m = false
  a3 : anyT d.w3 d.m = false
structure JM1 (d : Dt) (i : Nat) (ρ : Env) : Prop where
  i9 : ρ.I 9 = (i : Int)
  le : i ≤ d.m
  i23 : ρ.I 23 = encL (d.seen i)
  no : anyT d.w1 i = false
theorem JM1.of_le {d : Dt} {i : Nat} {ρ ρ' : Env} (h : JM1 d i ρ) (g : ρ.Le ρ') : JM1 d i ρ' := ⟨by rw [g.i]; exact h.i9, h.le, by rw [g.i]; exact h.i23, h.no⟩
end Lt
end Go.Proofs.Ytpgonpjakllnjaa
end

/-
  LinearTells (11): late, Wrong.
-/
section
namespace Go.Proofs.Ytpgonpjakllnjaa
open Go.Vm Go.Vm.Md Lm
namespace Lt

-- LATE
def TL : Tpl := ⟨[(1, SO .row), (2, .ptr 14 (.lit 0)), (7, SO .row), (8, .int .i64 (.var 38)), (9, iV 9)], 20, roH (EE .row .row) ++ [(14, bxR .row)], 400, cs9 (.var 38) ++ csRR, 3⟩
def goL : Cs := lt9 (.var 38) true ++ inL (oT at9) ++ [q9 .leq at9 (.var 65) true] ++ in1C
def fL (b : Bool) : Cs := [q9 .geq (.fn 50 at9 (oT at9)) (.lit 0) b]
def spI : CallF := spL [(67, spIdx)]
def sl0 : Sub := ⟨[(9, .lit 0)], [], [], [], [(1, 1), (14, 400), (0, 0)]⟩
def sl1 : Sub := ⟨[(9, up9)], [], [], [], [(1, 1), (14, 14), (0, 0)]⟩
theorem l_in : RCn 400 spI 34 Try.f34 [TL] [SL .row, SO .row] (ofP (roH (EE .row .row))) csRR [.next 0 (.code (.loop (lb Try.f34 0)) :: lq Try.f34 0) [] sl0] := by unfold RCn; kernel_rfl
theorem l_y : RH spI 34 Try.f34 0 [TL] TL (goL ++ fL true) [.ret (.bool (.lit true)) []] := by unfold RH; kernel_rfl
theorem l_n : RH spI 34 Try.f34 0 [TL] TL (goL ++ fL false) [.next 0 (.inLoop (lb Try.f34 0) :: lq Try.f34 0) [] sl1] := by unfold RH; kernel_rfl
structure JL (d : Dt) (i : Nat) (ρ : Env) : Prop where
  i9 : ρ.I 9 = (i : Int)
  le : i ≤ d.m
  no : anyT d.w5 i = false
theorem JL.of_le {d : Dt} {i : Nat} {ρ ρ' : Env} (h : JL d i ρ) (g : ρ.Le ρ') : JL d i ρ' := ⟨by rw [g.i]; exact h.i9, h.le, h.no⟩
-- WRONG
def tT (a : IT) (j : Nat) : IT := .un 0 (.var 41) (.elem (.lit 0) 2 j a)
def alT (a : IT) : BT := .not (.and (.cmp .eql (rT (oT a) 9) (tT a 0)) (.cmp .eql (rT (oT a) 10) (tT a 1)))
def goW : Cs := lt9 (.var 38) true ++ inL (oT at9) ++ [q9 .lss at9 (.var 42) true]
def fU (b : Bool) : Cs := [q9 .geq (rT (oT at9) 8) (.lit 0) true, (alT at9, b)]
-- what was told, where the order stands in the history
theorem cn_in {d : Dt} (h : In1 d) : ∀ {i}, i ≤ d.m → d.cn i = i
  | 0, _ => rfl
  | i + 1, hi => by rw [Dt.cn, if_pos (h i (by omega)), cn_in h (by omega)]
theorem ou_get {d : Dt} (h : In1 d) : ∀ {t i : Nat}, t ≤ d.m → i < t → (d.ouO t).getD (i * 2) 0 = (d.anO i).1 ∧ (d.ouO t).getD (i * 2 + 1) 0 = (d.anO i).2
  | t + 1, i, ht, hi => by
    have hl : (d.ouO t).length = t * 2 := by rw [d.ou_len, cn_in h (by omega)]
    rw [Dt.ouO, if_pos (h t (by omega)), List.getD_eq_getElem?_getD, List.getD_eq_getElem?_getD]
    rcases Nat.lt_or_ge i t with h1 | h1
    · rw [List.getElem?_append_left (by omega), List.getElem?_append_left (by omega), ← List.getD_eq_getElem?_getD, ← List.getD_eq_getElem?_getD]; exact ou_get h (by omega) h1
    · obtain rfl : i = t := by omega
      rw [List.getElem?_append_right (by omega), List.getElem?_append_right (by omega), hl, Nat.sub_self, show i * 2 + 1 - i * 2 = 1 by omega]
      exact ⟨rfl, rfl⟩
theorem tT_den {d : Dt} {ρ : Env} (hG : (Gd d).at ρ) (h : In1 d) {a : IT} {i : Nat} (ha : a.den ρ = some (i : Int)) (hi : i < d.m) : (tT a 0).den ρ = some (d.anO i).1 ∧ (tT a 1).den ρ = some (d.anO i).2 := by
  have e41 : (IT.var 41).den ρ = some (encL (d.ouO d.m)) := pin hG (by simp [pins])
  obtain ⟨g1, g2⟩ := ou_get h (Nat.le_refl _) hi
  refine ⟨(unD e41 (elemD (sz := 2) (j := 0) (litD ((0 : Nat) : Int)) ha)).trans ?_, (unD e41 (elemD (sz := 2) (j := 1) (litD ((0 : Nat) : Int)) ha)).trans ?_⟩
  · show some ((decL (encL (d.ouO d.m))).getD (((0 + (i * 2 + 0) : Nat) : Int)).toNat 0) = _
    rw [decL_encL, Int.toNat_natCast, show 0 + (i * 2 + 0) = i * 2 by omega, g1]
  · show some ((decL (encL (d.ouO d.m))).getD (((0 + (i * 2 + 1) : Nat) : Int)).toNat 0) = _
    rw [decL_encL, Int.toNat_natCast, show 0 + (i * 2 + 1) = i * 2 + 1 by omega, g2]
theorem alT_den {d : Dt} {ρ : Env} (hG : (Gd d).at ρ) (h : In1 d) {a : IT} {i : Nat} (ha : a.den ρ = some (i : Int)) (hi : i < d.m) : (alT a).den ρ = some (!(decide ((d.anO i).1 = d.c (d.o i) 9) && decide ((d.anO i).2 = d.c (d.o i) 10))) := by
  have eo := oT_den hG ha
  obtain ⟨g1, g2⟩ := tT_den hG h ha hi
  unfold alT
  rw [notD (andD (by rw [cmpD (rT_den hG eo 9) g1]; rfl : _ = some (d.c (d.o i) 9 == (d.anO i).1)) (by rw [cmpD (rT_den hG eo 10) g2]; rfl : _ = some (d.c (d.o i) 10 == (d.anO i).2)))]
  congr 2
  have e : ∀ a b : Int, (a == b) = decide (b = a) := fun a b => by rw [Bool.eq_iff_iff, beq_iff_eq, decide_eq_true_eq]; exact eq_comm
  rw [e, e]
structure JW (d : Dt) (i : Nat) (ρ : Env) : Prop where
  i9 : ρ.I 9 = (i : Int)
  le : i ≤ d.m
  no : anyT d.w6 i = false
theorem JW.of_le {d : Dt} {i : Nat} {ρ ρ' : Env} (h : JW d i ρ) (g : ρ.Le ρ') : JW d i ρ' := ⟨by rw [g.i]; exact h.i9, h.le, h.no⟩
def spWr (k z : Kd) : SpG := spE 300 [SL k, SO z] (EE k z) [] (.int .i64 (.var 45))
end Lt
end Go.Proofs.Ytpgonpjakllnjaa
end
