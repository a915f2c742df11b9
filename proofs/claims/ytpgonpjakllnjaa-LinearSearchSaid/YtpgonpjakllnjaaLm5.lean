/-
  LinearModel (5): Apply's runs, each under what is known there.
-/
import Derived.Test.YtpgonpjakllnjaaLm4
namespace Go.Proofs.Ytpgonpjakllnjaa
open Go.Vm Go.Vm.Md
namespace Lm

def Bq.pick {α : Type} : Bq → α → α → α → α
  | .nil, a, _, _ => a
  | .zero, _, b, _ => b
  | .row, _, _, c => c
def qz (z : Bq) : Nat := z.pick 1 2 0
def nM (z : Bq) : List (Nat × Nat) := [(0, 0), (2, 2), (3, 3)] ++ z.pick [] [(1, 1)] [(1, 1), (4, 4)]
def sgM (z : Bq) (k v m s : IT) : Sub := ⟨[(20, k), (21, v)] ++ z.pick [] [(11, .var 11)] [(6, .var 6)] ++ [(7, m), (8, s)] ++ z.pick [] [] [(5, .var 5)], [], [], [], nM z⟩
noncomputable def RunM (z : Bq) (c : Nat) (f : Cs) (l : LM) : Prop := (run Try.prog [] spM 4000 true 11 (entry Try.f11 (Try.f11.body.getD .ret) [me, opM c] (ofP (hM 1 z)) 10 (fR c true ++ f ++ csQ z))).map (·.filterMap (sumMD gM (oM z) (eM ans) [])) = some [l]
noncomputable def D (z : Bq) (c : Nat) (f : Cs) (k v m s : IT) : Prop := RunM z c f (.done (qz z) [] (sgM z k v m s))
def m7 : IT := .var 7
def s8 : IT := .var 8
def fHas (m : IT) (b : Bool) : Cs := [(.cmp .eql (.un 6 m (.var 31)) (.lit 1), b)]
def vOf (m : IT) : IT := .un 5 m (.var 31)
def kOf (b : Bool) : IT := cond b (.lit 0) (.lit 1)
def hOf (m : IT) (b : Bool) : IT := cond b (vOf m) (.lit 0)
def putM (m v : IT) : IT := .un 7 m (.un 1 (.var 31) v)
theorem a0 (z : Bq) : D z 0 [] (.lit 1) (.lit 0) m7 s8 := by cases z <;> (unfold D RunM; kernel_rfl)
theorem a4 (z : Bq) (b : Bool) : D z 4 (fHas m7 b) (kOf b) (hOf m7 b) m7 s8 := by cases z <;> cases b <;> (unfold D RunM; kernel_rfl)
theorem a5 (z : Bq) (b : Bool) : D z 5 (fHas m7 b) (kOf b) (hOf m7 b) (putM m7 (.var 32)) s8 := by cases z <;> cases b <;> (unfold D RunM; kernel_rfl)
theorem a6 (z : Bq) (b : Bool) : D z 6 (fHas m7 b) (kOf b) (hOf m7 b) (.un 8 m7 (.var 31)) s8 := by cases z <;> cases b <;> (unfold D RunM; kernel_rfl)
theorem a7n (z : Bq) : D z 7 (fHas m7 false) (.lit 1) (.lit 0) m7 s8 := by cases z <;> (unfold D RunM; kernel_rfl)
theorem a7u (z : Bq) : D z 7 (fHas m7 true ++ [(.cmp .neq (vOf m7) (.var 32), true)]) (.lit 4) (vOf m7) m7 s8 := by cases z <;> (unfold D RunM; kernel_rfl)
theorem a7y (z : Bq) : D z 7 (fHas m7 true ++ [(.cmp .neq (vOf m7) (.var 32), false)]) (.lit 0) (vOf m7) (putM m7 (.var 33)) s8 := by cases z <;> (unfold D RunM; kernel_rfl)
theorem a8 (z : Bq) : D z 8 [] (.lit 0) (.un 9 m7 (.lit 0)) m7 s8 := by cases z <;> (unfold D RunM; kernel_rfl)
theorem a10 (z : Bq) (b : Bool) : D z 10 (fHas s8 b) (kOf b) (hOf s8 b) m7 (putM s8 (.var 32)) := by cases z <;> cases b <;> (unfold D RunM; kernel_rfl)
def by1 (d : Int) : IT := .bin .add .i64 (vOf s8) (.lit d)
theorem a11n (z : Bq) : D z 11 (fHas s8 false) (.lit 1) (.lit 0) m7 s8 := by cases z <;> (unfold D RunM; kernel_rfl)
theorem a11e (z : Bq) : D z 11 (fHas s8 true ++ [(.cmp .eql (vOf s8) (.lit 0), true)]) (.lit 3) (.lit 0) m7 s8 := by cases z <;> (unfold D RunM; kernel_rfl)
theorem a11y (z : Bq) : D z 11 (fHas s8 true ++ [(.cmp .eql (vOf s8) (.lit 0), false)]) (.lit 0) (by1 (-1)) m7 (putM s8 (by1 (-1))) := by cases z <;> (unfold D RunM; kernel_rfl)
theorem a12n (z : Bq) : D z 12 (fHas s8 false) (.lit 1) (.lit 0) m7 s8 := by cases z <;> (unfold D RunM; kernel_rfl)
theorem a12e (z : Bq) : D z 12 (fHas s8 true ++ [(.cmp .eql (vOf s8) (.lit 1023), true)]) (.lit 2) (.lit 0) m7 s8 := by cases z <;> (unfold D RunM; kernel_rfl)
theorem a12y (z : Bq) : D z 12 (fHas s8 true ++ [(.cmp .eql (vOf s8) (.lit 1023), false)]) (.lit 0) (by1 1) m7 (putM s8 (by1 1)) := by cases z <;> (unfold D RunM; kernel_rfl)
theorem a13 (z : Bq) (b : Bool) : D z 13 (fHas s8 b) (kOf b) (hOf s8 b) m7 s8 := by cases z <;> cases b <;> (unfold D RunM; kernel_rfl)
theorem a14 (z : Bq) (b : Bool) : D z 14 (fHas s8 b) (kOf b) (hOf s8 b) m7 (.un 8 s8 (.var 31)) := by cases z <;> cases b <;> (unfold D RunM; kernel_rfl)
-- THE QUEUE
theorem a3 (z : Bq) : D z 3 [] (.lit 0) (z.pick (.lit 0) (.lit 0) (.var 6)) m7 s8 := by cases z <;> (unfold D RunM; kernel_rfl)
theorem a2n (z : Bq) (h : z ≠ .row) : D z 2 [] (.lit 1) (.lit 0) m7 s8 := by cases z <;> first | exact absurd rfl h | (unfold D RunM; kernel_rfl)
theorem a1f : D .row 1 [(.cmp .geq (.var 6) (.lit 256), true)] (.lit 2) (.lit 0) m7 s8 := by unfold D RunM; kernel_rfl
def up6 : IT := .bin .add .i64 (.var 6) (.lit 1)
theorem a1n (z : Bq) (h : z ≠ .row) : RunM z 1 [] (.done 0 [] ⟨[(20, .lit 0), (21, .lit 1), (6, .lit 1), (7, m7), (8, s8), (5, .un 3 (.lit 0) (.var 32))], [], [], [], [(0, 0), (2, 2), (3, 3), (1, 16), (4, 15)]⟩) := by cases z <;> first | exact absurd rfl h | (unfold RunM; kernel_rfl)
theorem a1r : RunM .row 1 [(.cmp .geq (.var 6) (.lit 256), false)] (.done 3 [] ⟨[(20, .lit 0), (21, up6), (6, up6), (7, m7), (8, s8), (5, .un 3 (.var 5) (.var 32))], [], [], [], [(0, 0), (2, 2), (3, 3), (1, 1), (9, 16), (4, 15)]⟩) := by unfold RunM; kernel_rfl
def f2 (b : Bool) : Cs := [(.cmp .leq (.lit 1) (.var 6), true), (.cmp .lss (.lit 0) (.var 6), true), (.cmp .geq (.lit 0) (.lit 0), true), (.cmp .geq (.lit 1) (.lit 0), true), (.cmp .leq (leftLen (.var 6)) (.lit 1000000), true), (.cmp .geq (leftLen (.var 6)) (.lit 1), b)]
def head5 : IT := .un 0 (.var 5) (.elem (.lit 0) 1 0 (.lit 0))
theorem a2r : RunM .row 2 (f2 true) (.done 3 [] ⟨[(20, .lit 0), (21, head5), (6, leftLen (.var 6)), (7, m7), (8, s8), (5, .un 11 (.var 5) (.lit 1))], [], [], [], [(0, 0), (2, 2), (3, 3), (1, 1), (9, 15), (4, 14)]⟩) := by unfold RunM; kernel_rfl
theorem a2l : RunM .row 2 (f2 false) (.done 4 [] ⟨[(20, .lit 0), (21, head5), (11, .lit 0), (7, m7), (8, s8)], [], [], [], [(0, 0), (2, 2), (3, 3), (1, 1), (9, 14)]⟩) := by unfold RunM; kernel_rfl
/-- An operation that isn't right. -/
theorem aNot (z : Bq) : (run Try.prog [] spM 4000 true 11 (entry Try.f11 (Try.f11.body.getD .ret) [me, .agg [iV 30, iV 31, iV 32, iV 33]] (ofP (hM 1 z)) 10 ([(tRight (.var 30) (.var 31) (.var 32) (.var 33), false)] ++ csQ z))).map (·.filterMap (sumMD gM (oM z) (eM ans) [])) = some [.done (qz z) [] (sgM z (.lit 1) (.lit 0) m7 s8)] := by cases z <;> kernel_rfl
end Lm
end Go.Proofs.Ytpgonpjakllnjaa
