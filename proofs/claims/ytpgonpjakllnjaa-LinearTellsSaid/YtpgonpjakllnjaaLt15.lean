/-
  LinearTells (15): the runs of the reference's Apply.
-/
import Derived.Test.YtpgonpjakllnjaaLt14
namespace Go.Proofs.Ytpgonpjakllnjaa
open Go.Vm Go.Vm.Md Lm
namespace Lt

/-- A model of the reference, by value: its queue's slice, of each key what the map has and 1, of each what the semaphores have and 1. -/
def rmA (q : AVal) (cM cS : IT) : AVal := .agg (q :: (uniC cM 256 ++ uniC cS 256))
def qv : Kd → AVal
  | .nil => .sliceNil
  | .zero => .slice 2 (.var 11) (.lit 0) (.lit 0)
  | .row => .slice 2 (.lit 0) (.var 6) (.nv 4)
def qBk : ABlk := .arr (.code [.i64] (.var 5)) [.i64] 3 (.var 6) (.lit 0) (some (.nv 4))
def HQ (z : Kd) : List (Nat × ABlk) := z.blk 2 qBk
def csQ' : Kd → Cs
  | .row => [q9 .geq (.var 6) (.lit 1) true, q9 .leq (.var 6) (.lit 256) true, q9 .leq (.var 6) (.lit 1000000) true]
  | _ => []
def opN (c : Nat) : AVal := .agg [.int .i64 (.lit (.ofNat c)), iV 14, iV 15, iV 16]
def fRN (c : Nat) (b : Bool) : Cs := [(tRight (.lit (.ofNat c)) (.var 14) (.var 15) (.var 16), b)]
def kC : Cs := [q9 .geq (.var 14) (.lit 0) true, q9 .lss (.var 14) (.lit 256) true]
def ansN : AVal := .agg [iV 24, iV 25]
def nwB : HB := ⟨.arr (.code [.i64] (.var 26)) [.i64] 3 (.var 27) (.lit 0) (some (.nv 10)), true⟩
def eW : Tpl := ⟨[(0, .tuple [rmA (.slice 9 (.lit 0) (.var 27) (.nv 10)) (.var 22) (.var 23), ansN])], 1, [(9, nwB)], 20, [], 0⟩
def eK (z : Kd) : Tpl := ⟨[(0, .tuple [rmA (qv z) (.var 22) (.var 23), ansN])], 1, roH (HQ z), 20, [], 0⟩
def eZ : Tpl := ⟨[(0, .tuple [rmA (.slice 9 (.lit 0) (.lit 0) (.lit 0)) (.var 22) (.var 23), ansN])], 1, [], 20, [], 0⟩
def Rs (z : Kd) : List Tpl := [eW, eK z, eZ]
def gT (c : IT) : IT := .un 0 c (.elem (.lit 0) 1 0 (.var 14))
def spAp : CallF := spL [(58, spA spRight), (61, spCount)]
def sK (z : Kd) (tM tS tk tv : IT) : Sub := match z with
  | .nil => ⟨[(22, tM), (23, tS), (24, tk), (25, tv)], [], [], [], []⟩
  | .zero => ⟨[(11, .var 11), (22, tM), (23, tS), (24, tk), (25, tv)], [], [], [], [(2, 2)]⟩
  | .row => ⟨[(6, .var 6), (22, tM), (23, tS), (24, tk), (25, tv), (5, .var 5)], [], [], [], [(2, 2), (4, 4)]⟩
def csP (z : Kd) (c : Nat) (f : Cs) : Cs := fRN c true ++ kC ++ csQ' z ++ f
noncomputable def PK (z : Kd) (c : Nat) (f : Cs) (tM tS tk tv : IT) : Prop := RCM spAp 37 Try.f37 (Rs z) [] [rmA (qv z) (.var 7) (.var 8), opN c] (ofP (roH (HQ z))) (csP z c f) [.done 1 [] (sK z tM tS tk tv)]
def m7 : IT := gT (.var 7)
def s8 : IT := gT (.var 8)
def upT (t : IT) : IT := .bin .add .i64 t (.lit 1)
def dnT (t : IT) : IT := .bin .sub .i64 t (.lit 1)
def put7 (t : IT) : IT := .un 21 (.var 7) (.un 1 (.var 14) t)
def put8 (t : IT) : IT := .un 21 (.var 8) (.un 1 (.var 14) t)
def hz (t : IT) (b : Bool) : Cs := [q9 .eql t (.lit 0) b]
def ans (t : IT) (b : Bool) : IT × IT := cond b (.lit 1, .lit 0) (.lit 0, dnT t)
def f7u : Cs := [q9 .gtr m7 (.lit 0) true, q9 .neq m7 (upT (.var 15)) true]
def f7y : Cs := [q9 .gtr m7 (.lit 0) true, q9 .neq m7 (upT (.var 15)) false] ++ hz m7 false
def f7n : Cs := [q9 .gtr m7 (.lit 0) false] ++ hz m7 true
def fSe (e : Int) : Cs := [q9 .eql s8 (.lit e) true]
def fSy (e : Int) (t : IT) : Cs := [q9 .eql s8 (.lit e) false, q9 .gtr s8 (.lit 0) true] ++ hz (gT (put8 t)) false
def fSn (e : Int) : Cs := [q9 .eql s8 (.lit e) false, q9 .gtr s8 (.lit 0) false] ++ hz s8 true
def nQ : Kd → IT
  | .row => .var 6
  | _ => .lit 0
def v7 : IT := .var 7
def v8 : IT := .var 8
theorem k0 (z : Kd) : PK z 0 [] v7 v8 (.lit 1) (.lit 0) := by unfold PK RCM; cases z <;> kernel_rfl
theorem k3 (z : Kd) : PK z 3 [] v7 v8 (.lit 0) (nQ z) := by unfold PK RCM; cases z <;> kernel_rfl
theorem k8 (z : Kd) : PK z 8 [] v7 v8 (.lit 0) (.fn 55 (.var 7) (.lit 0)) := by unfold PK RCM; cases z <;> kernel_rfl
theorem k4 (z : Kd) (b : Bool) : PK z 4 (hz m7 b) v7 v8 (ans m7 b).1 (ans m7 b).2 := by unfold PK RCM; cases z <;> cases b <;> kernel_rfl
theorem k5 (z : Kd) (b : Bool) : PK z 5 (hz m7 b) (put7 (upT (.var 15))) v8 (ans m7 b).1 (ans m7 b).2 := by unfold PK RCM; cases z <;> cases b <;> kernel_rfl
theorem k6 (z : Kd) (b : Bool) : PK z 6 (hz m7 b) (put7 (.lit 0)) v8 (ans m7 b).1 (ans m7 b).2 := by unfold PK RCM; cases z <;> cases b <;> kernel_rfl
theorem k7u (z : Kd) : PK z 7 f7u v7 v8 (.lit 4) (dnT m7) := by unfold PK RCM; cases z <;> kernel_rfl
theorem k7y (z : Kd) : PK z 7 f7y (put7 (upT (.var 16))) v8 (.lit 0) (dnT m7) := by unfold PK RCM; cases z <;> kernel_rfl
theorem k7n (z : Kd) : PK z 7 f7n v7 v8 (.lit 1) (.lit 0) := by unfold PK RCM; cases z <;> kernel_rfl
theorem k10 (z : Kd) (b : Bool) : PK z 10 (hz s8 b) v7 (put8 (upT (.var 15))) (ans s8 b).1 (ans s8 b).2 := by unfold PK RCM; cases z <;> cases b <;> kernel_rfl
theorem k11e (z : Kd) : PK z 11 (fSe 1) v7 v8 (.lit 3) (.lit 0) := by unfold PK RCM; cases z <;> kernel_rfl
theorem k11y (z : Kd) : PK z 11 (fSy 1 (dnT s8)) v7 (put8 (dnT s8)) (.lit 0) (dnT (gT (put8 (dnT s8)))) := by unfold PK RCM; cases z <;> kernel_rfl
theorem k11n (z : Kd) : PK z 11 (fSn 1) v7 v8 (.lit 1) (.lit 0) := by unfold PK RCM; cases z <;> kernel_rfl
theorem k12e (z : Kd) : PK z 12 (fSe 1024) v7 v8 (.lit 2) (.lit 0) := by unfold PK RCM; cases z <;> kernel_rfl
theorem k12y (z : Kd) : PK z 12 (fSy 1024 (upT s8)) v7 (put8 (upT s8)) (.lit 0) (dnT (gT (put8 (upT s8)))) := by unfold PK RCM; cases z <;> kernel_rfl
theorem k12n (z : Kd) : PK z 12 (fSn 1024) v7 v8 (.lit 1) (.lit 0) := by unfold PK RCM; cases z <;> kernel_rfl
theorem k13 (z : Kd) (b : Bool) : PK z 13 (hz s8 b) v7 v8 (ans s8 b).1 (ans s8 b).2 := by unfold PK RCM; cases z <;> cases b <;> kernel_rfl
theorem k14 (z : Kd) (b : Bool) : PK z 14 (hz s8 b) v7 (put8 (.lit 0)) (ans s8 b).1 (ans s8 b).2 := by unfold PK RCM; cases z <;> cases b <;> kernel_rfl
theorem k1f : PK .row 1 [q9 .gtr (.var 6) (.lit 255) true] v7 v8 (.lit 2) (.lit 0) := by unfold PK RCM; kernel_rfl
theorem k2n (z : Kd) (h : z ≠ .row) : PK z 2 [] v7 v8 (.lit 1) (.lit 0) := by unfold PK RCM; cases z <;> first | exact absurd rfl h | kernel_rfl
/-- The ends with a new row; with an empty one. -/
def sW (tn tc tk tv : IT) (a b : Nat) : Sub := ⟨[(27, tn), (22, v7), (23, v8), (24, tk), (25, tv), (26, tc)], [], [], [], [(9, a), (10, b)]⟩
def s1n : Sub := sW (.lit 1) (.un 3 (.lit 0) (.var 15)) (.lit 0) (.lit 1) 507 506
def s1r : Sub := sW (upT (.var 6)) (.un 3 (.var 5) (.var 15)) (.lit 0) (upT (.var 6)) 509 508
def s2r : Sub := sW (.un 14 (.var 6) (.lit 1)) (.un 11 (.var 5) (.lit 1)) (.lit 0) (.un 0 (.var 5) (.elem (.lit 0) 1 0 (.lit 0))) 506 505
def s2o : Sub := ⟨[(22, v7), (23, v8), (24, .lit 0), (25, .var 5)], [], [], [], [(9, 504)]⟩
theorem k1n (z : Kd) (h : z ≠ .row) : RCM spAp 37 Try.f37 (Rs z) [] [rmA (qv z) (.var 7) (.var 8), opN 1] (ofP (roH (HQ z))) (csP z 1 []) [.done 0 [] s1n] := by unfold RCM; cases z <;> first | exact absurd rfl h | kernel_rfl
theorem k1r : RCM spAp 37 Try.f37 (Rs .row) [] [rmA (qv .row) (.var 7) (.var 8), opN 1] (ofP (roH (HQ .row))) (csP .row 1 [q9 .gtr (.var 6) (.lit 255) false]) [.done 0 [] s1r, .done 0 [] s1r, .done 0 [] s1r] := by unfold RCM; kernel_rfl
def f2 : Cs := [q9 .leq (.lit 1) (.var 6) true, q9 .lss (.lit 0) (.var 6) true, q9 .eql (.var 6) (.lit 0) false, q9 .geq (.lit 1) (.lit 0) true, q9 .geq (.lit 0) (.lit 0) true, q9 .geq (.un 14 (.var 6) (.lit 1)) (.lit 1) true, q9 .leq (.un 14 (.var 6) (.lit 1)) (.lit 1000000) true]
theorem k2r : RCM spAp 37 Try.f37 (Rs .row) [] [rmA (qv .row) (.var 7) (.var 8), opN 2] (ofP (roH (HQ .row))) (csP .row 2 f2) [.done 0 [] s2r] := by unfold RCM; kernel_rfl
def qOne : AVal := .slice 2 (.lit 0) (.lit 1) (.nv 4)
def bOne : Nat × ABlk := (2, .cells [iV 5] 3 (some (4, 1)))
theorem k2o : RCM spAp 37 Try.f37 (Rs .nil) [] [rmA qOne (.var 7) (.var 8), opN 2] (ofP (roH [bOne])) (fRN 2 true ++ kC) [.done 2 [] s2o] := by unfold RCM; kernel_rfl
def opW : AVal := .agg [iV 13, iV 14, iV 15, iV 16]
theorem kw (z : Kd) : RCM spAp 37 Try.f37 (Rs z) [] [rmA (qv z) (.var 7) (.var 8), opW] (ofP (roH (HQ z))) ([(tRight (.var 13) (.var 14) (.var 15) (.var 16), false)] ++ csQ' z) [.done 1 [] (sK z v7 v8 (.lit 1) (.lit 0))] := by unfold RCM; cases z <;> kernel_rfl
end Lt
end Go.Proofs.Ytpgonpjakllnjaa
