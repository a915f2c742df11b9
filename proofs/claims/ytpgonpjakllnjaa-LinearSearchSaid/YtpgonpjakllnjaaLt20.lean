/-
  LinearTells (20): the reference's replay.
-/
import Derived.Test.YtpgonpjakllnjaaLt19
namespace Go.Proofs.Ytpgonpjakllnjaa
open Go.Vm Go.Vm.Md Lm
namespace Lt

def mB : Option Kd → HB
  | none => ⟨.cells (.sliceNil :: (uniC (.lit 0) 256 ++ uniC (.lit 0) 256)) 49 none, true⟩
  | some z => ⟨.cells (qz z :: (uniC (cMT true) 256 ++ uniC (cST true) 256)) 49 none, true⟩
def qH : Kd → List (Nat × HB)
  | .row => [(2, ⟨qB2, true⟩)]
  | _ => []
def aH : Option Kd → List (Nat × HB)
  | none => []
  | some z => qH z ++ [(13, rO)]
def aV : Option Kd → AVal
  | none => .sliceNil
  | some _ => vI
def aC : Option Kd → Cs
  | none => []
  | some z => (eNow true, notRow z) :: csV
def mV : Option Kd → AVal
  | none => rmA .sliceNil (.lit 0) (.lit 0)
  | some z => rmA (qz z) (cMT true) (cST true)
def T15 (k : Kd) (z : Option Kd) : Tpl := ⟨[(0, SL k), (5, .ptr 31 (.lit 0)), (6, .ptr 30 (.lit 0)), (7, aV z), (13, SO .row), (14, .int .i64 (.var 38)), (15, iV 9)], 45, roH (EE k .row) ++ [(30, mB z), (31, zrB)] ++ aH z, 500, cs9 (.var 38) ++ csE k .row ++ aC z, 3⟩
def E15 (z : Option Kd) : Tpl := ⟨[(0, .tuple [aV z, mV z])], 1, aH z, 20, [], 0⟩
def e15 : List Tpl := [E15 none, E15 (some .nil), E15 (some .zero), E15 (some .row)]
def t15 (k : Kd) : List Tpl := [T15 k none, T15 k (some .nil), T15 k (some .zero), T15 k (some .row)]
def sp15 : CallF := spL [(37, spApp)]
def ix : Option Kd → Nat
  | none => 0
  | some .nil => 1
  | some .zero => 2
  | some .row => 3
theorem ix_t (k : Kd) (z : Option Kd) : (t15 k)[ix z]? = some (T15 k z) := by
  match z with
  | none => rfl
  | some .nil => rfl
  | some .zero => rfl
  | some .row => rfl
theorem ix_e (z : Option Kd) : e15[ix z]? = some (E15 z) := by
  match z with
  | none => rfl
  | some .nil => rfl
  | some .zero => rfl
  | some .row => rfl
/-- The next kind. -/
def nk : Bool → Option Kd → Kd
  | false, _ => .row
  | true, none => .nil
  | true, some .nil => .nil
  | true, some _ => .zero
def nQz : Kd → List (Nat × Nat)
  | .nil => []
  | .zero => [(2, 2)]
  | .row => [(2, 2), (4, 4)]
def nA : Option Kd → List (Nat × Nat)
  | none => []
  | some z => (13, 13) :: (12, 12) :: (1, 1) :: nQz z
def ouU (u : Bool) (c : IT) : IT := .un 3 (.un 3 c (.fn 57 (XT u) at9)) (.fn 58 (XT u) at9)
def sIn (k : Kd) : Sub := ⟨[(9, .lit 0)], [], [], [], n0 k ++ [(31, 500), (30, 501), (1, 1)]⟩
def sSk (k : Kd) : Option Kd → Sub
  | none => ⟨[(9, up9)], [], [], [], n0 k ++ [(31, 31), (30, 30), (1, 1)]⟩
  | some z => ⟨[(22, .var 22), (9, up9), (21, .var 21), (23, .var 23)], [], [], [], n0 k ++ [(31, 31), (30, 30), (13, 13), (12, 12), (1, 1)] ++ nQz z⟩
def sEn : Option Kd → Sub
  | none => ⟨[], [], [], [], []⟩
  | some z => ⟨[(22, .var 22), (21, .var 21), (23, .var 23)], [], [], [], [(13, 13), (12, 12)] ++ nQz z⟩
def c22 : Option Kd → IT
  | none => .lit 1
  | some _ => up22
def c23 : Option Kd → IT
  | none => .lit 0
  | some _ => .var 23
def sY (z : Option Kd) (N : List (Nat × Nat)) : Sub := ⟨[(22, c22 z), (9, up9), (21, xN z.isSome), (23, ouU z.isSome (c23 z))], [], [], [], N⟩
def nY (a : Nat) (q : List (Nat × Nat)) : List (Nat × Nat) := [(0, 0), (31, 31), (30, 30), (13, a + 1), (12, a), (1, 1)] ++ q
/-- The names after an operation. -/
def nYs : Bool → Bool → Option Kd → List (Nat × Nat)
  | true, false, some .row => nY 503 (nQz .row)
  | _, false, _ => nY 505 [(2, 501), (4, 500)]
  | _, true, none => nY 503 []
  | _, true, some .nil => nY 503 []
  | _, true, some _ => nY 504 [(2, 500)]
def yC (z : Option Kd) (e s : Bool) : Cs := (eNxt z.isSome, e) :: (match z with
  | some k => samC k s
  | none => [])
noncomputable def go15 (z : Option Kd) (σ : Sub) : LM := .next (ix z) (.inLoop (lb Try.f15 0) :: lq Try.f15 0) [] σ
theorem r_in (k : Kd) : RCM sp15 15 Try.f15 e15 (t15 k) [SL k, SO .row] (ofP (roH (EE k .row))) (csE k .row) [.next 0 (.code (.loop (lb Try.f15 0)) :: lq Try.f15 0) [] (sIn k)] := by unfold RCM; cases k <;> kernel_rfl
theorem r_b0 (k : Kd) : RHM sp15 15 Try.f15 0 e15 (t15 k) (T15 k none) (lt9 (.var 38) true ++ ngB (oT at9)) [go15 none (sSk k none)] := by unfold RHM; cases k <;> kernel_rfl
theorem r_c0 (k : Kd) : RHM sp15 15 Try.f15 0 e15 (t15 k) (T15 k none) (lt9 (.var 38) true ++ ngC k (oT at9)) [go15 none (sSk k none)] := by unfold RHM; cases k <;> kernel_rfl
theorem r_e0 (k : Kd) : RHM sp15 15 Try.f15 0 e15 (t15 k) (T15 k none) (lt9 (.var 38) false) [.done (ix none) [] (sEn none)] := by unfold RHM; cases k <;> kernel_rfl
theorem r_b1 (z : Kd) : RHM sp15 15 Try.f15 0 e15 (t15 .row) (T15 .row (some z)) (lt9 (.var 38) true ++ ngB (oT at9)) [go15 (some z) (sSk .row (some z))] := by unfold RHM; cases z <;> kernel_rfl
theorem r_c1 (z : Kd) : RHM sp15 15 Try.f15 0 e15 (t15 .row) (T15 .row (some z)) (lt9 (.var 38) true ++ ngC .row (oT at9)) [go15 (some z) (sSk .row (some z))] := by unfold RHM; cases z <;> kernel_rfl
theorem r_e1 (z : Kd) : RHM sp15 15 Try.f15 0 e15 (t15 .row) (T15 .row (some z)) (lt9 (.var 38) false) [.done (ix (some z)) [] (sEn (some z))] := by unfold RHM; cases z <;> kernel_rfl
end Lt
end Go.Proofs.Ytpgonpjakllnjaa
