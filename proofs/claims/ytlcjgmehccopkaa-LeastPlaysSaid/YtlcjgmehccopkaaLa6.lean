/-
  LeastPlays (6): the law's rounds, run.
-/
import Derived.Test.YtlcjgmehccopkaaLa5
namespace Go.Proofs.Ytlcjgmehccopkaa
open Go.Vm Go.Vm.Le
namespace La
open Lp

-- ENDS TOLD BY SOME NAMES
def canS (ks : List Nat) (σ : Sub) : Sub := ⟨ks.filterMap fun k => (lk σ.I k).map fun t => (k, t), σ.B, σ.S, σ.V, []⟩
def canL (ks : List Nat) : LS → LS
  | .next q td cs σ => .next q td cs (canS ks σ)
  | s => s
/-- An end told in short, whether it can be or not. -/
def sumX (g : Gen) (Ts : List Tpl) : Leaf → Option LS
  | .stop cs => some (.stop cs)
  | .ret v _ _ cs => some (.ret v cs)
  | .pause S => match tryT g Ts 0 S with
    | some (q, σ) => some (.next q S.todo S.cs σ)
    | none => some .bad
theorem sumX_of {g : Gen} {Ts : List Tpl} {l : Leaf} {s : LS} (h : sumL g Ts l = some s) : sumX g Ts l = some s := by
  cases l with
  | stop cs =>
    simp only [sumL] at h
    cases hd : dead cs <;> rw [hd] at h
    · exact h
    · cases h
  | ret v H nl cs =>
    simp only [sumL] at h
    cases hd : dead cs <;> rw [hd] at h
    · exact h
    · cases h
  | pause S =>
    simp only [sumL] at h
    cases hd : dead S.cs <;> rw [hd] at h
    · exact h
    · cases h
def sumC (g : Gen) (Ts : List Tpl) (ks : List Nat) (l : Leaf) : Option LS := (sumX g Ts l).map fun s => canL ks s.dc
-- THE ROUNDS
def ksW : List Nat := [1, 40, 41, 42, 43, 44, 45, 46, 47, 48, 49, 50, 51, 52, 53, 54, 55, 60, 61, 62, 63, 64]
noncomputable def wb0 : Code := ((loopsOf (Try.f5.body.getD .ret) []).getD 0 (.ret, [])).1
noncomputable def wk0 : List Item := ((loopsOf (Try.f5.body.getD .ret) []).getD 0 (.ret, [])).2
def idx (p : Pat) (w : Wy) (i : Nat) : Nat := match w with
  | .clone a => cond (Nat.beq i p.length) a i
  | _ => i
def nBig (p : Pat) (w : Wy) (i : Nat) : IT := match w with
  | .take a _ => cond (Nat.beq i a) (.fn 81 (.var (40 + i)) (.lit 0)) (.var (40 + i))
  | .give a _ _ => cond (Nat.beq i a) (.fn 82 (.var (40 + i)) numT) (.var (40 + i))
  | .clone _ => .var (40 + idx p w i)
def nRow (p : Pat) (w : Wy) (i : Nat) : IT := match w with
  | .take a true => cond (Nat.beq i a) (.un 3 (rowT p i) (.fn 89 (rowT p i) (.var 60))) (.var (44 + i))
  | .give a _ _ => cond (Nat.beq i a) (.fn 91 (rowT p i) numT) (.var (44 + i))
  | _ => .var (44 + idx p w i)
def nHigh (p : Pat) (w : Wy) (i : Nat) : IT := match w with
  | .take a true => cond (Nat.beq i a) (.mx (.var (48 + i)) (.fn 89 (rowT p i) (.var 60))) (.var (48 + i))
  | _ => .var (48 + idx p w i)
def nLen (p : Pat) (w : Wy) (i : Nat) : IT := match w with
  | .take a true => cond (Nat.beq i a) (.bin .add .i64 (cond (p.getD i false) (.var (52 + i)) (.lit 0)) (.lit 1)) (.var (52 + i))
  | .give a _ _ => cond (Nat.beq i a) (.fn 92 (rowT p i) numT) (.var (52 + i))
  | _ => .var (52 + idx p w i)
def newI (p q : Pat) (w : Wy) : List (Nat × IT) := [(1, up1)] ++ (List.range q.length).map (fun i => (40 + i, nBig p w i)) ++ (List.range q.length).filterMap (fun i => cond (q.getD i false) (some (44 + i, nRow p w i)) none) ++ (List.range q.length).map (fun i => (48 + i, nHigh p w i)) ++ (List.range q.length).filterMap (fun i => cond (q.getD i false) (some (52 + i, nLen p w i)) none)
noncomputable def runW (p : Pat) (w : Wy) : Option (List LS) := (run Try.prog [] sp5 4000 true 5 ((⟨(W p).tm, (W p).nt, (W p).H, (W p).nl, facts p w ++ (W p).cs, (W p).dep⟩ : Tpl).st (.code wb0 :: .inLoop wb0 :: wk0))).map (·.filterMap (sumC gW [W (after p w)] ksW))
noncomputable def endW (p : Pat) (w : Wy) : Option (List LS) := some [.next 0 (.inLoop wb0 :: wk0) [] ⟨newI p (after p w) w, [], [], [], []⟩]
def ways (p : Pat) : List Wy := (List.range p.length).flatMap fun j => [.take j true, .take j false, .give j false (p.getD j false)] ++ cond (p.getD j false) [.give j true true, .give j true false] [] ++ [.clone j]
def AllW (p : Pat) : List Wy → Prop
  | [] => True
  | w :: r => runW p w = endW p w ∧ AllW p r
theorem AllW.mem {p : Pat} : ∀ {l : List Wy}, AllW p l → ∀ w ∈ l, runW p w = endW p w
  | w :: r, h, w', hw => by
    rcases List.mem_cons.1 hw with rfl | hw
    · exact h.1
    · exact AllW.mem h.2 _ hw
noncomputable def E (p : Pat) (w : Wy) : Prop := runW p w = endW p w
theorem law_in : (run Try.prog [] sp5 4000 true 5 (entry Try.f5 (Try.f5.body.getD .ret) args5 (ofP [(0, opsB)]) 1 csA)).map (·.filterMap (sumC gW [W [false]] ksW)) = some [.next 0 (.code (.loop wb0) :: wk0) [] ⟨[(1, .lit 0), (40, .un 3 (.un 3 (.lit 0) (.var 60)) (.lit 0)), (48, .lit 0)], [], [], [], []⟩] := by kernel_rfl
end La
end Go.Proofs.Ytlcjgmehccopkaa
