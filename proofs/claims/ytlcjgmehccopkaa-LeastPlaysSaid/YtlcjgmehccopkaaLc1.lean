/-
  LeastPlays: the law's end: its heads.
-/
import Derived.Test.YtlcjgmehccopkaaLa6
namespace Go.Proofs.Ytlcjgmehccopkaa
open Go.Vm Go.Vm.Le
namespace La
open Lp

def plN : PL := PL.only [36]
def lenA (p : Pat) (j : Nat) : IT := cond (p.getD j false) (.var (52 + j)) (.lit 0)
def kA (p : Pat) (j : Nat) : IT := cond (p.getD j false) (.var 1) (.lit 0)
def HN (p : Pat) : List (Nat × HB) := [(2, ⟨.cells ((List.range p.length).map fun j => .ptr (10 + j) (.lit 0)) 24 (capT p.length 4 1), true⟩), (3, ⟨.cells (wants 0 p) 41 (capT p.length 5 3), true⟩)] ++ (List.range p.length).map bgB ++ rows 0 p
def tmN (p : Pat) (j : Nat) : List (Nat × AVal) := [(2, iV 64), (6, .bool (.lit false)), (8, .int .i64 (.lit 0)), (12, wantA p.length), (202, allA p.length), (203, .int .i64 (.lit (.ofNat p.length))), (204, .int .i64 (.lit (.ofNat j))), (25, .ptr (10 + j) (.lit 0)), (244, rwA (p.getD j false) j), (245, .int .i64 (lenA p j)), (246, .int .i64 (kA p j))]
def csN (p : Pat) (j : Nat) : Cs := cond (p.getD j false) [(.cmp .geq (.var 1) (.lit 0), true), (.cmp .leq (.var 1) (.var (52 + j)), true)] [] ++ csRows 0 p
def N (p : Pat) (j : Nat) : Tpl := ⟨tmN p j, 258, HN p, 30, csN p j, 7⟩
-- FACTS
def fS (p : Pat) (b : Bool) (j : Nat) : Cs :=
  [(.cmp .neq (.fn 84 (bigT j) (.lit 0)) (lenA p j), false), (.cmp .neq (.fn 85 (bigT j) (.lit 0)) (.var (48 + j)), false), (.cmp .eql (.fn 83 (bigT j) (.var 64)) (.lit 1), b)] ++ cond (p.getD j false) [(.cmp .eql (.fn 88 (.var (44 + j)) (.var 64)) (.lit 1), b)] []
def fK (j : Nat) : Cs := [(.cmp .lss (.var 1) (.var (52 + j)), true), (.cmp .eql (.fn 83 (bigT j) (.un 0 (.var (44 + j)) (.elem (.lit 0) 1 0 (.var 1)))) (.lit 1), true)]
def fX (p : Pat) (j : Nat) : Cs := cond (p.getD j false) [(.cmp .lss (.var 1) (.var (52 + j)), false)] []
-- THE ENDS
noncomputable def nb : Code := ((loopsOf (Try.f5.body.getD .ret) []).getD 2 (.ret, [])).1
noncomputable def nk : List Item := ((loopsOf (Try.f5.body.getD .ret) []).getD 2 (.ret, [])).2
def sameW : Wy := .take 9 false
def exN (p : Pat) (j : Nat) (t : IT) : List (Nat × IT) := cond (p.getD j false) [(1, t)] [] ++ (newI p p sameW).drop 1
noncomputable def runN (T : Tpl) (b : Code) (k : List Item) (c : Cs) (U : Tpl) : Option (List LS) := (run Try.prog [] sp5 4000 plN 5 ((⟨T.tm, T.nt, T.H, T.nl, c ++ T.cs, T.dep⟩ : Tpl).st (.code b :: .inLoop b :: k))).map (·.filterMap (sumC gW [U] ksW))
noncomputable def E1 (p : Pat) (b : Bool) : Prop := runN (W p) wb0 wk0 (fI false ++ fS p b 0) (N p 0) = some [.next 0 (.code (.loop nb) :: nk) [] ⟨exN p 0 (.lit 0), [], [], [], []⟩]
noncomputable def E2 (p : Pat) (j : Nat) : Prop := runN (N p j) nb nk (fK j) (N p j) = some [.next 0 (.inLoop nb :: nk) [] ⟨exN p j up1, [], [], [], []⟩]
noncomputable def E3 (p : Pat) (j : Nat) (b : Bool) : Prop := runN (N p j) nb nk (fX p j ++ fS p b (j + 1)) (N p (j + 1)) = some [.next 0 (.code (.loop nb) :: nk) [] ⟨exN p (j + 1) (.lit 0), [], [], [], []⟩]
noncomputable def E4 (p : Pat) (j : Nat) : Prop := runN (N p j) nb nk (fX p j) (N p j) = some [.ret (.bool (.lit true)) []]
/-- All that was run for one pattern. -/
structure Ends (p : Pat) : Prop where
  e1 : ∀ b, (p.getD 0 false = false → b = false) → E1 p b
  e2 : ∀ j, p.getD j false = true → E2 p j
  e3 : ∀ j b, j + 1 < p.length → (p.getD (j + 1) false = false → b = false) → E3 p j b
  e4 : ∀ j, j + 1 = p.length → E4 p j
end La
end Go.Proofs.Ytlcjgmehccopkaa
