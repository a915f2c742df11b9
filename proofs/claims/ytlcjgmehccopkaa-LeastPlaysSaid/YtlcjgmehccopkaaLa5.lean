/-
  LeastPlays (5): what is known, as the machine takes it; the law's heads.
-/
import Derived.Test.YtlcjgmehccopkaaLa4
namespace Go.Proofs.Ytlcjgmehccopkaa
open Go.Vm Go.Vm.Le
namespace La
open Lp

/-- A reference's row: its number and its length, where they are known. -/
def rowC (H : Heap) (cs : Cs) (L : AVal) : Option (IT × IT) := match L with
  | .sliceNil => some (.lit 0, .lit 0)
  | .slice l (.lit (.ofNat 0)) len _ => match H.get l with
    | some ⟨.arr (.code [.i64] c) [.i64] _ len' (.lit (.ofNat 0)) _, _⟩ => cond (IT.beq len len' && sureC cs (.cmp .geq len (.lit 1)) && sureC cs (.cmp .leq len (.lit 70000))) (some (c, len)) none
    | _ => none
  | _ => none
def newRow (c len : IT) (H : Heap) (nl : Nat) : Heap := H.set (nl + 1) ⟨.arr (.code [.i64] c) [.i64] 3 len (.lit 0) (some (.nv nl)), true⟩
def spTakeR : SpG := fun args H nl cs => match args with
  | [.agg [.int .i64 m, .int .i64 h, L]] => match rowC H cs L with
    | some (c, len) => cond (sureC cs (.cmp .leq m (.lit 65535))) (match lookB cs (.cmp .gtr (.fn 89 c m) (.lit 0)) with
      | some true => some [.ret (.tuple [.agg [.int .i64 m, .int .i64 (.mx h (.fn 89 c m)), .slice (nl + 1) (.lit 0) (.bin .add .i64 len (.lit 1)) (.nv nl)], .int .i64 (.fn 89 c m)]) (newRow (.un 3 c (.fn 89 c m)) (.bin .add .i64 len (.lit 1)) H nl) (nl + 2) cs]
      | some false => some [.ret (.tuple [.agg [.int .i64 m, .int .i64 h, L], .int .i64 (.lit 0)]) H nl cs]
      | none => none) none
    | none => none
  | _ => none
def spGiveR : SpG := fun args H nl cs => match args with
  | [.agg [.int .i64 m, .int .i64 h, L], .int .i64 n] => match rowC H cs L with
    | some (c, _) => match lookB cs (.cmp .gtr (.fn 92 c n) (.lit 0)) with
      | some true => some [.ret (.tuple [.agg [.int .i64 m, .int .i64 h, .slice (nl + 1) (.lit 0) (.fn 92 c n) (.nv nl)], .bool (.cmp .eql (.fn 88 c n) (.lit 1))]) (newRow (.fn 91 c n) (.fn 92 c n) H nl) (nl + 2) cs]
      | some false => some [.ret (.tuple [.agg [.int .i64 m, .int .i64 h, .sliceNil], .bool (.cmp .eql (.fn 88 c n) (.lit 1))]) H nl cs]
      | none => none
    | none => none
  | _ => none
def sp5 : CallF := spL [(6, spTrue), (7, spNew), (8, spTake), (9, spUsed), (10, spLen), (11, spGive), (12, spHigh), (13, spClo), (14, spTakeR), (15, spGiveR), (16, spHas)]
-- THE HEADS
def gW : Gen := ⟨60, 0, 0, 0⟩
def kOp : List IntKind := [.i64, .i64, .i64]
def opsB : HB := ⟨.arr (.var 0) kOp 29 (.var 61) (.var 62) none, false⟩
def opsA : AVal := .slice 0 (.var 62) (.var 61) (.var 63)
def args5 : List AVal := [iV 60, opsA, iV 64]
def csA : Cs := [(.cmp .geq (.var 61) (.lit 1), true), (.cmp .leq (.var 61) (.lit 100), true), (.cmp .gtr (.var 61) (.lit 100), false), (.cmp .lss (.var 60) (.lit 0), false), (.cmp .gtr (.var 60) (.lit 65535), false), (.cmp .leq (.var 60) (.lit 65535), true), (.cmp .geq (.var 60) (.lit 0), true)]
/-- The rows that are nil (false), or not. -/
abbrev Pat := List Bool
def rwA (y : Bool) (j : Nat) : AVal := cond y (.slice (20 + j) (.lit 0) (.var (52 + j)) (.var (56 + j))) .sliceNil
def rwB (j : Nat) : Nat × HB := (20 + j, ⟨.arr (.code [.i64] (.var (44 + j))) [.i64] 3 (.var (52 + j)) (.lit 0) none, false⟩)
def bgB (j : Nat) : Nat × HB := (10 + j, ⟨.big 0 (.var (40 + j)), true⟩)
def wants : Nat → Pat → List AVal
  | _, [] => []
  | j, y :: r => [iV 60, iV (48 + j), rwA y j] ++ wants (j + 1) r
def rows : Nat → Pat → List (Nat × HB)
  | _, [] => []
  | j, y :: r => cond y [rwB j] [] ++ rows (j + 1) r
def csRow (j : Nat) : Cs := [(.cmp .geq (.var (52 + j)) (.lit 1), true), (.cmp .leq (.var (52 + j)) (.lit 70000), true)]
def csRows : Nat → Pat → Cs
  | _, [] => []
  | j, y :: r => cond y (csRow j) [] ++ csRows (j + 1) r
def capA (m i : Nat) : IT := match m with
  | 1 => .lit 1
  | _ => .nv i
def capT (m i sz : Nat) : Option (Nat × Nat) := match m with
  | 1 => none
  | _ => some (i, sz)
def allA (m : Nat) : AVal := .slice 2 (.lit 0) (.lit (.ofNat m)) (capA m 4)
def wantA (m : Nat) : AVal := .slice 3 (.lit 0) (.lit (.ofNat m)) (capA m 5)
def tmW (m : Nat) : List (Nat × AVal) := [(2, iV 64), (6, .bool (.lit false)), (8, .int .i64 (.lit 0)), (11, allA m), (12, wantA m), (87, opsA), (88, iV 61), (89, iV 1)]
def HW (p : Pat) : List (Nat × HB) := [(0, opsB), (2, ⟨.cells ((List.range p.length).map fun j => .ptr (10 + j) (.lit 0)) 24 (capT p.length 4 1), true⟩), (3, ⟨.cells (wants 0 p) 41 (capT p.length 5 3), true⟩)] ++ (List.range p.length).map bgB ++ rows 0 p
def csW (p : Pat) : Cs := [(.cmp .geq (.var 1) (.lit 0), true), (.cmp .leq (.var 1) (.var 61), true)] ++ csRows 0 p ++ csA
def W (p : Pat) : Tpl := ⟨tmW p.length, 258, HW p, 30, csW p, 3⟩
def fI (b : Bool) : Cs := [(.cmp .lss (.var 1) (.var 61), b)]
-- THE WAYS OF A ROUND
def atT (m : Nat) : IT := .cv .i64 (.bin .rem .u64 (.cv .u64 (.sel 0 3 1 (.var 1))) (.lit (.ofNat m)))
def kindT : IT := .bin .rem .u64 (.cv .u64 (.sel 0 3 0 (.var 1))) (.lit 6)
def numT : IT := .sel 0 3 2 (.var 1)
def bigT (j : Nat) : IT := .var (40 + j)
def rowT (p : Pat) (j : Nat) : IT := cond (p.getD j false) (.var (44 + j)) (.lit 0)
def f3 (b : Bool) : Cs := [(.cmp .lss kindT (.lit 3), b)]
def f5 (b : Bool) : Cs := [(.cmp .lss kindT (.lit 5), b)]
def fAt (m j : Nat) : Cs := [(.cmp .eql (atT m) (.lit (.ofNat j)), true)]
inductive Wy where
  | take (j : Nat) (ok : Bool)
  | give (j : Nat) (ok some : Bool)
  | clone (j : Nat)
def fTake (p : Pat) (j : Nat) (ok : Bool) : Cs :=
  let r : IT := .fn 89 (rowT p j) (.var 60)
  let i : IT := .fn 80 (bigT j) (.lit 0)
  let f : IT := .fn 86 (bigT j) (.lit 0)
  [(.cmp .gtr r (.lit 0), ok)] ++ cond ok [(.cmp .neq i r, false), (.cmp .eql f (.lit 0), true), (.cmp .neq f (.lit 0), false)] [(.cmp .neq i (.lit 0), false), (.cmp .eql f (.lit 0), false), (.cmp .neq f (.lit 0), true), (.cmp .neq f (.lit 20), false)]
def fGive (p : Pat) (j : Nat) (ok sm : Bool) : Cs :=
  let f : IT := .fn 87 (bigT j) numT
  [(.cmp .gtr (.fn 92 (rowT p j) numT) (.lit 0), sm), (.cmp .eql (.fn 88 (rowT p j) numT) (.lit 1), ok)] ++ cond ok [(.cmp .eql f (.lit 0), true), (.cmp .neq f (.lit 0), false)] [(.cmp .eql f (.lit 0), false), (.cmp .neq f (.lit 0), true), (.cmp .neq f (.lit 21), false)]
def facts (p : Pat) : Wy → Cs
  | .take j ok => fI true ++ f3 true ++ fAt p.length j ++ fTake p j ok
  | .give j ok sm => fI true ++ f3 false ++ f5 true ++ fAt p.length j ++ fGive p j ok sm
  | .clone j => fI true ++ f3 false ++ f5 false ++ fAt p.length j
def after (p : Pat) : Wy → Pat
  | .take j ok => cond ok (p.set j true) p
  | .give j _ sm => cond (p.getD j false) (p.set j sm) p
  | .clone j => cond (Nat.blt p.length 4) (p ++ [p.getD j false]) p
end La
end Go.Proofs.Ytlcjgmehccopkaa
