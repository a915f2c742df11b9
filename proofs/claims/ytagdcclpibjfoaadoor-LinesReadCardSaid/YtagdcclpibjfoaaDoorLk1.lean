/-
  Scripts (2): what is known of packing, told as terms.
-/
import Derived.Test.YtagdcclpibjfoaaDoorOt7
namespace Go.Proofs.YtagdcclpibjfoaaDoor
open Go.Vm Txt
namespace Sc

def uCv (t : IT) : IT := .cv .u64 t
def mulU (t : IT) (n : Int) : IT := .bin .mul .u64 (uCv t) (.lit n)
def addU (a b : IT) : IT := .bin .add .u64 a b
def packT (c k a b : IT) : IT := addU (addU (addU (mulU c 268435456) (mulU k 1048576)) (mulU a 1024)) (uCv b)
def zeroOp : AVal := .agg [.int .i64 (.lit 0), .int .i64 (.lit 0), .int .i64 (.lit 0), .int .i64 (.lit 0)]
def spPack : SpecF := fun args => match args with
  | [.agg [.int .i64 c, .int .i64 k, .int .i64 a, .int .i64 b]] => some [(.tuple [.int .u64 (packT c k a b), .bool (.lit true)], [(tRight c k a b, true)]), (.tuple [.int .u64 (.lit 0), .bool (.lit false)], [(tRight c k a b, false)])]
  | _ => none
def quoU (n : IT) (c : Int) : IT := .bin .quo .u64 n (.lit c)
def remU (n : IT) (c : Int) : IT := .bin .rem .u64 n (.lit c)
def pC (n : IT) : IT := .cv .i64 (quoU n 268435456)
def pK (n : IT) : IT := .cv .i64 (remU (quoU n 1048576) 256)
def pA (n : IT) : IT := .cv .i64 (remU (quoU n 1024) 1024)
def pB (n : IT) : IT := .cv .i64 (remU n 1024)
def spUnpack : SpecF := fun args => match args with
  | [.int .u64 n] => some [(.tuple [zeroOp, .bool (.lit false)], [(.cmp .gtr n (.lit 4294967295), true)]),
      (.tuple [.agg [.int .i64 (pC n), .int .i64 (pK n), .int .i64 (pA n), .int .i64 (pB n)], .bool (.lit true)], [(.cmp .gtr n (.lit 4294967295), false), (tRight (pC n) (pK n) (pA n) (pB n), true)]),
      (.tuple [zeroOp, .bool (.lit false)], [(.cmp .gtr n (.lit 4294967295), false), (tRight (pC n) (pK n) (pA n) (pB n), false)])]
  | _ => none
def iv8 (j : Nat) : AVal := .int .i64 (.var j)
def evA : AVal := .agg [iv8 0, iv8 1, iv8 2, iv8 3, iv8 4, iv8 5, iv8 6, iv8 7]
/-- Decode, of any number: the functions 30 to 38. -/
def decF (x : IT) (j : Nat) : IT := .fn (30 + j) x (.lit 0)
def decV (x : IT) (t : Bool) : AVal × Cs := (.tuple [.agg [.int .i64 (decF x 0), .int .i64 (decF x 1), .int .i64 (decF x 2), .int .i64 (decF x 3), .int .i64 (decF x 4), .int .i64 (decF x 5), .int .i64 (decF x 6), .int .i64 (decF x 7)], .bool (.lit t)], [(.cmp .eql (decF x 8) (.lit 1), t)])
end Sc
end Go.Proofs.YtagdcclpibjfoaaDoor
