/-
  No cell of these rows narrows 'for every input' (looked for: loops, veiled, ifaces, maps, wideKeys, modest, calm, conditions, laid).
  DERIVED. THE GIVEN ROWS OF THIS SEAT. 3 by the template 'for every input the law returns true; each argument reads behind the call as it read before'; 0 by the template 'total and deterministic' (their statements: YtlcjgmehccopkaaTotals.lean).
  GIVEN WITH THE SEED: the statements are not yours to turn. If you find one false, say at which input.
  Laid BY PROGRAM, IN A SANDBOX (cutbox-rows.mjs): the forced cells as the released guide's own fill.sh prints them over the translation cc69fcfdd0741de1… (all of the seat's roots in one cut). By AI agents, Wed Nov 11 2026. No macro, syntax, notation, axiom, sorry.
-/
import Derived.Test.YtlcjgmehccopkaaChecked
import GoSem.Claim
import GoSem.ClaimJoined
import GoSem.ClaimMapViews
import Derived.JoinedTies
import Derived.KernelRfl
namespace Go.Proofs.Ytlcjgmehccopkaa
/- THE CELL 'sum', in the pinned program and in every row, IS THE sha256 OF THE DUMP (.gsa) THAT YtlcjgmehccopkaaProg.lean LOADS. Nothing in Lean hashes anything: it is a label: what it is worth is what the hold of that sum in a sandbox is worth. -/
noncomputable def Try.pinned : Pinned := { name := "ytlcjgmehccopkaa", sum := "cc69fcfdd0741de105daf05a0647240b0234b51c457d17f2f0ef56de233389bc", checked := Try.checked }
namespace Rows
def none {H : Type} : Left H := { results := [], args := [] }

/-- 'roundelaylaw02.LeastHolds': WHATEVER THE INPUT: true; the input reads as it did. -/
def leastHoldsSpec : ChangeSpec := { name := "leastHolds", fn := fun _ => fun
  | [d1, d2] => { results := [.lit (.bool true)], args := [d1, d2] }
  | _ => none }
def leastHoldsRow : OpenClaim := { program := "ytlcjgmehccopkaa", sum := "cc69fcfdd0741de105daf05a0647240b0234b51c457d17f2f0ef56de233389bc", func := "roundelay/roundelaylaw02.LeastHolds", spec := "leastHolds", unfollowed := true, recurses := true, apart := false }
def LeastHoldsSaid : Prop := leastHoldsRow.holds Try.pinned (OpenSpec.ofChange leastHoldsSpec)

/-- ITS FALSE NEIGHBOUR: 'it returns false'. Refute it at one input. -/
def leastHoldsWrong : ChangeSpec := { name := "leastHolds", fn := fun _ => fun
  | [d1, d2] => { results := [.lit (.bool false)], args := [d1, d2] }
  | _ => none }
def LeastHoldsWrongFalsely : Prop := leastHoldsRow.holds Try.pinned (OpenSpec.ofChange leastHoldsWrong)

/-- 'roundelaylaw02.LeastFirst': WHATEVER THE INPUT: true; the input reads as it did. -/
def leastFirstSpec : ChangeSpec := { name := "leastFirst", fn := fun _ => fun
  | [d1, d2] => { results := [.lit (.bool true)], args := [d1, d2] }
  | _ => none }
def leastFirstRow : OpenClaim := { program := "ytlcjgmehccopkaa", sum := "cc69fcfdd0741de105daf05a0647240b0234b51c457d17f2f0ef56de233389bc", func := "roundelay/roundelaylaw02.LeastFirst", spec := "leastFirst", unfollowed := true, recurses := true, apart := false }
def LeastFirstSaid : Prop := leastFirstRow.holds Try.pinned (OpenSpec.ofChange leastFirstSpec)

/-- ITS FALSE NEIGHBOUR: 'it returns false'. Refute it at one input. -/
def leastFirstWrong : ChangeSpec := { name := "leastFirst", fn := fun _ => fun
  | [d1, d2] => { results := [.lit (.bool false)], args := [d1, d2] }
  | _ => none }
def LeastFirstWrongFalsely : Prop := leastFirstRow.holds Try.pinned (OpenSpec.ofChange leastFirstWrong)

/-- 'roundelaylaw02.LeastPlays': WHATEVER THE INPUT: true; the input reads as it did. -/
def leastPlaysSpec : ChangeSpec := { name := "leastPlays", fn := fun _ => fun
  | [d1, d2, d3] => { results := [.lit (.bool true)], args := [d1, d2, d3] }
  | _ => none }
def leastPlaysRow : OpenClaim := { program := "ytlcjgmehccopkaa", sum := "cc69fcfdd0741de105daf05a0647240b0234b51c457d17f2f0ef56de233389bc", func := "roundelay/roundelaylaw02.LeastPlays", spec := "leastPlays", inPlace := ["maps.clone"], unfollowed := true, recurses := true, apart := false }
def LeastPlaysSaid : Prop := leastPlaysRow.holds Try.pinned (OpenSpec.ofChange leastPlaysSpec)

/-- ITS FALSE NEIGHBOUR: 'it returns false'. Refute it at one input. -/
def leastPlaysWrong : ChangeSpec := { name := "leastPlays", fn := fun _ => fun
  | [d1, d2, d3] => { results := [.lit (.bool false)], args := [d1, d2, d3] }
  | _ => none }
def LeastPlaysWrongFalsely : Prop := leastPlaysRow.holds Try.pinned (OpenSpec.ofChange leastPlaysWrong)

/- THE SECOND FORM. 'bulk': how many values and letters a reading holds, each counted each time it is reached (what is shared counts as often as it is met; a slice's spare places count too). A statement '..UptoSaid' is the law's where the arguments, and the package variables that the reading takes, are together of bulk at most 1048576: NARROWER than '..Said'. Prove '..Said' where nothing that the law and all that it calls make is longer than what came in: it says more and counts as full. Else prove '..UptoSaid'. A law counts once. -/
mutual
def uptoBulk {H : Type} : DataW H → Nat
  | .lit (.string bytes) => bytes.length + 1
  | .lit _ => 1
  | .nil => 1
  | .ptr d => uptoBulk d + 1
  | .slice elems spare => uptoBulkAll elems + uptoBulkAll spare + 1
  | .agg parts => uptoBulkAll parts + 1
  | .iface _ d => uptoBulk d + 1
  | .map entries => uptoBulkEntries entries + 1
  | .held _ => 1
def uptoBulkAll {H : Type} : List (DataW H) → Nat
  | [] => 0
  | d :: r => uptoBulk d + uptoBulkAll r
def uptoBulkEntries {H : Type} : List (Lit × DataW H) → Nat
  | [] => 0
  | x :: r => uptoBulkEntry x + uptoBulkEntries r
def uptoBulkEntry {H : Type} : Lit × DataW H → Nat
  | (.string bytes, d) => bytes.length + uptoBulk d + 1
  | (_, d) => uptoBulk d + 1
 end
def uptoSmall : (H : Type) → List (DataW H) → Bool := fun _ ds => decide (uptoBulkAll ds ≤ 1048576)
def OpenSpec.upto (s : _root_.Go.ChangeSpec) : _root_.Go.OpenSpec := { _root_.Go.OpenSpec.ofChange s with cond := some uptoSmall }

/-- 'roundelaylaw02.LeastHolds', WHERE WHAT IT READS IS OF BULK AT MOST 1048576: true; the input reads as it did. -/
def leastHoldsUptoRow : OpenClaim := { program := "ytlcjgmehccopkaa", sum := "cc69fcfdd0741de105daf05a0647240b0234b51c457d17f2f0ef56de233389bc", func := "roundelay/roundelaylaw02.LeastHolds", spec := "leastHolds", unfollowed := true, recurses := true, apart := false, narrowed := true }
def LeastHoldsUptoSaid : Prop := leastHoldsUptoRow.holds Try.pinned (OpenSpec.upto leastHoldsSpec)

/-- 'roundelaylaw02.LeastFirst', WHERE WHAT IT READS IS OF BULK AT MOST 1048576: true; the input reads as it did. -/
def leastFirstUptoRow : OpenClaim := { program := "ytlcjgmehccopkaa", sum := "cc69fcfdd0741de105daf05a0647240b0234b51c457d17f2f0ef56de233389bc", func := "roundelay/roundelaylaw02.LeastFirst", spec := "leastFirst", unfollowed := true, recurses := true, apart := false, narrowed := true }
def LeastFirstUptoSaid : Prop := leastFirstUptoRow.holds Try.pinned (OpenSpec.upto leastFirstSpec)

/-- 'roundelaylaw02.LeastPlays', WHERE WHAT IT READS IS OF BULK AT MOST 1048576: true; the input reads as it did. -/
def leastPlaysUptoRow : OpenClaim := { program := "ytlcjgmehccopkaa", sum := "cc69fcfdd0741de105daf05a0647240b0234b51c457d17f2f0ef56de233389bc", func := "roundelay/roundelaylaw02.LeastPlays", spec := "leastPlays", inPlace := ["maps.clone"], unfollowed := true, recurses := true, apart := false, narrowed := true }
def LeastPlaysUptoSaid : Prop := leastPlaysUptoRow.holds Try.pinned (OpenSpec.upto leastPlaysSpec)

end Rows
end Go.Proofs.Ytlcjgmehccopkaa
