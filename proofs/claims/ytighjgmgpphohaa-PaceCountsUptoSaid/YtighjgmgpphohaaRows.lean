/-
  No cell of these rows narrows 'for every input' (looked for: loops, veiled, ifaces, maps, wideKeys, modest, calm, conditions, laid).
  DERIVED. THE GIVEN ROWS OF THIS SEAT. 3 by the template 'for every input the law returns true; each argument reads behind the call as it read before'; 0 by the template 'total and deterministic' (their statements: YtighjgmgpphohaaTotals.lean).
  GIVEN WITH THE SEED: the statements are not yours to turn. If you find one false, say at which input.
  Laid BY PROGRAM, IN A SANDBOX (cutbox-rows.mjs): the forced cells as the released guide's own fill.sh prints them over the translation a053d2f4904fc7da… (all of the seat's roots in one cut). By AI agents, Wed Nov 11 2026. No macro, syntax, notation, axiom, sorry.
-/
import Derived.Test.YtighjgmgpphohaaChecked
import GoSem.Claim
import GoSem.ClaimJoined
import GoSem.ClaimMapViews
import Derived.JoinedTies
import Derived.KernelRfl
namespace Go.Proofs.Ytighjgmgpphohaa
/- THE CELL 'sum', in the pinned program and in every row, IS THE sha256 OF THE DUMP (.gsa) THAT YtighjgmgpphohaaProg.lean LOADS. Nothing in Lean hashes anything: it is a label: what it is worth is what the hold of that sum in a sandbox is worth. -/
noncomputable def Try.pinned : Pinned := { name := "ytighjgmgpphohaa", sum := "a053d2f4904fc7da46a92b3630f68c96a09dbc9ba963459a54cf2d7460bdce8a", checked := Try.checked }
namespace Rows
def none {H : Type} : Left H := { results := [], args := [] }

/-- 'roundelaylaw04.PaceLatest': WHATEVER THE INPUT: true; the input reads as it did. -/
def paceLatestSpec : ChangeSpec := { name := "paceLatest", fn := fun _ => fun
  | [d1, d2] => { results := [.lit (.bool true)], args := [d1, d2] }
  | _ => none }
def paceLatestRow : OpenClaim := { program := "ytighjgmgpphohaa", sum := "a053d2f4904fc7da46a92b3630f68c96a09dbc9ba963459a54cf2d7460bdce8a", func := "roundelay/roundelaylaw04.PaceLatest", spec := "paceLatest", unfollowed := true, recurses := true, apart := false }
def PaceLatestSaid : Prop := paceLatestRow.holds Try.pinned (OpenSpec.ofChange paceLatestSpec)

/-- ITS FALSE NEIGHBOUR: 'it returns false'. Refute it at one input. -/
def paceLatestWrong : ChangeSpec := { name := "paceLatest", fn := fun _ => fun
  | [d1, d2] => { results := [.lit (.bool false)], args := [d1, d2] }
  | _ => none }
def PaceLatestWrongFalsely : Prop := paceLatestRow.holds Try.pinned (OpenSpec.ofChange paceLatestWrong)

/-- 'roundelaylaw04.PaceGears': WHATEVER THE INPUT: true; the input reads as it did. -/
def paceGearsSpec : ChangeSpec := { name := "paceGears", fn := fun _ => fun
  | [d1, d2] => { results := [.lit (.bool true)], args := [d1, d2] }
  | _ => none }
def paceGearsRow : OpenClaim := { program := "ytighjgmgpphohaa", sum := "a053d2f4904fc7da46a92b3630f68c96a09dbc9ba963459a54cf2d7460bdce8a", func := "roundelay/roundelaylaw04.PaceGears", spec := "paceGears", unfollowed := true, recurses := true, apart := false }
def PaceGearsSaid : Prop := paceGearsRow.holds Try.pinned (OpenSpec.ofChange paceGearsSpec)

/-- ITS FALSE NEIGHBOUR: 'it returns false'. Refute it at one input. -/
def paceGearsWrong : ChangeSpec := { name := "paceGears", fn := fun _ => fun
  | [d1, d2] => { results := [.lit (.bool false)], args := [d1, d2] }
  | _ => none }
def PaceGearsWrongFalsely : Prop := paceGearsRow.holds Try.pinned (OpenSpec.ofChange paceGearsWrong)

/-- 'roundelaylaw04.PaceCounts': WHATEVER THE INPUT: true; the input reads as it did. -/
def paceCountsSpec : ChangeSpec := { name := "paceCounts", fn := fun _ => fun
  | [d1, d2] => { results := [.lit (.bool true)], args := [d1, d2] }
  | _ => none }
def paceCountsRow : OpenClaim := { program := "ytighjgmgpphohaa", sum := "a053d2f4904fc7da46a92b3630f68c96a09dbc9ba963459a54cf2d7460bdce8a", func := "roundelay/roundelaylaw04.PaceCounts", spec := "paceCounts", inPlace := ["maps.clone"], unfollowed := true, recurses := true, apart := false }
def PaceCountsSaid : Prop := paceCountsRow.holds Try.pinned (OpenSpec.ofChange paceCountsSpec)

/-- ITS FALSE NEIGHBOUR: 'it returns false'. Refute it at one input. -/
def paceCountsWrong : ChangeSpec := { name := "paceCounts", fn := fun _ => fun
  | [d1, d2] => { results := [.lit (.bool false)], args := [d1, d2] }
  | _ => none }
def PaceCountsWrongFalsely : Prop := paceCountsRow.holds Try.pinned (OpenSpec.ofChange paceCountsWrong)

/- THE SECOND FORM. 'bulk': how many values and letters a reading holds, each counted each time it is reached (what is shared counts as often as it is met; a slice's spare places count too). A statement '..UptoSaid' is the law's where the arguments, and the package variables that the reading takes, are together of bulk at most 1048576: NARROWER than '..Said'. Prove '..Said' where nothing that the law and all that it calls make is longer than what came in: it says more and counts as full. Else prove '..UptoSaid'. A law counts once. -/
mutual
def uptoBulk {H : Type} : DataW H → Nat
  | .lit (.string bytes) => bytes.length + 1
  | .lit _ => 1
  | .nil => 1
  | .ptr d => uptoBulk d + 1
  | .slice elems spare => uptoBulkAll elems + uptoBulkAll spare + 1
  | .agg parts => uptoBulkAll parts + 1
  | .iface _ d => uptoBulk d + 1
  | .map entries => uptoBulkEntries entries + 1
  | .held _ => 1
def uptoBulkAll {H : Type} : List (DataW H) → Nat
  | [] => 0
  | d :: r => uptoBulk d + uptoBulkAll r
def uptoBulkEntries {H : Type} : List (Lit × DataW H) → Nat
  | [] => 0
  | x :: r => uptoBulkEntry x + uptoBulkEntries r
def uptoBulkEntry {H : Type} : Lit × DataW H → Nat
  | (.string bytes, d) => bytes.length + uptoBulk d + 1
  | (_, d) => uptoBulk d + 1
 end
def uptoSmall : (H : Type) → List (DataW H) → Bool := fun _ ds => decide (uptoBulkAll ds ≤ 1048576)
def OpenSpec.upto (s : _root_.Go.ChangeSpec) : _root_.Go.OpenSpec := { _root_.Go.OpenSpec.ofChange s with cond := some uptoSmall }

/-- 'roundelaylaw04.PaceLatest', WHERE WHAT IT READS IS OF BULK AT MOST 1048576: true; the input reads as it did. -/
def paceLatestUptoRow : OpenClaim := { program := "ytighjgmgpphohaa", sum := "a053d2f4904fc7da46a92b3630f68c96a09dbc9ba963459a54cf2d7460bdce8a", func := "roundelay/roundelaylaw04.PaceLatest", spec := "paceLatest", unfollowed := true, recurses := true, apart := false, narrowed := true }
def PaceLatestUptoSaid : Prop := paceLatestUptoRow.holds Try.pinned (OpenSpec.upto paceLatestSpec)

/-- 'roundelaylaw04.PaceGears', WHERE WHAT IT READS IS OF BULK AT MOST 1048576: true; the input reads as it did. -/
def paceGearsUptoRow : OpenClaim := { program := "ytighjgmgpphohaa", sum := "a053d2f4904fc7da46a92b3630f68c96a09dbc9ba963459a54cf2d7460bdce8a", func := "roundelay/roundelaylaw04.PaceGears", spec := "paceGears", unfollowed := true, recurses := true, apart := false, narrowed := true }
def PaceGearsUptoSaid : Prop := paceGearsUptoRow.holds Try.pinned (OpenSpec.upto paceGearsSpec)

/-- 'roundelaylaw04.PaceCounts', WHERE WHAT IT READS IS OF BULK AT MOST 1048576: true; the input reads as it did. -/
def paceCountsUptoRow : OpenClaim := { program := "ytighjgmgpphohaa", sum := "a053d2f4904fc7da46a92b3630f68c96a09dbc9ba963459a54cf2d7460bdce8a", func := "roundelay/roundelaylaw04.PaceCounts", spec := "paceCounts", inPlace := ["maps.clone"], unfollowed := true, recurses := true, apart := false, narrowed := true }
def PaceCountsUptoSaid : Prop := paceCountsUptoRow.holds Try.pinned (OpenSpec.upto paceCountsSpec)

end Rows
end Go.Proofs.Ytighjgmgpphohaa
