/-
  No cell of these rows narrows 'for every input' (looked for: loops, veiled, ifaces, maps, wideKeys, modest, calm, conditions, laid).
  DERIVED. THE GIVEN ROWS OF THIS SEAT. 6 by the template 'for every input the law returns true; each argument reads behind the call as it read before'; 0 by the template 'total and deterministic' (their statements: YthifhdckfcgbkaaGreatTotals.lean).
  GIVEN WITH THE SEED: the statements are not yours to turn. If you find one false, say at which input.
  Laid BY PROGRAM, IN A SANDBOX (cutbox-rows.mjs): the forced cells as the released guide's own fill.sh prints them over the translation f64375b32f3fe8f4… (all of the seat's roots in one cut). By AI agents, Wed Nov 11 2026. No macro, syntax, notation, axiom, sorry.
-/
import Derived.Test.YthifhdckfcgbkaaGreatChecked
import GoSem.Claim
import GoSem.ClaimJoined
import GoSem.ClaimMapViews
import Derived.JoinedTies
import Derived.KernelRfl
namespace Go.Proofs.YthifhdckfcgbkaaGreat
/- THE CELL 'sum', in the pinned program and in every row, IS THE sha256 OF THE DUMP (.gsa) THAT YthifhdckfcgbkaaGreatProg.lean LOADS. Nothing in Lean hashes anything: it is a label: what it is worth is what the hold of that sum in a sandbox is worth. -/
noncomputable def Tryz.pinned : Pinned := { name := "ythifhdckfcgbkaagreat", sum := "f64375b32f3fe8f41481e51a73f9f217a0f4bbeda918a3cca1e93fcf848eee12", checked := Tryz.checked }
namespace Rows
def none {H : Type} : Left H := { results := [], args := [] }

/-- 'roundelaylaw29.BoundTells': WHATEVER THE INPUT: true; the input reads as it did. -/
def boundTellsSpec : ChangeSpec := { name := "boundTells", fn := fun _ => fun
  | [d1, d2] => { results := [.lit (.bool true)], args := [d1, d2] }
  | _ => none }
def boundTellsRow : OpenClaim := { program := "ythifhdckfcgbkaagreat", sum := "f64375b32f3fe8f41481e51a73f9f217a0f4bbeda918a3cca1e93fcf848eee12", func := "roundelay/roundelaylaw29.BoundTells", spec := "boundTells", unfollowed := true, recurses := true, apart := false }
def BoundTellsSaid : Prop := boundTellsRow.holds Tryz.pinned (OpenSpec.ofChange boundTellsSpec)

/-- ITS FALSE NEIGHBOUR: 'it returns false'. Refute it at one input. -/
def boundTellsWrong : ChangeSpec := { name := "boundTells", fn := fun _ => fun
  | [d1, d2] => { results := [.lit (.bool false)], args := [d1, d2] }
  | _ => none }
def BoundTellsWrongFalsely : Prop := boundTellsRow.holds Tryz.pinned (OpenSpec.ofChange boundTellsWrong)

/-- 'roundelaylaw29.BoundRooms': WHATEVER THE INPUT: true; the input reads as it did. -/
def boundRoomsSpec : ChangeSpec := { name := "boundRooms", fn := fun _ => fun
  | [d1, d2, d3] => { results := [.lit (.bool true)], args := [d1, d2, d3] }
  | _ => none }
def boundRoomsRow : OpenClaim := { program := "ythifhdckfcgbkaagreat", sum := "f64375b32f3fe8f41481e51a73f9f217a0f4bbeda918a3cca1e93fcf848eee12", func := "roundelay/roundelaylaw29.BoundRooms", spec := "boundRooms", unfollowed := true, recurses := true, apart := false }
def BoundRoomsSaid : Prop := boundRoomsRow.holds Tryz.pinned (OpenSpec.ofChange boundRoomsSpec)

/-- ITS FALSE NEIGHBOUR: 'it returns false'. Refute it at one input. -/
def boundRoomsWrong : ChangeSpec := { name := "boundRooms", fn := fun _ => fun
  | [d1, d2, d3] => { results := [.lit (.bool false)], args := [d1, d2, d3] }
  | _ => none }
def BoundRoomsWrongFalsely : Prop := boundRoomsRow.holds Tryz.pinned (OpenSpec.ofChange boundRoomsWrong)

/-- 'roundelaylaw35.PlanDraws': WHATEVER THE INPUT: true; the input reads as it did. -/
def planDrawsSpec : ChangeSpec := { name := "planDraws", fn := fun _ => fun
  | [d] => { results := [.lit (.bool true)], args := [d] }
  | _ => none }
def planDrawsRow : OpenClaim := { program := "ythifhdckfcgbkaagreat", sum := "f64375b32f3fe8f41481e51a73f9f217a0f4bbeda918a3cca1e93fcf848eee12", func := "roundelay/roundelaylaw35.PlanDraws", spec := "planDraws", unfollowed := true, recurses := true, apart := false }
def PlanDrawsSaid : Prop := planDrawsRow.holds Tryz.pinned (OpenSpec.ofChange planDrawsSpec)

/-- ITS FALSE NEIGHBOUR: 'it returns false'. Refute it at one input. -/
def planDrawsWrong : ChangeSpec := { name := "planDraws", fn := fun _ => fun
  | [d] => { results := [.lit (.bool false)], args := [d] }
  | _ => none }
def PlanDrawsWrongFalsely : Prop := planDrawsRow.holds Tryz.pinned (OpenSpec.ofChange planDrawsWrong)

/-- 'roundelaylaw35.PlanNumbers': WHATEVER THE INPUT: true; the input reads as it did. -/
def planNumbersSpec : ChangeSpec := { name := "planNumbers", fn := fun _ => fun
  | [d1, d2] => { results := [.lit (.bool true)], args := [d1, d2] }
  | _ => none }
def planNumbersRow : OpenClaim := { program := "ythifhdckfcgbkaagreat", sum := "f64375b32f3fe8f41481e51a73f9f217a0f4bbeda918a3cca1e93fcf848eee12", func := "roundelay/roundelaylaw35.PlanNumbers", spec := "planNumbers", unfollowed := true, recurses := true, apart := false }
def PlanNumbersSaid : Prop := planNumbersRow.holds Tryz.pinned (OpenSpec.ofChange planNumbersSpec)

/-- ITS FALSE NEIGHBOUR: 'it returns false'. Refute it at one input. -/
def planNumbersWrong : ChangeSpec := { name := "planNumbers", fn := fun _ => fun
  | [d1, d2] => { results := [.lit (.bool false)], args := [d1, d2] }
  | _ => none }
def PlanNumbersWrongFalsely : Prop := planNumbersRow.holds Tryz.pinned (OpenSpec.ofChange planNumbersWrong)

/-- 'roundelaylaw26.ScriptDecodes': WHATEVER THE INPUT: true; the input reads as it did. -/
def scriptDecodesSpec : ChangeSpec := { name := "scriptDecodes", fn := fun _ => fun
  | [d] => { results := [.lit (.bool true)], args := [d] }
  | _ => none }
def scriptDecodesRow : OpenClaim := { program := "ythifhdckfcgbkaagreat", sum := "f64375b32f3fe8f41481e51a73f9f217a0f4bbeda918a3cca1e93fcf848eee12", func := "roundelay/roundelaylaw26.ScriptDecodes", spec := "scriptDecodes", unfollowed := true, recurses := true, apart := false }
def ScriptDecodesSaid : Prop := scriptDecodesRow.holds Tryz.pinned (OpenSpec.ofChange scriptDecodesSpec)

/-- ITS FALSE NEIGHBOUR: 'it returns false'. Refute it at one input. -/
def scriptDecodesWrong : ChangeSpec := { name := "scriptDecodes", fn := fun _ => fun
  | [d] => { results := [.lit (.bool false)], args := [d] }
  | _ => none }
def ScriptDecodesWrongFalsely : Prop := scriptDecodesRow.holds Tryz.pinned (OpenSpec.ofChange scriptDecodesWrong)

/-- 'roundelaylaw26.ScriptEncodes': WHATEVER THE INPUT: true; the input reads as it did. -/
def scriptEncodesSpec : ChangeSpec := { name := "scriptEncodes", fn := fun _ => fun
  | [d] => { results := [.lit (.bool true)], args := [d] }
  | _ => none }
def scriptEncodesRow : OpenClaim := { program := "ythifhdckfcgbkaagreat", sum := "f64375b32f3fe8f41481e51a73f9f217a0f4bbeda918a3cca1e93fcf848eee12", func := "roundelay/roundelaylaw26.ScriptEncodes", spec := "scriptEncodes", unfollowed := true, recurses := true, apart := false }
def ScriptEncodesSaid : Prop := scriptEncodesRow.holds Tryz.pinned (OpenSpec.ofChange scriptEncodesSpec)

/-- ITS FALSE NEIGHBOUR: 'it returns false'. Refute it at one input. -/
def scriptEncodesWrong : ChangeSpec := { name := "scriptEncodes", fn := fun _ => fun
  | [d] => { results := [.lit (.bool false)], args := [d] }
  | _ => none }
def ScriptEncodesWrongFalsely : Prop := scriptEncodesRow.holds Tryz.pinned (OpenSpec.ofChange scriptEncodesWrong)

/- THE SECOND FORM. 'bulk': how many values and letters a reading holds, each counted each time it is reached (what is shared counts as often as it is met; a slice's spare places count too). A statement '..UptoSaid' is the law's where the arguments, and the package variables that the reading takes, are together of bulk at most 1048576: NARROWER than '..Said'. Prove '..Said' where nothing that the law and all that it calls make is longer than what came in: it says more and counts as full. Else prove '..UptoSaid'. A law counts once. -/
mutual
def uptoBulk {H : Type} : DataW H → Nat
  | .lit (.string bytes) => bytes.length + 1
  | .lit _ => 1
  | .nil => 1
  | .ptr d => uptoBulk d + 1
  | .slice elems spare => uptoBulkAll elems + uptoBulkAll spare + 1
  | .agg parts => uptoBulkAll parts + 1
  | .iface _ d => uptoBulk d + 1
  | .map entries => uptoBulkEntries entries + 1
  | .held _ => 1
def uptoBulkAll {H : Type} : List (DataW H) → Nat
  | [] => 0
  | d :: r => uptoBulk d + uptoBulkAll r
def uptoBulkEntries {H : Type} : List (Lit × DataW H) → Nat
  | [] => 0
  | x :: r => uptoBulkEntry x + uptoBulkEntries r
def uptoBulkEntry {H : Type} : Lit × DataW H → Nat
  | (.string bytes, d) => bytes.length + uptoBulk d + 1
  | (_, d) => uptoBulk d + 1
 end
def uptoSmall : (H : Type) → List (DataW H) → Bool := fun _ ds => decide (uptoBulkAll ds ≤ 1048576)
def OpenSpec.upto (s : _root_.Go.ChangeSpec) : _root_.Go.OpenSpec := { _root_.Go.OpenSpec.ofChange s with cond := some uptoSmall }

/-- 'roundelaylaw29.BoundTells', WHERE WHAT IT READS IS OF BULK AT MOST 1048576: true; the input reads as it did. -/
def boundTellsUptoRow : OpenClaim := { program := "ythifhdckfcgbkaagreat", sum := "f64375b32f3fe8f41481e51a73f9f217a0f4bbeda918a3cca1e93fcf848eee12", func := "roundelay/roundelaylaw29.BoundTells", spec := "boundTells", unfollowed := true, recurses := true, apart := false, narrowed := true }
def BoundTellsUptoSaid : Prop := boundTellsUptoRow.holds Tryz.pinned (OpenSpec.upto boundTellsSpec)

/-- 'roundelaylaw29.BoundRooms', WHERE WHAT IT READS IS OF BULK AT MOST 1048576: true; the input reads as it did. -/
def boundRoomsUptoRow : OpenClaim := { program := "ythifhdckfcgbkaagreat", sum := "f64375b32f3fe8f41481e51a73f9f217a0f4bbeda918a3cca1e93fcf848eee12", func := "roundelay/roundelaylaw29.BoundRooms", spec := "boundRooms", unfollowed := true, recurses := true, apart := false, narrowed := true }
def BoundRoomsUptoSaid : Prop := boundRoomsUptoRow.holds Tryz.pinned (OpenSpec.upto boundRoomsSpec)

/-- 'roundelaylaw35.PlanDraws', WHERE WHAT IT READS IS OF BULK AT MOST 1048576: true; the input reads as it did. -/
def planDrawsUptoRow : OpenClaim := { program := "ythifhdckfcgbkaagreat", sum := "f64375b32f3fe8f41481e51a73f9f217a0f4bbeda918a3cca1e93fcf848eee12", func := "roundelay/roundelaylaw35.PlanDraws", spec := "planDraws", unfollowed := true, recurses := true, apart := false, narrowed := true }
def PlanDrawsUptoSaid : Prop := planDrawsUptoRow.holds Tryz.pinned (OpenSpec.upto planDrawsSpec)

/-- 'roundelaylaw35.PlanNumbers', WHERE WHAT IT READS IS OF BULK AT MOST 1048576: true; the input reads as it did. -/
def planNumbersUptoRow : OpenClaim := { program := "ythifhdckfcgbkaagreat", sum := "f64375b32f3fe8f41481e51a73f9f217a0f4bbeda918a3cca1e93fcf848eee12", func := "roundelay/roundelaylaw35.PlanNumbers", spec := "planNumbers", unfollowed := true, recurses := true, apart := false, narrowed := true }
def PlanNumbersUptoSaid : Prop := planNumbersUptoRow.holds Tryz.pinned (OpenSpec.upto planNumbersSpec)

/-- 'roundelaylaw26.ScriptDecodes', WHERE WHAT IT READS IS OF BULK AT MOST 1048576: true; the input reads as it did. -/
def scriptDecodesUptoRow : OpenClaim := { program := "ythifhdckfcgbkaagreat", sum := "f64375b32f3fe8f41481e51a73f9f217a0f4bbeda918a3cca1e93fcf848eee12", func := "roundelay/roundelaylaw26.ScriptDecodes", spec := "scriptDecodes", unfollowed := true, recurses := true, apart := false, narrowed := true }
def ScriptDecodesUptoSaid : Prop := scriptDecodesUptoRow.holds Tryz.pinned (OpenSpec.upto scriptDecodesSpec)

/-- 'roundelaylaw26.ScriptEncodes', WHERE WHAT IT READS IS OF BULK AT MOST 1048576: true; the input reads as it did. -/
def scriptEncodesUptoRow : OpenClaim := { program := "ythifhdckfcgbkaagreat", sum := "f64375b32f3fe8f41481e51a73f9f217a0f4bbeda918a3cca1e93fcf848eee12", func := "roundelay/roundelaylaw26.ScriptEncodes", spec := "scriptEncodes", unfollowed := true, recurses := true, apart := false, narrowed := true }
def ScriptEncodesUptoSaid : Prop := scriptEncodesUptoRow.holds Tryz.pinned (OpenSpec.upto scriptEncodesSpec)

end Rows
end Go.Proofs.YthifhdckfcgbkaaGreat
