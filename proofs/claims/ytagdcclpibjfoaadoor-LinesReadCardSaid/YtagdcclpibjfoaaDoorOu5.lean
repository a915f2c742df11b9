/-
  Ops (5): a world for the witness: what law 5's rows list; OpsUnpack's row and card.
-/
import Derived.Test.YtagdcclpibjfoaaDoorOu4
namespace Go.Proofs.YtagdcclpibjfoaaDoor
open Go.ChangeShapes Go.WideShapes Go.ChangeAt Go.RowKit Go.Vm

theorem own05 : ownKnob Tryd.prog.godebug = none := by kernel_rfl
theorem laidOut05 : laidOutB Tryd.prog = true := by kernel_rfl
/-- A table as its variable's memory bears it. -/
def flatD : Nat → DataW Unit → List Value
  | 0, _ => []
  | n + 1, d => match d with
    | .lit (.int k z) => [.int k z]
    | .agg l => l.flatMap (flatD n)
    | _ => []
def layCells (o : Obj) (vs : List Value) : Obj := match o with
  | .cells _ t frozen => .cells vs.toArray t frozen
  | o => o
def textOf : DataW Unit → Value
  | .iface _ (.ptr (.agg [.lit (.string b)])) => .string ⟨b.toArray⟩
  | _ => .string ⟨#[]⟩
noncomputable def laidWorld05 (os : Os) : World :=
  { World.holding Tryd.prog os ⟨#[], #[], []⟩ with heap :=
      ((((((((((World.holding Tryd.prog os ⟨#[], #[], []⟩).heap.modify 6 fun o => layCells o (flatD 4 Rows.laid_math_bits_deBruijn32tab)).modify 7 fun o => layCells o (flatD 4 Rows.laid_math_bits_deBruijn64tab)).modify 1 fun o => layCells o (flatD 4 Rows.laid_internal_strconv_uint64pow10)).modify 5
        fun o => layCells o (flatD 4 Rows.laid_unicode_utf8_acceptRanges)).modify 4 fun o => layCells o (flatD 4 Rows.laid_unicode_utf8_first)).modify 3 fun o => layCells o [.iface 203 (.pointer (some ⟨(World.holding Tryd.prog os ⟨#[], #[], []⟩).heap.size, 0, none⟩))]).modify 2
        fun o => layCells o [.iface 203 (.pointer (some ⟨(World.holding Tryd.prog os ⟨#[], #[], []⟩).heap.size + 1, 0, none⟩))]).push (.cells #[textOf Rows.laid_strconv_ErrRange] 205)).push (.cells #[textOf Rows.laid_strconv_ErrSyntax] 205)) }
-- UNPACK
end Go.Proofs.YtagdcclpibjfoaaDoor
