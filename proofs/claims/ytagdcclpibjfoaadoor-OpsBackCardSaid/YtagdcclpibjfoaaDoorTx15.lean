/-
  Texts (15): what OpsBack's row lists, and the world's shape, told as the walk asks it.
-/
import Derived.Test.YtagdcclpibjfoaaDoorTx14
import Derived.Lib.LaidTab
import Derived.MakeChecks
import Derived.HandedShaped
import Derived.Shelf.Vars
namespace Go.Proofs.YtagdcclpibjfoaaDoor
open Go.ChangeShapes Go.WideShapes Go.ChangeAt Go.RowKit Go.Vm Txt

/-- The table of powers lies third on the list. -/
theorem tabW_laid {W : World} (h : laidMetH Tryd.prog Rows.opsBackRow.laid W) : TabW W := by
  rw [MakeChecks.laidMetH_plain _ _ _ (by kernel_rfl)] at h
  obtain ⟨ps, ⟨_, _, _, _, _, _, _, _, _, _, ⟨_, _, _, _, _, _, _, _, _, _, ⟨g', t', cs, fuel, p, q, hg', ht', hvar, hd, _, _⟩, _⟩, _⟩, _⟩ := h
  have hg : Tryd.prog.globalNamed "internal/strconv.uint64pow10" = some 1 := by kernel_rfl
  obtain rfl := Option.some.inj (hg.symm.trans hg')
  have hty : ∃ t e, (Tryd.prog.globals[1]?).map (·.type) = some t ∧ Tryd.prog.underlying t = some (.array 20 e) ∧ Tryd.prog.underlying e = some (.int .u64) ∧ Tryd.prog.cellsOf e = 1 ∧ Tryd.prog.cellsOf t = 20 := ⟨184, 30, by kernel_rfl, by kernel_rfl, by kernel_rfl, by kernel_rfl, by kernel_rfl⟩
  obtain ⟨t, e, h1, h2, h3, h4, h5⟩ := hty
  obtain rfl := Option.some.inj (h1.symm.trans ht')
  have hdd : Rows.laid_internal_strconv_uint64pow10 = (Lib.tabData .u64 Lib.pow10Tab : DataW Unit) := by kernel_rfl
  unfold TabW Lib.TabIs
  rw [hvar, ← Lib.cells_of_tab h2 h3 h4 h5 (hdd ▸ hd)]
theorem maxW_shape {W : World} (h : W.ShapedOpen Tryd.prog) : MaxW W := by
  have hz : ∃ zero, ((begin Tryd.prog (fun _ _ => 0) default).world.heap[0]?).bind Obj.row? = some (zero, 3) ∧ zero.size = 1 := ⟨#[.int .i64 0], by kernel_rfl, by kernel_rfl⟩
  obtain ⟨zero, h0, hs⟩ := hz
  exact cell_of_shapedOpen_int h (Nat.le_of_ble_eq_true (by kernel_rfl)) h0 hs (by kernel_rfl) (by kernel_rfl) Tryd.underlying3
end Go.Proofs.YtagdcclpibjfoaaDoor
