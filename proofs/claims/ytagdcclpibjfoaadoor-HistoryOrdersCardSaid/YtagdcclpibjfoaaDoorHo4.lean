/-
  HistoryOrders (4): what a law's end is when only new memory was written; a record's reading.
-/
import Derived.Test.YtagdcclpibjfoaaDoorHo3
import Derived.Test.YtagdcclpibjfoaaDoorCards
import Derived.Test.YtagdcclpibjfoaaDoorTie
import Derived.WalkKit
import Derived.ProofKit
import Derived.OpenShut
import Derived.Deep.DeepHandedRow
namespace Go.Proofs.YtagdcclpibjfoaaDoor
open Go.ChangeShapes Go.WideShapes Go.ChangeAt Go.RowKit Go.Vm

theorem list12 {α : Type} {l : List α} (h : l.length = 12) : ∃ a0 a1 a2 a3 a4 a5 a6 a7 a8 a9 a10 a11, l = [a0, a1, a2, a3, a4, a5, a6, a7, a8, a9, a10, a11] := by
  match l, h with
  | [a0, a1, a2, a3, a4, a5, a6, a7, a8, a9, a10, a11], _ => exact ⟨_, _, _, _, _, _, _, _, _, _, _, _, rfl⟩
theorem list4 {α : Type} {l : List α} (h : l.length = 4) : ∃ a0 a1 a2 a3, l = [a0, a1, a2, a3] := by
  match l, h with
  | [a0, a1, a2, a3], _ => exact ⟨_, _, _, _, rfl⟩
theorem list2 {α : Type} {l : List α} (h : l.length = 2) : ∃ a0 a1, l = [a0, a1] := by
  match l, h with
  | [a0, a1], _ => exact ⟨_, _, rfl⟩

theorem cells32 : Tryd.prog.cellsOf 32 = 16 := by kernel_rfl

section
variable {H : Type} {enc : TypeId × Value → H} {W : World} {base : Nat} {sp : Nat → Bool} {held : Bool}
set_option maxRecDepth 100000 in
/-- A record that reads is one of numbers. -/
theorem rec_open {r : Reach} {b0 : Nat} {v : Value} {d : DataW H} {p : List MemPlace} (hv : Value.okWide Tryd.prog W r b0 32 v) (h : DataW.Trod enc Tryd.prog W base sp held 32 v d p) (k : Nat) : ∃ f : Nat → Int, v = recV (fun i => f (i - k)) k := by
  obtain ⟨cs, rfl, hsz⟩ := okWide_struct Tryd.underlying32 hv
  obtain ⟨fuel, hf⟩ := h
  obtain ⟨l⟩ := cs
  obtain ⟨c0, c1, c2, c3, c4, c5, c6, c7, c8, c9, c10, c11, c12, c13, c14, c15, rfl⟩ := list16 (hsz.trans cells32)
  obtain ⟨xs, n, _, _, _, hlen, hg⟩ := DataW.trod_struct Tryd.underlying32 hf
  obtain ⟨y0, y1, y2, y3, y4, y5, y6, y7, y8, y9, y10, y11, rfl⟩ := list12 hlen
  have g0 := hg 0 _ rfl
  have g1 := hg 1 _ rfl
  have g2 := hg 2 _ rfl
  have g3 := hg 3 _ rfl
  have g4 := hg 4 _ rfl
  have g5 := hg 5 _ rfl
  have g6 := hg 6 _ rfl
  have g7 := hg 7 _ rfl
  have g8 := hg 8 _ rfl
  have g9 := hg 9 _ rfl
  have g10 := hg 10 _ rfl
  have g11 := hg 11 _ rfl
  simp only [Value.cells, List.getElem?_cons_succ, List.getElem?_cons_zero] at g0 g1 g2 g3 g4 g5 g6 g7 g8 g9 g10 g11
  obtain ⟨z0, rfl⟩ := one_int Tryd.underlying3 g0
  obtain ⟨z1, rfl⟩ := one_int Tryd.underlying3 g1
  obtain ⟨z6, rfl⟩ := one_int Tryd.underlying3 g3
  obtain ⟨z7, rfl⟩ := one_int Tryd.underlying3 g4
  obtain ⟨z8, rfl⟩ := one_int Tryd.underlying3 g5
  obtain ⟨z11, rfl⟩ := one_int Tryd.underlying29 g7
  obtain ⟨z12, rfl⟩ := one_int Tryd.underlying3 g8
  obtain ⟨z13, rfl⟩ := one_int Tryd.underlying3 g9
  obtain ⟨z14, rfl⟩ := one_int Tryd.underlying3 g10
  obtain ⟨z15, rfl⟩ := one_int Tryd.underlying30 g11
  obtain ⟨xs2, n2, _, _, _, hlen2, hg2⟩ := DataW.trod_struct Tryd.underlying26 g2
  obtain ⟨u0, u1, u2, u3, rfl⟩ := list4 hlen2
  have k0 := hg2 0 _ rfl
  have k1 := hg2 1 _ rfl
  have k2 := hg2 2 _ rfl
  have k3 := hg2 3 _ rfl
  obtain ⟨xs3, n3, _, _, _, hlen3, hg3⟩ := DataW.trod_struct Tryd.underlying28 g6
  obtain ⟨v0, v1, rfl⟩ := list2 hlen3
  have m0 := hg3 0 _ rfl
  have m1 := hg3 1 _ rfl
  simp only [List.getElem?_cons_succ, List.getElem?_cons_zero] at k0 k1 k2 k3 m0 m1
  obtain ⟨z2, rfl⟩ := one_int Tryd.underlying3 k0
  obtain ⟨z3, rfl⟩ := one_int Tryd.underlying3 k1
  obtain ⟨z4, rfl⟩ := one_int Tryd.underlying3 k2
  obtain ⟨z5, rfl⟩ := one_int Tryd.underlying3 k3
  obtain ⟨z9, rfl⟩ := one_int Tryd.underlying3 m0
  obtain ⟨z10, rfl⟩ := one_int Tryd.underlying3 m1
  refine ⟨fun i => [z0, z1, z2, z3, z4, z5, z6, z7, z8, z9, z10, z11, z12, z13, z14, z15].getD i 0, ?_⟩
  simp [recV, kE]
end

end Go.Proofs.YtagdcclpibjfoaaDoor
