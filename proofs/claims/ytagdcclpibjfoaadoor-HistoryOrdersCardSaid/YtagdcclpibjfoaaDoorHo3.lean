/-
  HistoryOrders (3): the law's walk.
-/
import Derived.Test.YtagdcclpibjfoaaDoorHo2
namespace Go.Proofs.YtagdcclpibjfoaaDoor
open Go.Vm

def kE : IntKind := .i64

/-- A record of numbers. -/
def recI (k : Nat) : AVal :=
  .agg [.int .i64 (.var k), .int .i64 (.var (k + 1)), .int .i64 (.var (k + 2)), .int .i64 (.var (k + 3)), .int .i64 (.var (k + 4)), .int .i64 (.var (k + 5)), .int .i64 (.var (k + 6)), .int .i64 (.var (k + 7)), .int .i64 (.var (k + 8)),
    .int .i64 (.var (k + 9)), .int .i64 (.var (k + 10)), .int kE (.var (k + 11)), .int .i64 (.var (k + 12)), .int .i64 (.var (k + 13)), .int .i64 (.var (k + 14)), .int .u64 (.var (k + 15))]
/-- Which of the records end before they start. -/
def ltCs (a b c : Bool) : Cs := [(.cmp .lss (.var 8) (.var 7), a), (.cmp .lss (.var 24) (.var 23), b), (.cmp .lss (.var 40) (.var 39), c)]
noncomputable def body5 : Code := Tryd.f5.body.getD .ret
noncomputable def run5 (a b c : Bool) : Option Bool := (run Tryd.prog exts (spOf specs27) 4000 false 5 (entry Tryd.f5 body5 [recI 0, recI 16, recI 32] .leaf 0 (ltCs a b c))).map (·.all (leafB (.lit true)))
theorem run5_0 : run5 false false false = some true := by kernel_rfl
theorem run5_1 : run5 false false true = some true := by kernel_rfl
theorem run5_2 : run5 false true false = some true := by kernel_rfl
theorem run5_3 : run5 false true true = some true := by kernel_rfl
theorem run5_4 : run5 true false false = some true := by kernel_rfl
theorem run5_5 : run5 true false true = some true := by kernel_rfl
theorem run5_6 : run5 true true false = some true := by kernel_rfl
theorem run5_7 : run5 true true true = some true := by kernel_rfl
theorem run5_all (a b c : Bool) : run5 a b c = some true := by
  cases a <;> cases b <;> cases c
  · exact run5_0
  · exact run5_1
  · exact run5_2
  · exact run5_3
  · exact run5_4
  · exact run5_5
  · exact run5_6
  · exact run5_7

/-- A record's value. -/
def recV (f : Nat → Int) (k : Nat) : Value :=
  .agg #[.int .i64 (f k), .int .i64 (f (k + 1)), .int .i64 (f (k + 2)), .int .i64 (f (k + 3)), .int .i64 (f (k + 4)), .int .i64 (f (k + 5)), .int .i64 (f (k + 6)), .int .i64 (f (k + 7)), .int .i64 (f (k + 8)),
    .int .i64 (f (k + 9)), .int .i64 (f (k + 10)), .int kE (f (k + 11)), .int .i64 (f (k + 12)), .int .i64 (f (k + 13)), .int .i64 (f (k + 14)), .int .u64 (f (k + 15))]
/-- The law, at any three records. -/
theorem orders_walk (w : World) (f : Nat → Int) : Calls Tryd.prog 5 #[recV f 0, recV f 16, recV f 32] w (fun e w' => e = .returned (.bool true) ∧ Framed w w') := by
  refine calls_bool (ρ := ⟨f, fun _ => false, fun _ => default, fun _ => default, fun _ => none, F0⟩) noCount exts_ok specs27_ok follows Tryd.func5 rfl (run5_all (decide (f 8 < f 7)) (decide (f 24 < f 23)) (decide (f 40 < f 39))) rfl (fun _ => rfl) (fun p hp => ?_) rfl
  rcases List.mem_cons.1 hp with rfl | hp
  · rfl
  rcases List.mem_cons.1 hp with rfl | hp
  · rfl
  rcases List.mem_cons.1 hp with rfl | hp
  · rfl
  cases hp

end Go.Proofs.YtagdcclpibjfoaaDoor
