/-
  Ops (2): right operations and responses.
-/
import Derived.Test.YtjjijagclgambaaGreatDoorBa
namespace Go.Proofs.YtjjijagclgambaaGreatDoor
open Go.Vm

def orT (a b : BT) : BT := .not (.and (.not a) (.not b))
def eqT (a : IT) (n : Int) : BT := .cmp .eql a (.lit n)
def inT (a : IT) (lo hi : Int) : BT := .and (.cmp .geq a (.lit lo)) (.cmp .leq a (.lit hi))
/-- An operation is right. -/
def tRight (c k a b : IT) : BT :=
  .and (inT c 0 14) (.and (inT k 0 255) (.and (inT a 0 1023) (.and (inT b 0 1023)
    (.and (orT (eqT k 0) (.and (.cmp .geq c (.lit 4)) (.not (eqT c 8))))
      (.and (orT (eqT a 0) (orT (eqT c 1) (orT (eqT c 5) (orT (eqT c 7) (eqT c 10))))) (orT (eqT b 0) (eqT c 7)))))))
/-- A response is right. -/
def tResp (k v : IT) : BT := .and (inT k 0 5) (.and (inT v 0 268435455) (orT (eqT v 0) (orT (eqT k 0) (eqT k 4))))

def opA : AVal := .agg [.int .i64 (.var 0), .int .i64 (.var 1), .int .i64 (.var 2), .int .i64 (.var 3)]
def respA : AVal := .agg [.int .i64 (.var 0), .int .i64 (.var 1)]
noncomputable def body48 : Code := Tryz.f48.body.getD .ret
noncomputable def body56 : Code := Tryz.f56.body.getD .ret
noncomputable def body51 : Code := Tryz.f51.body.getD .ret
noncomputable def body59 : Code := Tryz.f59.body.getD .ret
theorem run51 : (run Tryz.prog [] (spOf noSpecs) 4000 false 51 (entry Tryz.f51 body51 [respA] .leaf 0 [])).map (·.all (leafB (tResp (.var 0) (.var 1)))) = some true := by kernel_rfl
theorem run59 : (run Tryz.prog [] (spOf noSpecs) 4000 false 59 (entry Tryz.f59 body59 [respA] .leaf 0 [])).map (·.all (leafB (tResp (.var 0) (.var 1)))) = some true := by kernel_rfl
/-- Is an operation of this code walked through? -/
noncomputable def runR (f : FuncId) (fn : Func) (b : Code) (c : Nat) : Option Bool :=
  (run Tryz.prog [] (spOf noSpecs) 4000 false f (entry fn b [.agg [.int .i64 (.lit (.ofNat c)), .int .i64 (.var 1), .int .i64 (.var 2), .int .i64 (.var 3)]] .leaf 0 [])).map (·.all (leafB (tRight (.lit (.ofNat c)) (.var 1) (.var 2) (.var 3))))
/-- .. and of one that is none? -/
def codeCs (low : Bool) : Cs := [(.cmp .lss (.var 0) (.lit 0), low), (.cmp .geq (.var 0) (.lit 15), !low), (.cmp .gtr (.var 0) (.lit 14), !low)]
noncomputable def runN (f : FuncId) (fn : Func) (b : Code) (low : Bool) : Option Bool :=
  (run Tryz.prog [] (spOf noSpecs) 4000 false f (entry fn b [opA] .leaf 0 (codeCs low))).map (·.all (leafB (tRight (.var 0) (.var 1) (.var 2) (.var 3))))
theorem run48_0 : runR 48 Tryz.f48 body48 0 = some true := by kernel_rfl
theorem run48_1 : runR 48 Tryz.f48 body48 1 = some true := by kernel_rfl
theorem run48_2 : runR 48 Tryz.f48 body48 2 = some true := by kernel_rfl
theorem run48_3 : runR 48 Tryz.f48 body48 3 = some true := by kernel_rfl
theorem run48_4 : runR 48 Tryz.f48 body48 4 = some true := by kernel_rfl
theorem run48_5 : runR 48 Tryz.f48 body48 5 = some true := by kernel_rfl
theorem run48_6 : runR 48 Tryz.f48 body48 6 = some true := by kernel_rfl
theorem run48_7 : runR 48 Tryz.f48 body48 7 = some true := by kernel_rfl
theorem run48_8 : runR 48 Tryz.f48 body48 8 = some true := by kernel_rfl
theorem run48_9 : runR 48 Tryz.f48 body48 9 = some true := by kernel_rfl
theorem run48_10 : runR 48 Tryz.f48 body48 10 = some true := by kernel_rfl
theorem run48_11 : runR 48 Tryz.f48 body48 11 = some true := by kernel_rfl
theorem run48_12 : runR 48 Tryz.f48 body48 12 = some true := by kernel_rfl
theorem run48_13 : runR 48 Tryz.f48 body48 13 = some true := by kernel_rfl
theorem run48_14 : runR 48 Tryz.f48 body48 14 = some true := by kernel_rfl
theorem run48_low : runN 48 Tryz.f48 body48 true = some true := by kernel_rfl
theorem run48_high : runN 48 Tryz.f48 body48 false = some true := by kernel_rfl
theorem run48_all : ∀ c, c < 15 → runR 48 Tryz.f48 body48 c = some true := by
  intro c hc
  match c, hc with
  | 0, _ => exact run48_0
  | 1, _ => exact run48_1
  | 2, _ => exact run48_2
  | 3, _ => exact run48_3
  | 4, _ => exact run48_4
  | 5, _ => exact run48_5
  | 6, _ => exact run48_6
  | 7, _ => exact run48_7
  | 8, _ => exact run48_8
  | 9, _ => exact run48_9
  | 10, _ => exact run48_10
  | 11, _ => exact run48_11
  | 12, _ => exact run48_12
  | 13, _ => exact run48_13
  | 14, _ => exact run48_14
theorem run48_none : ∀ low, runN 48 Tryz.f48 body48 low = some true := by
  intro low
  cases low
  · exact run48_high
  · exact run48_low
theorem run56_0 : runR 56 Tryz.f56 body56 0 = some true := by kernel_rfl
theorem run56_1 : runR 56 Tryz.f56 body56 1 = some true := by kernel_rfl
theorem run56_2 : runR 56 Tryz.f56 body56 2 = some true := by kernel_rfl
theorem run56_3 : runR 56 Tryz.f56 body56 3 = some true := by kernel_rfl
theorem run56_4 : runR 56 Tryz.f56 body56 4 = some true := by kernel_rfl
theorem run56_5 : runR 56 Tryz.f56 body56 5 = some true := by kernel_rfl
theorem run56_6 : runR 56 Tryz.f56 body56 6 = some true := by kernel_rfl
theorem run56_7 : runR 56 Tryz.f56 body56 7 = some true := by kernel_rfl
theorem run56_8 : runR 56 Tryz.f56 body56 8 = some true := by kernel_rfl
theorem run56_9 : runR 56 Tryz.f56 body56 9 = some true := by kernel_rfl
theorem run56_10 : runR 56 Tryz.f56 body56 10 = some true := by kernel_rfl
theorem run56_11 : runR 56 Tryz.f56 body56 11 = some true := by kernel_rfl
theorem run56_12 : runR 56 Tryz.f56 body56 12 = some true := by kernel_rfl
theorem run56_13 : runR 56 Tryz.f56 body56 13 = some true := by kernel_rfl
theorem run56_14 : runR 56 Tryz.f56 body56 14 = some true := by kernel_rfl
theorem run56_low : runN 56 Tryz.f56 body56 true = some true := by kernel_rfl
theorem run56_high : runN 56 Tryz.f56 body56 false = some true := by kernel_rfl
theorem run56_all : ∀ c, c < 15 → runR 56 Tryz.f56 body56 c = some true := by
  intro c hc
  match c, hc with
  | 0, _ => exact run56_0
  | 1, _ => exact run56_1
  | 2, _ => exact run56_2
  | 3, _ => exact run56_3
  | 4, _ => exact run56_4
  | 5, _ => exact run56_5
  | 6, _ => exact run56_6
  | 7, _ => exact run56_7
  | 8, _ => exact run56_8
  | 9, _ => exact run56_9
  | 10, _ => exact run56_10
  | 11, _ => exact run56_11
  | 12, _ => exact run56_12
  | 13, _ => exact run56_13
  | 14, _ => exact run56_14
theorem run56_none : ∀ low, runN 56 Tryz.f56 body56 low = some true := by
  intro low
  cases low
  · exact run56_high
  · exact run56_low

end Go.Proofs.YtjjijagclgambaaGreatDoor
