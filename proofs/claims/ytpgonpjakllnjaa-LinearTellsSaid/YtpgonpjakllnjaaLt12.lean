/-
  LinearTells (12): the reference's Right.
-/
import Derived.Test.YtpgonpjakllnjaaLm1
namespace Go.Proofs.Ytpgonpjakllnjaa
open Go.Vm

noncomputable def body58 : Code := Try.f58.body.getD .ret
theorem run58_0 : runR 58 Try.f58 body58 0 = some true := by kernel_rfl
theorem run58_1 : runR 58 Try.f58 body58 1 = some true := by kernel_rfl
theorem run58_2 : runR 58 Try.f58 body58 2 = some true := by kernel_rfl
theorem run58_3 : runR 58 Try.f58 body58 3 = some true := by kernel_rfl
theorem run58_4 : runR 58 Try.f58 body58 4 = some true := by kernel_rfl
theorem run58_5 : runR 58 Try.f58 body58 5 = some true := by kernel_rfl
theorem run58_6 : runR 58 Try.f58 body58 6 = some true := by kernel_rfl
theorem run58_7 : runR 58 Try.f58 body58 7 = some true := by kernel_rfl
theorem run58_8 : runR 58 Try.f58 body58 8 = some true := by kernel_rfl
theorem run58_9 : runR 58 Try.f58 body58 9 = some true := by kernel_rfl
theorem run58_10 : runR 58 Try.f58 body58 10 = some true := by kernel_rfl
theorem run58_11 : runR 58 Try.f58 body58 11 = some true := by kernel_rfl
theorem run58_12 : runR 58 Try.f58 body58 12 = some true := by kernel_rfl
theorem run58_13 : runR 58 Try.f58 body58 13 = some true := by kernel_rfl
theorem run58_14 : runR 58 Try.f58 body58 14 = some true := by kernel_rfl
theorem run58_low : runN 58 Try.f58 body58 true = some true := by kernel_rfl
theorem run58_high : runN 58 Try.f58 body58 false = some true := by kernel_rfl
theorem run58_all : ∀ c, c < 15 → runR 58 Try.f58 body58 c = some true := by
  intro c hc
  match c, hc with
  | 0, _ => exact run58_0
  | 1, _ => exact run58_1
  | 2, _ => exact run58_2
  | 3, _ => exact run58_3
  | 4, _ => exact run58_4
  | 5, _ => exact run58_5
  | 6, _ => exact run58_6
  | 7, _ => exact run58_7
  | 8, _ => exact run58_8
  | 9, _ => exact run58_9
  | 10, _ => exact run58_10
  | 11, _ => exact run58_11
  | 12, _ => exact run58_12
  | 13, _ => exact run58_13
  | 14, _ => exact run58_14
theorem run58_none : ∀ low, runN 58 Try.f58 body58 low = some true := by
  intro low
  cases low
  · exact run58_high
  · exact run58_low
theorem right58 : SpecOk Try.prog 58 spRight := spRight_ok Try.func58 rfl run58_all run58_none
end Go.Proofs.Ytpgonpjakllnjaa
